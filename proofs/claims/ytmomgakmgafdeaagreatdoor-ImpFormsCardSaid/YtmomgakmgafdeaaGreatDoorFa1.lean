/-
  The small code of the program: its functions, printed by a program of our own.
-/
import Derived.Test.YtmomgakmgafdeaaGreatDoorFk
namespace Go.Proofs
end Go.Proofs
namespace Go.Pal
open Go.Proofs
set_option maxRecDepth 100000
def a187 : FN := ⟨full 4, [some q4_0], (.seq 
(.reg [⟨none, .box (.c (.agg [(.int .i64 (.ofNat 0)),(.int .i64 (.ofNat 0)),(.int .i64 (.ofNat 0)),(.int .i64 (.ofNat 0)),(.int .i64 (.ofNat 0)),(.int .u32 (.ofNat 0)),(.int .u32 (.ofNat 0)),(.int .u32 (.ofNat 0)),(.int .u32 (.ofNat 0)),(.int .i64 (.ofNat 0)),(.int .i64 (.ofNat 0)),(.int .u32 (.ofNat 0)),(.int .u32 (.ofNat 0)),(.int .u32 (.ofNat 0)),(.int .u32 (.ofNat 0)),(.int .i64 (.ofNat 0)),(.int .i64 (.ofNat 0)),(.int .u32 (.ofNat 0)),(.int .u32 (.ofNat 0)),(.int .u32 (.ofNat 0)),(.int .u32 (.ofNat 0)),(.int .i64 (.ofNat 0))]))⟩] [(q4_2,(.l 0)),(q4_12,(.c (.bool false)))]) (.seq 
(.reg [⟨none, .call (.c (.fn 105 [])) [(.c (.str [52,52,52])),(.t q4_0)]⟩,⟨none, .ext (.l 0) 0⟩,⟨none, .ext (.l 1) 1⟩,⟨none, .ext (.l 2) 2⟩] [(q4_1,(.l 0)),(q4_3,(.l 1)),(q4_4,(.l 2))]) (.seq (.seq 
(.reg [⟨none, .not (.t q4_1)⟩] [(q4_8,(.l 0))]) (.cond (.t q4_8) (.seq 
(.reg [⟨none, .build [(.int .i64 (.ofNat 0)),(.int .i64 (.ofNat 0)),(.int .i64 (.ofNat 0)),(.int .i64 (.ofNat 0)),(.int .i64 (.ofNat 0)),(.int .u32 (.ofNat 0)),(.int .u32 (.ofNat 0)),(.int .u32 (.ofNat 0)),(.int .u32 (.ofNat 0)),(.int .i64 (.ofNat 0)),(.int .i64 (.ofNat 0)),(.int .u32 (.ofNat 0)),(.int .u32 (.ofNat 0)),(.int .u32 (.ofNat 0)),(.int .u32 (.ofNat 0)),(.int .i64 (.ofNat 0)),(.int .i64 (.ofNat 0)),(.int .u32 (.ofNat 0)),(.int .u32 (.ofNat 0)),(.int .u32 (.ofNat 0)),(.int .u32 (.ofNat 0)),(.int .i64 (.ofNat 0))] []⟩,⟨none, .store 22 (.t q4_2) (.l 0)⟩] [(q4_12,(.c (.bool false)))]) .ret) .skip)) (.seq 
(.reg [⟨none, .call (.c (.fn 106 [])) [(.t q4_3),k3]⟩,⟨none, .ext (.l 0) 0⟩,⟨none, .ext (.l 1) 1⟩,⟨none, .ext (.l 2) 2⟩] [(q4_1,(.l 0)),(q4_3,(.l 1)),(q4_5,(.l 2))]) (.seq (.seq 
(.reg [⟨none, .not (.t q4_1)⟩] [(q4_9,(.l 0))]) (.cond (.t q4_9) (.seq 
(.reg [⟨none, .build [(.int .i64 (.ofNat 0)),(.int .i64 (.ofNat 0)),(.int .i64 (.ofNat 0)),(.int .i64 (.ofNat 0)),(.int .i64 (.ofNat 0)),(.int .u32 (.ofNat 0)),(.int .u32 (.ofNat 0)),(.int .u32 (.ofNat 0)),(.int .u32 (.ofNat 0)),(.int .i64 (.ofNat 0)),(.int .i64 (.ofNat 0)),(.int .u32 (.ofNat 0)),(.int .u32 (.ofNat 0)),(.int .u32 (.ofNat 0)),(.int .u32 (.ofNat 0)),(.int .i64 (.ofNat 0)),(.int .i64 (.ofNat 0)),(.int .u32 (.ofNat 0)),(.int .u32 (.ofNat 0)),(.int .u32 (.ofNat 0)),(.int .u32 (.ofNat 0)),(.int .i64 (.ofNat 0))] []⟩,⟨none, .store 22 (.t q4_2) (.l 0)⟩] [(q4_12,(.c (.bool false)))]) .ret) .skip)) (.seq 
(.reg [⟨none, .call (.c (.fn 105 [])) [(.c (.str [52])),(.t q4_3)]⟩,⟨none, .ext (.l 0) 0⟩,⟨none, .ext (.l 1) 1⟩,⟨none, .ext (.l 2) 2⟩] [(q4_1,(.l 0)),(q4_6,(.l 2))]) (.seq (.seq 
(.reg [⟨none, .not (.t q4_1)⟩] [(q4_10,(.l 0))]) (.cond (.t q4_10) (.seq 
(.reg [⟨none, .build [(.int .i64 (.ofNat 0)),(.int .i64 (.ofNat 0)),(.int .i64 (.ofNat 0)),(.int .i64 (.ofNat 0)),(.int .i64 (.ofNat 0)),(.int .u32 (.ofNat 0)),(.int .u32 (.ofNat 0)),(.int .u32 (.ofNat 0)),(.int .u32 (.ofNat 0)),(.int .i64 (.ofNat 0)),(.int .i64 (.ofNat 0)),(.int .u32 (.ofNat 0)),(.int .u32 (.ofNat 0)),(.int .u32 (.ofNat 0)),(.int .u32 (.ofNat 0)),(.int .i64 (.ofNat 0)),(.int .i64 (.ofNat 0)),(.int .u32 (.ofNat 0)),(.int .u32 (.ofNat 0)),(.int .u32 (.ofNat 0)),(.int .u32 (.ofNat 0)),(.int .i64 (.ofNat 0))] []⟩,⟨none, .store 22 (.t q4_2) (.l 0)⟩] [(q4_12,(.c (.bool false)))]) .ret) .skip)) (.seq 
(.drw [(⟨none, .ia 1 (.t q4_4) k0⟩,[]),(⟨none, .load 1 false (.l 0)⟩,[]),(⟨none, .ia 1 (.t q4_4) k1⟩,[]),(⟨none, .load 1 false (.l 0)⟩,[]),(⟨none, .ia 1 (.t q4_4) k2⟩,[]),(⟨none, .load 1 false (.l 0)⟩,[]),(⟨none, .ia 6 (.t q4_5) k0⟩,[]),(⟨none, .load 6 true (.l 0)⟩,[]),(⟨none, .ia 6 (.t q4_5) k1⟩,[]),(⟨none, .load 6 true (.l 0)⟩,[]),(⟨none, .ia 6 (.t q4_5) k2⟩,[]),(⟨none, .load 6 true (.l 0)⟩,[]),(⟨none, .ia 1 (.t q4_6) k0⟩,[]),(⟨none, .load 1 false (.l 0)⟩,[]),(⟨none, .build [(.int .i64 (.ofNat 0)),(.int .i64 (.ofNat 0)),(.int .i64 (.ofNat 0)),(.int .i64 (.ofNat 0)),(.int .i64 (.ofNat 0)),(.int .u32 (.ofNat 0)),(.int .u32 (.ofNat 0)),(.int .u32 (.ofNat 0)),(.int .u32 (.ofNat 0)),(.int .i64 (.ofNat 0)),(.int .i64 (.ofNat 0)),(.int .u32 (.ofNat 0)),(.int .u32 (.ofNat 0)),(.int .u32 (.ofNat 0)),(.int .u32 (.ofNat 0)),(.int .i64 (.ofNat 0)),(.int .i64 (.ofNat 0)),(.int .u32 (.ofNat 0)),(.int .u32 (.ofNat 0)),(.int .u32 (.ofNat 0)),(.int .u32 (.ofNat 0)),(.int .i64 (.ofNat 0))] [(0,1,(.l 12)),(1,1,(.l 10)),(2,1,(.l 8)),(3,6,(.l 6)),(9,6,(.l 4)),(15,6,(.l 2)),(21,1,(.l 0))]⟩,[]),(⟨none, .box (.c (.agg [(.int .i64 (.ofNat 0)),(.int .i64 (.ofNat 0)),(.int .i64 (.ofNat 0)),(.int .i64 (.ofNat 0)),(.int .i64 (.ofNat 0)),(.int .u32 (.ofNat 0)),(.int .u32 (.ofNat 0)),(.int .u32 (.ofNat 0)),(.int .u32 (.ofNat 0)),(.int .i64 (.ofNat 0)),(.int .i64 (.ofNat 0)),(.int .u32 (.ofNat 0)),(.int .u32 (.ofNat 0)),(.int .u32 (.ofNat 0)),(.int .u32 (.ofNat 0)),(.int .i64 (.ofNat 0)),(.int .i64 (.ofNat 0)),(.int .u32 (.ofNat 0)),(.int .u32 (.ofNat 0)),(.int .u32 (.ofNat 0)),(.int .u32 (.ofNat 0)),(.int .i64 (.ofNat 0))]))⟩,[]),(⟨none, .store 22 (.l 0) (.l 1)⟩,[])] [(q4_7,(.l 1))]) (.seq (.seq 
(.reg [⟨none, .load 22 true (.t q4_7)⟩,⟨none, .call (.c (.fn 236 [])) [(.l 0)]⟩,⟨none, .bin .ne (.l 0) (.t q4_0)⟩] [(q4_11,(.l 0))]) (.cond (.t q4_11) (.seq 
(.reg [⟨none, .build [(.int .i64 (.ofNat 0)),(.int .i64 (.ofNat 0)),(.int .i64 (.ofNat 0)),(.int .i64 (.ofNat 0)),(.int .i64 (.ofNat 0)),(.int .u32 (.ofNat 0)),(.int .u32 (.ofNat 0)),(.int .u32 (.ofNat 0)),(.int .u32 (.ofNat 0)),(.int .i64 (.ofNat 0)),(.int .i64 (.ofNat 0)),(.int .u32 (.ofNat 0)),(.int .u32 (.ofNat 0)),(.int .u32 (.ofNat 0)),(.int .u32 (.ofNat 0)),(.int .i64 (.ofNat 0)),(.int .i64 (.ofNat 0)),(.int .u32 (.ofNat 0)),(.int .u32 (.ofNat 0)),(.int .u32 (.ofNat 0)),(.int .u32 (.ofNat 0)),(.int .i64 (.ofNat 0))] []⟩,⟨none, .store 22 (.t q4_2) (.l 0)⟩] [(q4_12,(.c (.bool false)))]) .ret) .skip)) (.seq 
(.reg [⟨none, .load 22 true (.t q4_7)⟩,⟨none, .store 22 (.t q4_2) (.l 0)⟩] [(q4_12,(.c (.bool true)))]) .ret)))))))))), [(q4_2, some (22,true)),(q4_12, none)]⟩
def a188 : FN := ⟨full 5, [some q5_0], (.seq 
(.reg [] [(q5_1,(.c (.bool false))),(q5_8,(.c .nilsl)),(q5_10,(.c .nilsl))]) (.seq 
(.reg [⟨none, .call (.c (.fn 105 [])) [(.c (.str [49])),(.t q5_0)]⟩,⟨none, .ext (.l 0) 0⟩,⟨none, .ext (.l 1) 1⟩,⟨none, .ext (.l 2) 2⟩] [(q5_1,(.l 0)),(q5_2,(.l 2)),(q5_5,(.l 1))]) (.seq (.seq 
(.reg [⟨none, .not (.t q5_1)⟩] [(q5_12,(.l 0))]) (.cond (.t q5_12) (.seq 
(.reg [] [(q5_1,(.c (.bool false))),(q5_8,(.c .nilsl)),(q5_10,(.c .nilsl))]) .ret) .skip)) (.seq (.seq 
(.reg [⟨none, .ia 1 (.t q5_2) k0⟩,⟨none, .load 1 false (.l 0)⟩] [(q5_3,k0),(q5_4,(.l 0))]) (.block 0 (.loop (.seq 
(.reg [⟨none, .bin .lt (.t q5_3) (.t q5_4)⟩] [(q5_13,(.l 0))]) (.seq (.cond (.t q5_13) .skip (.exit 0)) (.seq (.block 1 (.seq 
(.reg [⟨none, .call (.c (.fn 105 [])) [(.c (.str [50,49,50,49])),(.t q5_5)]⟩,⟨none, .ext (.l 0) 0⟩,⟨none, .ext (.l 1) 1⟩,⟨none, .ext (.l 2) 2⟩] [(q5_6,(.l 0)),(q5_7,(.l 1)),(q5_9,(.l 2))]) (.seq (.seq 
(.reg [⟨none, .not (.t q5_6)⟩] [(q5_14,(.l 0))]) (.cond (.t q5_14) (.seq 
(.reg [] [(q5_1,(.c (.bool false))),(q5_8,(.c .nilsl)),(q5_10,(.c .nilsl))]) .ret) .skip)) (.seq 
(.reg [⟨none, .call (.c (.fn 106 [])) [(.t q5_7),k1]⟩,⟨none, .ext (.l 0) 0⟩,⟨none, .ext (.l 1) 1⟩,⟨none, .ext (.l 2) 2⟩] [(q5_6,(.l 0)),(q5_7,(.l 1)),(q5_11,(.l 2))]) (.seq (.seq 
(.reg [⟨none, .not (.t q5_6)⟩] [(q5_15,(.l 0))]) (.cond (.t q5_15) (.seq 
(.reg [] [(q5_1,(.c (.bool false))),(q5_8,(.c .nilsl)),(q5_10,(.c .nilsl))]) .ret) .skip)) 
(.drw [(⟨none, .ia 1 (.t q5_9) k0⟩,[]),(⟨none, .load 1 false (.l 0)⟩,[]),(⟨none, .ia 1 (.t q5_9) k1⟩,[]),(⟨none, .load 1 false (.l 0)⟩,[]),(⟨none, .ia 1 (.t q5_9) k2⟩,[]),(⟨none, .load 1 false (.l 0)⟩,[]),(⟨none, .ia 1 (.t q5_9) k3⟩,[]),(⟨none, .load 1 false (.l 0)⟩,[]),(⟨none, .build [(.int .i64 (.ofNat 0)),(.int .i64 (.ofNat 0)),(.int .i64 (.ofNat 0)),(.int .i64 (.ofNat 0)),.nilsl] [(0,1,(.l 6)),(1,1,(.l 4)),(2,1,(.l 2)),(3,1,(.l 0))]⟩,[]),(⟨none, .mks 1 5 [(.int .i64 (.ofNat 0)),(.int .i64 (.ofNat 0)),(.int .i64 (.ofNat 0)),(.int .i64 (.ofNat 0)),.nilsl] [(0,5,(.l 0))]⟩,[]),(⟨none, .app 5 (.t q5_8) (.l 0)⟩,[]),(⟨none, .ia 6 (.t q5_11) k0⟩,[10]),(⟨none, .load 6 true (.l 0)⟩,[10]),(⟨none, .mks 1 6 [(.int .i64 (.ofNat 0)),(.int .i64 (.ofNat 0)),(.int .u32 (.ofNat 0)),(.int .u32 (.ofNat 0)),(.int .u32 (.ofNat 0)),(.int .u32 (.ofNat 0))] [(0,6,(.l 0))]⟩,[10]),(⟨none, .app 6 (.t q5_10) (.l 0)⟩,[])] [(q5_5,(.t q5_7)),(q5_8,(.l 4)),(q5_10,(.l 0))])))))) 
(.reg [⟨none, .bin .add (.t q5_3) k1⟩] [(q5_3,(.l 0))]))))))) (.seq (.seq 
(.reg [⟨none, .call (.c (.fn 237 [])) [(.t q5_8),(.t q5_10)]⟩,⟨none, .bin .ne (.l 0) (.t q5_0)⟩] [(q5_16,(.l 0))]) (.cond (.t q5_16) (.seq 
(.reg [] [(q5_1,(.c (.bool false))),(q5_8,(.c .nilsl)),(q5_10,(.c .nilsl))]) .ret) .skip)) (.seq 
(.reg [] [(q5_1,(.c (.bool true))),(q5_8,(.t q5_8)),(q5_10,(.t q5_10))]) .ret)))))), [(q5_8, none),(q5_10, none),(q5_1, none)]⟩
def a189 : FN := ⟨full 5, [some q5_0,some q5_1], (.seq 
(.reg [⟨none, .box (.t q5_0)⟩,⟨none, .box (.t q5_1)⟩,⟨none, .box (.c (.agg [.nilsl,.nilsl,(.int .i64 (.ofNat 0)),(.int .i64 (.ofNat 0)),(.bool false),.nilsl,.nilsl,.nilsl,(.bool false)]))⟩] [(q5_2,(.l 2)),(q5_3,(.l 1)),(q5_7,(.l 0))]) (.seq 
(.drw [(⟨none, .call (.c (.fn 238 [])) []⟩,[]),(⟨none, .load 5 true (.t q5_2)⟩,[0]),(⟨none, .mksl 6 32 [(.int .i64 (.ofNat 0)),(.int .i64 (.ofNat 0)),(.int .u32 (.ofNat 0)),(.int .u32 (.ofNat 0)),(.int .u32 (.ofNat 0)),(.int .u32 (.ofNat 0))] k8 k8⟩,[0]),(⟨none, .mksl 6 32 [(.int .i64 (.ofNat 0)),(.int .i64 (.ofNat 0)),(.int .u32 (.ofNat 0)),(.int .u32 (.ofNat 0)),(.int .u32 (.ofNat 0)),(.int .u32 (.ofNat 0))] (.c (.int .i64 (.ofNat 32))) (.c (.int .i64 (.ofNat 32)))⟩,[0]),(⟨none, .build [.nilsl,.nilsl,(.int .i64 (.ofNat 0)),(.int .i64 (.ofNat 0)),(.bool false),.nilsl,.nilsl,.nilsl,(.bool false)] [(0,5,(.l 2)),(5,1,(.l 3)),(6,1,(.l 1)),(7,1,(.l 0))]⟩,[]),(⟨none, .box (.c (.agg [.nilsl,.nilsl,(.int .i64 (.ofNat 0)),(.int .i64 (.ofNat 0)),(.bool false),.nilsl,.nilsl,.nilsl,(.bool false)]))⟩,[0]),(⟨none, .store 9 (.l 0) (.l 1)⟩,[])] [(q5_6,(.l 1))]) (.seq 
(.reg [⟨none, .load 5 true (.t q5_2)⟩,⟨none, .load 6 true (.t q5_3)⟩,⟨none, .call (.c (.fn 115 [])) [(.l 1),(.l 0),k3]⟩,⟨none, .ext (.l 0) 0⟩,⟨none, .ext (.l 1) 1⟩] [(q5_4,(.l 1))]) (.seq 
(.reg [⟨none, .call (.c (.fn 239 [])) [(.t q5_4)]⟩,⟨none, .ext (.l 0) 0⟩,⟨none, .ext (.l 1) 1⟩] [(q5_5,(.l 0)),(q5_8,(.l 1))]) (.seq (.seq 
(.reg [⟨none, .not (.t q5_5)⟩] [(q5_14,(.l 0))]) (.cond (.t q5_14) (.seq 
(.reg [⟨none, .call (.c (.fn 240 [])) [(.t q5_6)]⟩] []) (.seq 
(.reg [⟨none, .load 9 true (.t q5_6)⟩,⟨none, .store 9 (.t q5_7) (.l 0)⟩] []) .ret)) .skip)) (.seq 
(.reg [⟨none, .fa 6 (.t q5_6)⟩,⟨none, .store 1 (.l 0) (.t q5_8)⟩] []) (.seq (.seq 
(.reg [⟨none, .len (.t q5_8)⟩] [(q5_9,k0),(q5_10,(.l 0)),(q5_11,(.t q5_8))]) (.block 0 (.loop (.seq 
(.reg [⟨none, .bin .lt (.t q5_9) (.t q5_10)⟩] [(q5_15,(.l 0))]) (.seq (.cond (.t q5_15) .skip (.exit 0)) (.seq (.block 1 (.seq 
(.reg [⟨none, .ia 6 (.t q5_11) (.t q5_9)⟩,⟨none, .load 6 true (.l 0)⟩,⟨none, .box (.c (.agg [(.int .i64 (.ofNat 0)),(.int .i64 (.ofNat 0)),(.int .u32 (.ofNat 0)),(.int .u32 (.ofNat 0)),(.int .u32 (.ofNat 0)),(.int .u32 (.ofNat 0))]))⟩,⟨none, .store 6 (.l 0) (.l 1)⟩] [(q5_12,(.t q5_9)),(q5_13,(.l 1))]) (.seq 
(.reg [⟨none, .bin .eq (.t q5_12) k0⟩,⟨(some ((.l 0),false)), .load 6 true (.t q5_13)⟩,⟨(some ((.l 1),false)), .build [(.int .i64 (.ofNat 0)),(.int .i64 (.ofNat 0)),(.int .u32 (.ofNat 0)),(.int .u32 (.ofNat 0)),(.int .u32 (.ofNat 0)),(.int .u32 (.ofNat 0))] []⟩,⟨(some ((.l 2),false)), .eqa [1, 1, 1, 1, 1, 1] true (.l 1) (.l 0)⟩,⟨none, .pick (.l 3) (.c (.bool true)) (.l 0)⟩] [(q5_16,(.l 0))]) (.cond (.t q5_16) 
(.reg [⟨none, .call (.c (.fn 241 [])) [(.t q5_6),(.t q5_12)]⟩] []) .skip)))) 
(.reg [⟨none, .bin .add (.t q5_9) k1⟩] [(q5_9,(.l 0))]))))))) (.seq (.seq 
(.reg [⟨none, .fa 5 (.t q5_6)⟩,⟨none, .load 1 false (.l 0)⟩,⟨none, .call (.c (.fn 242 [])) [(.l 0)]⟩,⟨none, .not (.l 0)⟩] [(q5_17,(.l 0))]) (.cond (.t q5_17) 
(.reg [⟨none, .call (.c (.fn 240 [])) [(.t q5_6)]⟩] []) .skip)) (.seq 
(.reg [⟨none, .load 9 true (.t q5_6)⟩,⟨none, .store 9 (.t q5_7) (.l 0)⟩] []) .ret))))))))), [(q5_7, some (9,true))]⟩
def a190 : FN := ⟨full 3, [some q3_0], (.seq 
(.reg [⟨none, .box (.t q3_0)⟩] [(q3_1,(.l 0)),(q3_6,(.c (.bool false)))]) (.seq (.seq 
(.reg [⟨none, .fa 0 (.t q3_1)⟩,⟨none, .fa 0 (.l 0)⟩,⟨none, .load 1 false (.l 0)⟩,⟨none, .bin .lt (.l 0) k1⟩,⟨(some ((.l 0),false)), .fa 0 (.t q3_1)⟩,⟨(some ((.l 1),false)), .fa 0 (.l 0)⟩,⟨(some ((.l 2),false)), .load 1 false (.l 0)⟩,⟨(some ((.l 3),false)), .bin .gt (.l 0) (.c (.int .i64 (.ofNat 65535)))⟩,⟨none, .pick (.l 4) (.c (.bool true)) (.l 0)⟩,⟨(some ((.l 0),false)), .fa 0 (.t q3_1)⟩,⟨(some ((.l 1),false)), .fa 4 (.l 0)⟩,⟨(some ((.l 2),false)), .load 1 false (.l 0)⟩,⟨(some ((.l 3),false)), .call (.c (.fn 243 [])) [(.l 0)]⟩,⟨(some ((.l 4),false)), .not (.l 0)⟩,⟨none, .pick (.l 5) (.c (.bool true)) (.l 0)⟩,⟨(some ((.l 0),false)), .fa 0 (.t q3_1)⟩,⟨(some ((.l 1),false)), .fa 3 (.l 0)⟩,⟨(some ((.l 2),false)), .load 1 false (.l 0)⟩,⟨(some ((.l 3),false)), .bin .lt (.l 0) k0⟩,⟨none, .pick (.l 4) (.c (.bool true)) (.l 0)⟩,⟨(some ((.l 0),false)), .fa 0 (.t q3_1)⟩,⟨(some ((.l 1),false)), .fa 3 (.l 0)⟩,⟨(some ((.l 2),false)), .load 1 false (.l 0)⟩,⟨(some ((.l 3),false)), .bin .gt (.l 0) (.c (.int .i64 (.ofNat 255)))⟩,⟨none, .pick (.l 4) (.c (.bool true)) (.l 0)⟩] [(q3_3,(.l 0))]) (.cond (.t q3_3) (.seq 
(.reg [] [(q3_6,(.c (.bool false)))]) .ret) .skip)) (.seq (.seq 
(.reg [⟨none, .fa 0 (.t q3_1)⟩,⟨none, .fa 1 (.l 0)⟩,⟨none, .load 1 false (.l 0)⟩] [(q3_2,(.l 0))]) (.block 0 (.seq 
(.reg [⟨none, .bin .eq (.t q3_2) k1⟩] [(q3_4,(.l 0))]) (.cond (.t q3_4) (.seq 
(.reg [⟨none, .fa 0 (.t q3_1)⟩,⟨none, .fa 2 (.l 0)⟩,⟨none, .load 1 false (.l 0)⟩,⟨none, .bin .eq (.l 0) k0⟩,⟨(some ((.l 0),false)), .fa 5 (.t q3_1)⟩,⟨(some ((.l 1),false)), .load 1 false (.l 0)⟩,⟨(some ((.l 2),false)), .fa 0 (.t q3_1)⟩,⟨(some ((.l 3),false)), .fa 2 (.l 0)⟩,⟨(some ((.l 4),false)), .load 1 false (.l 0)⟩,⟨(some ((.l 5),false)), .call (.c (.fn 244 [])) [(.l 3),(.l 0),k2]⟩,⟨(some ((.l 6),false)), .mov (.l 0)⟩,⟨(some ((.l 0),true)), .fa 5 (.t q3_1)⟩,⟨(some ((.l 1),true)), .load 1 false (.l 0)⟩,⟨(some ((.l 2),true)), .fa 0 (.t q3_1)⟩,⟨(some ((.l 3),true)), .fa 0 (.l 0)⟩,⟨(some ((.l 4),true)), .load 1 false (.l 0)⟩,⟨(some ((.l 5),true)), .call (.c (.fn 245 [])) [(.l 3),(.l 0)]⟩,⟨(some ((.l 6),true)), .not (.l 0)⟩,⟨(some ((.l 14),false)), .pick (.l 7) (.l 0) (.c (.bool false))⟩,⟨none, .pick (.l 15) (.c (.bool true)) (.l 0)⟩] [(q3_6,(.l 0))]) .ret) (.seq 
(.reg [⟨none, .bin .eq (.t q3_2) k2⟩] [(q3_5,(.l 0))]) (.cond (.t q3_5) (.seq 
(.reg [⟨none, .fa 0 (.t q3_1)⟩,⟨none, .fa 3 (.l 0)⟩,⟨none, .load 1 false (.l 0)⟩,⟨none, .bin .eq (.l 0) k0⟩,⟨(some ((.l 0),true)), .fa 5 (.t q3_1)⟩,⟨(some ((.l 1),true)), .load 1 false (.l 0)⟩,⟨(some ((.l 2),true)), .fa 0 (.t q3_1)⟩,⟨(some ((.l 3),true)), .fa 2 (.l 0)⟩,⟨(some ((.l 4),true)), .load 1 false (.l 0)⟩,⟨(some ((.l 5),true)), .call (.c (.fn 244 [])) [(.l 3),(.l 0),k1]⟩,⟨none, .pick (.l 6) (.l 0) (.c (.bool false))⟩] [(q3_6,(.l 0))]) .ret) .skip)))))) (.seq 
(.reg [] [(q3_6,(.c (.bool false)))]) .ret)))), [(q3_6, none)]⟩
def a191 : FN := ⟨full 4, [some q4_0,some q4_1,some q4_7], (.seq 
(.reg [⟨none, .box (.t q4_0)⟩,⟨none, .box (.t q4_1)⟩] [(q4_2,(.l 0)),(q4_3,(.l 1)),(q4_10,(.c (.str []))),(q4_11,(.c (.bool false)))]) (.seq (.seq 
(.reg [⟨none, .fa 0 (.t q4_2)⟩,⟨none, .load 1 false (.l 0)⟩,⟨none, .bin .lt (.l 0) (.c (.int .i64 (.ofNat 14)))⟩] [(q4_8,(.l 0))]) (.cond (.t q4_8) (.seq 
(.reg [] [(q4_10,(.c (.str []))),(q4_11,(.c (.bool false)))]) .ret) .skip)) (.seq 
(.reg [⟨none, .load 5 true (.t q4_3)⟩,⟨none, .fa 0 (.t q4_2)⟩,⟨none, .load 1 false (.l 0)⟩,⟨none, .call (.c (.fn 44 [])) [(.l 2),(.l 0)]⟩,⟨none, .ext (.l 0) 0⟩,⟨none, .ext (.l 1) 1⟩] [(q4_4,(.l 1)),(q4_5,(.l 0))]) (.seq (.seq 
(.reg [⟨none, .call (.c (.fn 246 [])) [(.t q4_4)]⟩,⟨none, .box (.c (.agg [(.int .i64 (.ofNat 0)),(.int .i64 (.ofNat 0)),(.str []),(.bool false)]))⟩,⟨none, .store 4 (.l 0) (.l 1)⟩] [(q4_6,(.l 1))]) (.seq 
(.reg [⟨(some ((.t q4_5),true)), .load 4 true (.t q4_6)⟩,⟨(some ((.t q4_5),true)), .load 6 true (.t q4_2)⟩,⟨(some ((.t q4_5),true)), .mov (.t q4_7)⟩,⟨(some ((.t q4_5),true)), .call (.c (.fn 247 [])) [(.l 2),(.l 1),(.l 0)]⟩,⟨none, .pick (.t q4_5) (.l 0) (.c (.bool false))⟩] [(q4_9,(.l 0))]) (.cond (.t q4_9) (.seq 
(.reg [⟨none, .fa 0 (.t q4_6)⟩,⟨none, .fa 0 (.l 0)⟩,⟨none, .fa 2 (.l 0)⟩,⟨none, .load 1 false (.l 0)⟩] [(q4_10,(.l 0)),(q4_11,(.c (.bool true)))]) .ret) .skip))) (.seq 
(.reg [] [(q4_10,(.c (.str []))),(q4_11,(.c (.bool false)))]) .ret))))), [(q4_10, none),(q4_11, none)]⟩
def a192 : FN := ⟨full 4, [some q4_0,some q4_1], (.seq 
(.reg [] [(q4_10,(.c .nilsl)),(q4_11,(.c (.str []))),(q4_12,(.c (.bool false)))]) (.seq (.seq 
(.reg [⟨none, .call (.c (.fn 248 [])) [(.t q4_0)]⟩,⟨none, .not (.l 0)⟩,⟨(some ((.l 0),false)), .mov (.t q4_1)⟩,⟨(some ((.l 1),false)), .lens (.l 0)⟩,⟨(some ((.l 2),false)), .mov (.t q4_0)⟩,⟨(some ((.l 3),false)), .call (.c (.fn 249 [])) [(.l 0)]⟩,⟨(some ((.l 4),false)), .bin .lt (.l 2) (.l 0)⟩,⟨none, .pick (.l 5) (.c (.bool true)) (.l 0)⟩] [(q4_6,(.l 0))]) (.cond (.t q4_6) (.seq 
(.reg [] [(q4_10,(.c .nilsl)),(q4_11,(.c (.str []))),(q4_12,(.c (.bool false)))]) .ret) .skip)) (.seq 
(.reg [] [(q4_5,(.c .nilsl))]) (.seq (.seq 
(.reg [⟨none, .call (.c (.fn 249 [])) [(.t q4_0)]⟩,⟨none, .bin .mul k8 (.l 0)⟩] [(q4_2,k0),(q4_3,(.l 0))]) (.block 0 (.loop (.seq 
(.reg [⟨none, .bin .lt (.t q4_2) (.t q4_3)⟩] [(q4_7,(.l 0))]) (.seq (.cond (.t q4_7) .skip (.exit 0)) (.seq (.block 1 (.seq 
(.reg [] [(q4_4,(.t q4_2))]) (.seq (.seq 
(.reg [⟨none, .bin .quo (.t q4_4) k8⟩,⟨none, .idx (.t q4_1) (.l 0)⟩,⟨none, .bin .rem (.t q4_4) k8⟩,⟨none, .bin .shr (.l 1) (.l 0)⟩,⟨none, .bin .and (.l 0) (.c (.int .u8 (.ofNat 1)))⟩,⟨none, .bin .eq (.l 0) (.c (.int .u8 (.ofNat 0)))⟩] [(q4_8,(.l 0))]) (.cond (.t q4_8) (.exit 1) .skip)) (.seq (.seq 
(.reg [⟨none, .bin .ge (.t q4_4) (.t q4_0)⟩] [(q4_9,(.l 0))]) (.cond (.t q4_9) (.seq 
(.reg [] [(q4_10,(.c .nilsl)),(q4_11,(.c (.str []))),(q4_12,(.c (.bool false)))]) .ret) .skip)) 
(.reg [⟨none, .bin .add (.c (.int .i64 (.ofNat 14))) (.t q4_4)⟩,⟨none, .mks 1 1 [(.int .i64 (.ofNat 0))] [(0,1,(.l 0))]⟩,⟨none, .app 1 (.t q4_5) (.l 0)⟩] [(q4_5,(.l 0))]))))) 
(.reg [⟨none, .bin .add (.t q4_2) k1⟩] [(q4_2,(.l 0))]))))))) (.seq 
(.drw [(⟨none, .call (.c (.fn 250 [])) [(.t q4_5)]⟩,[]),(⟨none, .call (.c (.fn 249 [])) [(.t q4_0)]⟩,[]),(⟨none, .slc 0 (.t q4_1) (some (.l 0)) none none⟩,[])] [(q4_10,(.l 2)),(q4_11,(.l 0)),(q4_12,(.c (.bool true)))]) .ret))))), [(q4_10, none),(q4_11, none),(q4_12, none)]⟩
def a193 : FN := ⟨full 3, [some q3_1,some q3_0], (.seq 
(.reg [⟨none, .box (.t q3_0)⟩] [(q3_2,(.l 0)),(q3_4,(.c (.str [])))]) (.seq (.seq 
(.reg [⟨none, .load 4 true (.t q3_2)⟩,⟨none, .call (.c (.fn 251 [])) [(.t q3_1),(.l 0)]⟩,⟨none, .not (.l 0)⟩] [(q3_3,(.l 0))]) (.cond (.t q3_3) (.seq 
(.reg [] [(q3_4,(.c (.str [])))]) .ret) .skip)) (.seq 
(.drw [(⟨none, .fa 0 (.t q3_2)⟩,[]),(⟨none, .load 1 false (.l 0)⟩,[]),(⟨none, .call (.c (.fn 252 [])) [(.t q3_1),(.l 0)]⟩,[]),(⟨none, .fa 1 (.t q3_2)⟩,[2]),(⟨none, .load 1 false (.l 0)⟩,[2]),(⟨none, .call (.c (.fn 252 [])) [(.t q3_1),(.l 0)]⟩,[]),(⟨none, .fa 2 (.t q3_2)⟩,[5, 2]),(⟨none, .load 1 false (.l 0)⟩,[5, 2]),(⟨none, .call (.c (.fn 252 [])) [(.t q3_1),(.l 0)]⟩,[]),(⟨none, .fa 3 (.t q3_2)⟩,[8, 5, 2]),(⟨none, .load 1 false (.l 0)⟩,[8, 5, 2]),(⟨none, .call (.c (.fn 252 [])) [(.t q3_1),(.l 0)]⟩,[]),(⟨none, .bin .add (.l 9) (.l 6)⟩,[11, 8]),(⟨none, .bin .add (.l 0) (.l 4)⟩,[11]),(⟨none, .bin .add (.l 0) (.l 2)⟩,[])] [(q3_4,(.l 0))]) .ret))), [(q3_4, none)]⟩
def a194 : FN := ⟨full 2, [some q2_0,some q2_1], (.seq 
(.reg [] [(q2_2,(.c .nilsl))]) (.seq 
(.reg [⟨none, .build [.nilsl,.nilsl] [(0,1,(.t q2_0)),(1,1,(.t q2_1))]⟩,⟨none, .call (.c (.fn 253 [])) [(.l 0),(.c (.fn 254 []))]⟩] [(q2_2,(.l 0))]) .ret)), [(q2_2, none)]⟩
def a195 : FN := ⟨full 2, [some q2_0,some q2_1], (.seq 
(.reg [] [(q2_2,(.c .nilsl))]) (.seq 
(.reg [⟨none, .build [.nilsl,.nilsl] [(0,1,(.t q2_0)),(1,1,(.t q2_1))]⟩,⟨none, .call (.c (.fn 253 [])) [(.l 0),(.c (.fn 255 []))]⟩] [(q2_2,(.l 0))]) .ret)), [(q2_2, none)]⟩
def a196 : FN := ⟨full 3, [some q3_0], (.seq 
(.reg [⟨none, .box (.t q3_0)⟩,⟨none, .box (.c (.agg [.nilsl,.nilsl,(.int .i64 (.ofNat 0)),(.int .i64 (.ofNat 0)),(.bool false),(.int .i64 (.ofNat 0)),(.int .i64 (.ofNat 0)),(.int .u32 (.ofNat 0)),(.int .u32 (.ofNat 0)),(.int .u32 (.ofNat 0)),(.int .u32 (.ofNat 0)),(.int .i64 (.ofNat 0)),(.int .i64 (.ofNat 0)),(.int .i64 (.ofNat 0)),(.int .i64 (.ofNat 0)),(.int .i64 (.ofNat 0)),(.int .u32 (.ofNat 0)),(.int .u32 (.ofNat 0)),(.int .u32 (.ofNat 0)),(.int .u32 (.ofNat 0)),(.int .i64 (.ofNat 0)),(.int .i64 (.ofNat 0)),(.int .u32 (.ofNat 0)),(.int .u32 (.ofNat 0)),(.int .u32 (.ofNat 0)),(.int .u32 (.ofNat 0)),(.int .i64 (.ofNat 0)),(.int .i64 (.ofNat 0)),(.int .u32 (.ofNat 0)),(.int .u32 (.ofNat 0)),(.int .u32 (.ofNat 0)),(.int .u32 (.ofNat 0)),(.int .i64 (.ofNat 0)),.nilsl,.nilsl,.nilsl,.nilsl,(.int .i64 (.ofNat 0)),(.int .i64 (.ofNat 0)),.nilsl,(.bool false)]))⟩] [(q3_1,(.l 1)),(q3_5,(.l 0))]) (.seq 
(.drw [(⟨none, .fa 0 (.t q3_1)⟩,[]),(⟨none, .fa 0 (.l 0)⟩,[]),(⟨none, .load 1 false (.l 0)⟩,[]),(⟨none, .call (.c (.fn 51 [])) [(.l 0)]⟩,[]),(⟨none, .fa 0 (.t q3_1)⟩,[3]),(⟨none, .fa 1 (.l 0)⟩,[3]),(⟨none, .load 1 false (.l 0)⟩,[3]),(⟨none, .call (.c (.fn 52 [])) [(.l 0)]⟩,[]),(⟨none, .fa 0 (.t q3_1)⟩,[7, 3]),(⟨none, .fa 2 (.l 0)⟩,[7, 3]),(⟨none, .load 1 false (.l 0)⟩,[7, 3]),(⟨none, .fa 0 (.t q3_1)⟩,[7, 3]),(⟨none, .fa 3 (.l 0)⟩,[7, 3]),(⟨none, .load 1 false (.l 0)⟩,[7, 3]),(⟨none, .fa 0 (.t q3_1)⟩,[7, 3]),(⟨none, .fa 4 (.l 0)⟩,[7, 3]),(⟨none, .load 1 false (.l 0)⟩,[7, 3]),(⟨none, .build [.nilsl,.nilsl,(.int .i64 (.ofNat 0)),(.int .i64 (.ofNat 0)),(.bool false)] [(0,1,(.l 13)),(1,1,(.l 9)),(2,1,(.l 6)),(3,1,(.l 3)),(4,1,(.l 0))]⟩,[]),(⟨none, .fa 0 (.t q3_1)⟩,[]),(⟨none, .store 5 (.l 0) (.l 1)⟩,[])] []) (.seq 
(.drw [(⟨none, .fa 33 (.t q3_1)⟩,[]),(⟨none, .fa 0 (.l 0)⟩,[]),(⟨none, .load 1 false (.l 0)⟩,[]),(⟨none, .call (.c (.fn 256 [])) [(.l 0)]⟩,[]),(⟨none, .fa 33 (.t q3_1)⟩,[3]),(⟨none, .fa 1 (.l 0)⟩,[3]),(⟨none, .load 1 false (.l 0)⟩,[3]),(⟨none, .call (.c (.fn 256 [])) [(.l 0)]⟩,[]),(⟨none, .fa 33 (.t q3_1)⟩,[7, 3]),(⟨none, .fa 2 (.l 0)⟩,[7, 3]),(⟨none, .load 1 false (.l 0)⟩,[7, 3]),(⟨none, .call (.c (.fn 256 [])) [(.l 0)]⟩,[]),(⟨none, .fa 33 (.t q3_1)⟩,[11, 7, 3]),(⟨none, .fa 3 (.l 0)⟩,[11, 7, 3]),(⟨none, .load 1 false (.l 0)⟩,[11, 7, 3]),(⟨none, .call (.c (.fn 256 [])) [(.l 0)]⟩,[]),(⟨none, .build [.nilsl,.nilsl,.nilsl,.nilsl] [(0,1,(.l 12)),(1,1,(.l 8)),(2,1,(.l 4)),(3,1,(.l 0))]⟩,[]),(⟨none, .fa 33 (.t q3_1)⟩,[]),(⟨none, .store 4 (.l 0) (.l 1)⟩,[])] []) (.seq 
(.reg [⟨none, .fa 39 (.t q3_1)⟩,⟨none, .load 1 false (.l 0)⟩,⟨none, .call (.c (.fn 257 [])) [(.l 0)]⟩,⟨none, .fa 39 (.t q3_1)⟩,⟨none, .store 1 (.l 0) (.l 1)⟩] []) (.seq (.seq 
(.reg [⟨none, .fa 39 (.t q3_1)⟩,⟨none, .load 1 false (.l 0)⟩,⟨none, .len (.l 0)⟩] [(q3_2,k0),(q3_3,(.l 0))]) (.block 0 (.loop (.seq 
(.reg [⟨none, .bin .lt (.t q3_2) (.t q3_3)⟩] [(q3_6,(.l 0))]) (.seq (.cond (.t q3_6) .skip (.exit 0)) (.seq (.block 1 (.seq 
(.reg [] [(q3_4,(.t q3_2))]) 
(.drw [(⟨none, .fa 39 (.t q3_1)⟩,[]),(⟨none, .load 1 false (.l 0)⟩,[]),(⟨none, .ia 5 (.l 0) (.t q3_4)⟩,[]),(⟨none, .fa 4 (.l 0)⟩,[]),(⟨none, .load 1 false (.l 0)⟩,[]),(⟨none, .call (.c (.fn 258 [])) [(.l 0)]⟩,[]),(⟨none, .fa 39 (.t q3_1)⟩,[5]),(⟨none, .load 1 false (.l 0)⟩,[5]),(⟨none, .ia 5 (.l 0) (.t q3_4)⟩,[]),(⟨none, .fa 4 (.l 0)⟩,[]),(⟨none, .store 1 (.l 0) (.l 4)⟩,[])] []))) 
(.reg [⟨none, .bin .add (.t q3_2) k1⟩] [(q3_2,(.l 0))]))))))) (.seq 
(.reg [⟨none, .load 41 true (.t q3_1)⟩,⟨none, .store 41 (.t q3_5) (.l 0)⟩] []) .ret)))))), [(q3_5, some (41,true))]⟩
def a197 : FN := ⟨full 3, [some q3_0,some q3_5,some q3_1], (.seq 
(.reg [⟨none, .box (.c (.agg [.nilsl,.nilsl,(.int .i64 (.ofNat 0)),(.int .i64 (.ofNat 0)),(.int .u32 (.ofNat 0)),(.int .u32 (.ofNat 0)),(.int .u32 (.ofNat 0)),(.int .u32 (.ofNat 0)),.nilsl,.nilsl]))⟩] [(q3_4,(.l 0)),(q3_7,(.c (.bool false)))]) (.seq 
(.drw [(⟨none, .call (.c (.fn 261 [])) [(.t q3_0)]⟩,[]),(⟨none, .nilc (.t q3_0)⟩,[0]),(⟨none, .fa 0 (.l 0)⟩,[0]),(⟨none, .fa 33 (.l 0)⟩,[0]),(⟨none, .load 4 true (.l 0)⟩,[0]),(⟨none, .call (.c (.fn 260 [])) [(.l 4),(.l 0)]⟩,[]),(⟨none, .nilc (.t q3_0)⟩,[5, 0]),(⟨none, .fa 0 (.l 0)⟩,[5, 0]),(⟨none, .fa 38 (.l 0)⟩,[5, 0]),(⟨none, .load 1 false (.l 0)⟩,[5, 0]),(⟨none, .bin .add (.l 0) k1⟩,[5, 0]),(⟨none, .nilc (.t q3_0)⟩,[5, 0]),(⟨none, .fa 0 (.l 0)⟩,[5, 0]),(⟨none, .fa 39 (.l 0)⟩,[5, 0]),(⟨none, .load 1 false (.l 0)⟩,[5, 0]),(⟨none, .call (.c (.fn 259 [])) [(.l 4),(.l 9),(.l 0),(.t q3_1)]⟩,[]),(⟨none, .ext (.l 0) 0⟩,[]),(⟨none, .box (.c (.agg [.nilsl,.nilsl,(.int .i64 (.ofNat 0)),(.int .i64 (.ofNat 0)),(.int .u32 (.ofNat 0)),(.int .u32 (.ofNat 0)),(.int .u32 (.ofNat 0)),(.int .u32 (.ofNat 0)),.nilsl,.nilsl]))⟩,[15, 5, 0]),(⟨none, .store 10 (.l 0) (.l 1)⟩,[]),(⟨none, .ext (.l 3) 1⟩,[18])] [(q3_2,(.l 0)),(q3_3,(.l 2))]) (.seq (.seq 
(.reg [⟨none, .not (.t q3_2)⟩] [(q3_6,(.l 0))]) (.cond (.t q3_6) (.seq 
(.reg [⟨none, .load 10 true (.t q3_3)⟩,⟨none, .store 10 (.t q3_4) (.l 0)⟩] [(q3_7,(.c (.bool false)))]) .ret) .skip)) (.seq 
(.drw [(⟨none, .nilc (.t q3_0)⟩,[]),(⟨none, .fa 0 (.l 0)⟩,[]),(⟨none, .fa 33 (.l 0)⟩,[]),(⟨none, .load 4 true (.l 0)⟩,[]),(⟨none, .fa 8 (.t q3_3)⟩,[]),(⟨none, .load 1 false (.l 0)⟩,[]),(⟨none, .call (.c (.fn 262 [])) [(.l 2),(.l 0)]⟩,[]),(⟨none, .nilc (.t q3_0)⟩,[]),(⟨none, .fa 0 (.l 0)⟩,[]),(⟨none, .fa 33 (.l 0)⟩,[]),(⟨none, .store 4 (.l 0) (.l 3)⟩,[])] []) (.seq 
(.drw [(⟨(some ((.t q3_5),false)), .mov (.t q3_0)⟩,[]),(⟨(some ((.t q3_5),false)), .nilc (.l 0)⟩,[]),(⟨(some ((.t q3_5),false)), .fa 0 (.l 0)⟩,[]),(⟨(some ((.t q3_5),false)), .load 41 true (.l 0)⟩,[]),(⟨(some ((.t q3_5),false)), .call (.c (.fn 263 [])) [(.l 0)]⟩,[]),(⟨none, .load 10 true (.t q3_3)⟩,[4]),(⟨none, .store 10 (.t q3_4) (.l 0)⟩,[]),(⟨(some ((.t q3_5),false)), .bin .ge (.l 2) k6⟩,[6]),(⟨none, .pick (.t q3_5) (.c (.bool true)) (.l 0)⟩,[6])] [(q3_7,(.l 0))]) .ret))))), [(q3_4, some (10,true)),(q3_7, none)]⟩
def a198 : FN := ⟨full 3, [some q3_0,some q3_1], (.seq 
(.reg [] [(q3_5,(.c (.bool false)))]) (.seq 
(.reg [⟨none, .nilc (.t q3_0)⟩,⟨none, .fa 0 (.l 0)⟩,⟨none, .fa 0 (.l 0)⟩,⟨none, .load 5 true (.l 0)⟩,⟨none, .call (.c (.fn 264 [])) [(.l 0),(.t q3_1)]⟩,⟨none, .ext (.l 0) 0⟩,⟨none, .ext (.l 1) 1⟩,⟨none, .box (.c (.agg [.nilsl,.nilsl,(.int .i64 (.ofNat 0)),(.int .i64 (.ofNat 0)),(.bool false)]))⟩,⟨none, .store 5 (.l 0) (.l 2)⟩] [(q3_2,(.l 2)),(q3_3,(.l 1))]) (.seq (.seq 
(.reg [] [(q3_4,(.t q3_2))]) (.cond (.t q3_4) 
(.reg [⟨none, .load 5 true (.t q3_3)⟩,⟨none, .call (.c (.fn 265 [])) [(.l 0)]⟩,⟨none, .ext (.l 0) 0⟩,⟨none, .ext (.l 1) 1⟩,⟨none, .store 5 (.t q3_3) (.l 1)⟩] [(q3_2,(.l 1))]) .skip)) (.seq 
(.reg [⟨none, .load 5 true (.t q3_3)⟩,⟨none, .nilc (.t q3_0)⟩,⟨none, .fa 0 (.l 0)⟩,⟨none, .fa 0 (.l 0)⟩,⟨none, .store 5 (.l 0) (.l 3)⟩] []) (.seq 
(.reg [] [(q3_5,(.t q3_2))]) .ret))))), [(q3_5, none)]⟩
def a199 : FN := ⟨full 4, [some q4_1,some q4_0], (.seq 
(.reg [⟨none, .box (.t q4_0)⟩] [(q4_2,(.l 0)),(q4_13,(.c .nilsl))]) (.seq 
(.drw [(⟨none, .nilc (.t q4_1)⟩,[]),(⟨none, .fa 0 (.l 0)⟩,[]),(⟨none, .fa 38 (.l 0)⟩,[]),(⟨none, .load 1 false (.l 0)⟩,[]),(⟨none, .bin .add (.l 0) k1⟩,[]),(⟨none, .nilc (.t q4_1)⟩,[]),(⟨none, .fa 0 (.l 0)⟩,[]),(⟨none, .fa 37 (.l 0)⟩,[]),(⟨none, .load 1 false (.l 0)⟩,[]),(⟨none, .nilc (.t q4_1)⟩,[]),(⟨none, .fa 0 (.l 0)⟩,[]),(⟨none, .fa 38 (.l 0)⟩,[]),(⟨none, .store 1 (.l 0) (.l 7)⟩,[]),(⟨none, .bin .add (.l 4) k1⟩,[12]),(⟨none, .bin .rem (.l 0) k6⟩,[12]),(⟨none, .nilc (.t q4_1)⟩,[]),(⟨none, .fa 0 (.l 0)⟩,[]),(⟨none, .fa 37 (.l 0)⟩,[]),(⟨none, .store 1 (.l 0) (.l 3)⟩,[])] []) (.seq 
(.drw [(⟨none, .call (.c (.fn 261 [])) [(.t q4_1)]⟩,[]),(⟨none, .nilc (.t q4_1)⟩,[0]),(⟨none, .fa 0 (.l 0)⟩,[0]),(⟨none, .fa 33 (.l 0)⟩,[0]),(⟨none, .load 4 true (.l 0)⟩,[0]),(⟨none, .call (.c (.fn 193 [])) [(.l 4),(.l 0)]⟩,[]),(⟨none, .nilc (.t q4_1)⟩,[5, 0]),(⟨none, .fa 0 (.l 0)⟩,[5, 0]),(⟨none, .fa 38 (.l 0)⟩,[5, 0]),(⟨none, .load 1 false (.l 0)⟩,[5, 0]),(⟨none, .build [(.int .i64 (.ofNat 0)),(.int .i64 (.ofNat 0)),(.str [])] [(0,1,k5),(1,1,(.l 0)),(2,1,(.l 4))]⟩,[]),(⟨none, .box (.c (.agg [(.int .i64 (.ofNat 0)),(.int .i64 (.ofNat 0)),(.str [])]))⟩,[5, 0]),(⟨none, .store 3 (.l 0) (.l 1)⟩,[])] [(q4_3,(.l 1))]) (.seq 
(.drw [(⟨none, .fa 9 (.t q4_2)⟩,[]),(⟨none, .load 1 false (.l 0)⟩,[]),(⟨none, .ia 1 (.l 0) k0⟩,[]),(⟨none, .load 1 false (.l 0)⟩,[]),(⟨none, .load 3 true (.t q4_3)⟩,[]),(⟨none, .call (.c (.fn 266 [])) [(.l 1),(.l 0)]⟩,[]),(⟨none, .nilc (.t q4_1)⟩,[5]),(⟨none, .fa 0 (.l 0)⟩,[5]),(⟨none, .fa 38 (.l 0)⟩,[5]),(⟨none, .load 1 false (.l 0)⟩,[5]),(⟨none, .nilc (.t q4_1)⟩,[]),(⟨none, .fa 0 (.l 0)⟩,[]),(⟨none, .fa 11 (.l 0)⟩,[]),(⟨none, .fa 0 (.l 0)⟩,[]),(⟨none, .store 1 (.l 0) (.l 4)⟩,[]),(⟨none, .fa 2 (.t q4_2)⟩,[14, 5]),(⟨none, .load 6 true (.l 0)⟩,[14, 5]),(⟨none, .nilc (.t q4_1)⟩,[]),(⟨none, .fa 0 (.l 0)⟩,[]),(⟨none, .fa 11 (.l 0)⟩,[]),(⟨none, .fa 3 (.l 0)⟩,[]),(⟨none, .store 6 (.l 0) (.l 4)⟩,[]),(⟨none, .nilc (.t q4_1)⟩,[]),(⟨none, .fa 0 (.l 0)⟩,[]),(⟨none, .fa 11 (.l 0)⟩,[]),(⟨none, .fa 9 (.l 0)⟩,[]),(⟨none, .store 6 (.l 0) (.l 20)⟩,[])] []) (.seq 
(.drw [(⟨none, .nilc (.t q4_1)⟩,[]),(⟨none, .fa 0 (.l 0)⟩,[]),(⟨none, .fa 11 (.l 0)⟩,[]),(⟨none, .load 22 true (.l 0)⟩,[]),(⟨none, .call (.c (.fn 236 [])) [(.l 0)]⟩,[]),(⟨none, .nilc (.t q4_1)⟩,[4]),(⟨none, .fa 0 (.l 0)⟩,[4]),(⟨none, .fa 38 (.l 0)⟩,[4]),(⟨none, .load 1 false (.l 0)⟩,[4]),(⟨none, .build [(.int .i64 (.ofNat 0)),(.int .i64 (.ofNat 0)),(.str [])] [(0,1,k6),(1,1,(.l 0)),(2,1,(.l 4))]⟩,[]),(⟨none, .box (.c (.agg [(.int .i64 (.ofNat 0)),(.int .i64 (.ofNat 0)),(.str [])]))⟩,[4]),(⟨none, .store 3 (.l 0) (.l 1)⟩,[])] [(q4_4,(.l 1))]) (.seq 
(.drw [(⟨none, .fa 9 (.t q4_2)⟩,[]),(⟨none, .load 1 false (.l 0)⟩,[]),(⟨none, .ia 1 (.l 0) k1⟩,[]),(⟨none, .load 1 false (.l 0)⟩,[]),(⟨none, .load 3 true (.t q4_4)⟩,[]),(⟨none, .call (.c (.fn 266 [])) [(.l 1),(.l 0)]⟩,[]),(⟨none, .nilc (.t q4_1)⟩,[]),(⟨none, .fa 0 (.l 0)⟩,[]),(⟨none, .fa 5 (.l 0)⟩,[]),(⟨none, .store 6 (.l 0) (.l 3)⟩,[])] []) (.seq 
(.reg [⟨none, .fa 1 (.t q4_2)⟩,⟨none, .load 1 false (.l 0)⟩,⟨none, .fa 9 (.t q4_2)⟩,⟨none, .load 1 false (.l 0)⟩,⟨none, .app 1 (.l 2) (.l 0)⟩] [(q4_10,(.l 0))]) (.seq 
(.reg [] [(q4_9,(.c .nilsl))]) (.seq (.seq 
(.reg [⟨none, .fa 0 (.t q4_2)⟩,⟨none, .load 1 false (.l 0)⟩,⟨none, .load 3 true (.t q4_3)⟩,⟨none, .load 3 true (.t q4_4)⟩,⟨none, .mks 2 3 [(.int .i64 (.ofNat 0)),(.int .i64 (.ofNat 0)),(.str [])] [(0,3,(.l 1)),(3,3,(.l 0))]⟩,⟨none, .app 3 (.l 3) (.l 0)⟩,⟨none, .len (.l 0)⟩] [(q4_5,k0),(q4_6,(.l 0)),(q4_7,(.l 1))]) (.block 0 (.loop (.seq 
(.reg [⟨none, .bin .lt (.t q4_5) (.t q4_6)⟩] [(q4_12,(.l 0))]) (.seq (.cond (.t q4_12) .skip (.exit 0)) (.seq (.block 1 (.seq 
(.reg [⟨none, .ia 3 (.t q4_7) (.t q4_5)⟩,⟨none, .load 3 true (.l 0)⟩,⟨none, .box (.c (.agg [(.int .i64 (.ofNat 0)),(.int .i64 (.ofNat 0)),(.str [])]))⟩,⟨none, .store 3 (.l 0) (.l 1)⟩] [(q4_8,(.l 1)),(q4_11,(.t q4_5))]) 
(.drw [(⟨none, .load 3 true (.t q4_8)⟩,[]),(⟨none, .call (.c (.fn 267 [])) [(.l 0)]⟩,[]),(⟨none, .ia 1 (.t q4_10) (.t q4_11)⟩,[1]),(⟨none, .load 1 false (.l 0)⟩,[1]),(⟨none, .build [(.int .i64 (.ofNat 0)),(.str [])] [(0,1,(.l 0)),(1,1,(.l 2))]⟩,[]),(⟨none, .mks 1 2 [(.int .i64 (.ofNat 0)),(.str [])] [(0,2,(.l 0))]⟩,[]),(⟨none, .app 2 (.t q4_9) (.l 0)⟩,[])] [(q4_9,(.l 0))]))) 
(.reg [⟨none, .bin .add (.t q4_5) k1⟩] [(q4_5,(.l 0))]))))))) (.seq 
(.reg [] [(q4_13,(.t q4_9))]) .ret)))))))))), [(q4_13, none)]⟩
def a200 : FN := ⟨full 2, [some q2_1,some q2_0], (.seq 
(.reg [⟨none, .box (.t q2_0)⟩] [(q2_2,(.l 0)),(q2_3,(.c (.bool false)))]) (.seq 
(.drw [(⟨none, .call (.c (.fn 261 [])) [(.t q2_1)]⟩,[]),(⟨none, .load 9 true (.t q2_2)⟩,[0]),(⟨none, .call (.c (.fn 268 [])) [(.l 1),(.l 0),k0]⟩,[]),(⟨none, .call (.c (.fn 198 [])) [(.t q2_1),(.l 0)]⟩,[]),(⟨(some ((.l 0),true)), .mov (.t q2_1)⟩,[]),(⟨(some ((.l 1),true)), .call (.c (.fn 261 [])) [(.l 0)]⟩,[]),(⟨(some ((.l 2),true)), .load 9 true (.t q2_2)⟩,[5]),(⟨(some ((.l 3),true)), .call (.c (.fn 268 [])) [(.l 1),(.l 0),k1]⟩,[]),(⟨(some ((.l 4),true)), .mov (.t q2_1)⟩,[7, 5]),(⟨(some ((.l 5),true)), .call (.c (.fn 198 [])) [(.l 0),(.l 1)]⟩,[]),(⟨none, .pick (.l 6) (.l 0) (.c (.bool false))⟩,[])] [(q2_3,(.l 0))]) .ret)), [(q2_3, none)]⟩
def a201 : FN := ⟨full 4, [some q4_0,some q4_1,some q4_8], (.seq 
(.reg [⟨none, .box (.t q4_0)⟩,⟨none, .box (.t q4_1)⟩] [(q4_2,(.l 1)),(q4_3,(.l 0)),(q4_11,(.c (.str []))),(q4_12,(.c (.bool false)))]) (.seq 
(.reg [⟨none, .load 5 true (.t q4_2)⟩,⟨none, .fa 0 (.t q4_3)⟩,⟨none, .load 1 false (.l 0)⟩,⟨none, .call (.c (.fn 164 [])) [(.l 2),(.l 0)]⟩,⟨none, .ext (.l 0) 0⟩,⟨none, .ext (.l 1) 1⟩] [(q4_4,(.l 0)),(q4_5,(.l 1))]) (.seq (.seq 
(.drw [(⟨none, .not (.t q4_4)⟩,[]),(⟨(some ((.l 0),false)), .fa 0 (.t q4_3)⟩,[]),(⟨(some ((.l 1),false)), .load 1 false (.l 0)⟩,[]),(⟨(some ((.l 2),false)), .bin .lt (.l 0) (.c (.int .i64 (.ofNat 14)))⟩,[]),(⟨none, .pick (.l 3) (.c (.bool true)) (.l 0)⟩,[]),(⟨(some ((.l 0),false)), .mov (.t q4_5)⟩,[]),(⟨(some ((.l 1),false)), .call (.c (.fn 126 [])) [(.l 0)]⟩,[]),(⟨(some ((.l 2),false)), .fa 2 (.t q4_3)⟩,[6]),(⟨(some ((.l 3),false)), .load 4 true (.l 0)⟩,[6]),(⟨(some ((.l 4),false)), .eqa [1, 1, 1, 1] true (.l 2) (.l 0)⟩,[]),(⟨none, .pick (.l 5) (.c (.bool true)) (.l 0)⟩,[])] [(q4_9,(.l 0))]) (.cond (.t q4_9) (.seq 
(.reg [] [(q4_11,(.c (.str []))),(q4_12,(.c (.bool false)))]) .ret) .skip)) (.seq 
(.reg [⟨none, .call (.c (.fn 269 [])) [(.t q4_5)]⟩,⟨none, .ext (.l 0) 0⟩,⟨none, .ext (.l 1) 1⟩,⟨none, .box (.c (.agg [(.int .i64 (.ofNat 0)),(.int .i64 (.ofNat 0)),(.str [])]))⟩,⟨none, .store 3 (.l 0) (.l 2)⟩] [(q4_6,(.l 2)),(q4_7,(.l 1))]) (.seq (.seq 
(.reg [⟨none, .not (.t q4_6)⟩,⟨(some ((.l 0),false)), .fa 1 (.t q4_7)⟩,⟨(some ((.l 1),false)), .load 1 false (.l 0)⟩,⟨(some ((.l 2),false)), .fa 1 (.t q4_3)⟩,⟨(some ((.l 3),false)), .load 1 false (.l 0)⟩,⟨(some ((.l 4),false)), .bin .ne (.l 2) (.l 0)⟩,⟨none, .pick (.l 5) (.c (.bool true)) (.l 0)⟩,⟨(some ((.l 0),false)), .fa 0 (.t q4_7)⟩,⟨(some ((.l 1),false)), .load 1 false (.l 0)⟩,⟨(some ((.l 2),false)), .mov (.t q4_8)⟩,⟨(some ((.l 3),false)), .bin .ne (.l 1) (.l 0)⟩,⟨none, .pick (.l 4) (.c (.bool true)) (.l 0)⟩] [(q4_10,(.l 0))]) (.cond (.t q4_10) (.seq 
(.reg [] [(q4_11,(.c (.str []))),(q4_12,(.c (.bool false)))]) .ret) .skip)) (.seq 
(.reg [⟨none, .fa 2 (.t q4_7)⟩,⟨none, .load 1 false (.l 0)⟩] [(q4_11,(.l 0)),(q4_12,(.c (.bool true)))]) .ret)))))), [(q4_11, none),(q4_12, none)]⟩
def a202 : FN := ⟨full 4, [some q4_1,some q4_3], (.seq 
(.reg [] [(q4_10,(.c .nilsl)),(q4_11,(.c (.str []))),(q4_12,(.c (.bool false)))]) (.seq 
(.reg [] [(q4_6,(.c .nilsl))]) (.seq (.seq 
(.reg [] [(q4_0,k0)]) (.block 0 (.loop (.seq (.seq 
(.reg [⟨none, .lens (.t q4_1)⟩,⟨none, .bin .lt (.t q4_0) (.l 0)⟩] [(q4_7,(.l 0))]) (.cond (.t q4_7) .skip (.exit 0))) (.seq (.block 1 (.seq 
(.reg [⟨none, .idx (.t q4_1) (.t q4_0)⟩,⟨none, .conv .i64 (.l 0)⟩,⟨none, .bin .sub (.l 0) (.c (.int .i64 (.ofNat 48)))⟩] [(q4_2,(.l 0))]) (.seq (.seq 
(.reg [⟨none, .bin .lt (.t q4_2) k1⟩,⟨(some ((.l 0),false)), .mov (.t q4_2)⟩,⟨(some ((.l 1),false)), .bin .gt (.l 0) k4⟩,⟨none, .pick (.l 2) (.c (.bool true)) (.l 0)⟩,⟨(some ((.l 0),false)), .mov (.t q4_3)⟩,⟨(some ((.l 1),false)), .lens (.l 0)⟩,⟨(some ((.l 2),false)), .mov (.t q4_2)⟩,⟨(some ((.l 3),false)), .bin .lt (.l 1) (.l 0)⟩,⟨none, .pick (.l 4) (.c (.bool true)) (.l 0)⟩] [(q4_8,(.l 0))]) (.cond (.t q4_8) (.seq 
(.reg [] [(q4_10,(.c .nilsl)),(q4_11,(.c (.str []))),(q4_12,(.c (.bool false)))]) .ret) .skip)) (.seq 
(.reg [] [(q4_5,k0)]) (.seq (.seq 
(.reg [] [(q4_4,k0)]) (.block 2 (.loop (.seq (.seq 
(.reg [⟨none, .bin .lt (.t q4_4) (.t q4_2)⟩] [(q4_9,(.l 0))]) (.cond (.t q4_9) .skip (.exit 2))) (.seq (.block 3 
(.reg [⟨none, .bin .mul (.t q4_5) (.c (.int .i64 (.ofNat 256)))⟩,⟨none, .idx (.t q4_3) (.t q4_4)⟩,⟨none, .conv .i64 (.l 0)⟩,⟨none, .bin .add (.l 2) (.l 0)⟩] [(q4_5,(.l 0))])) 
(.reg [⟨none, .bin .add (.t q4_4) k1⟩] [(q4_4,(.l 0))])))))) 
(.drw [(⟨none, .mks 1 1 [(.int .i64 (.ofNat 0))] [(0,1,(.t q4_5))]⟩,[]),(⟨none, .app 1 (.t q4_6) (.l 0)⟩,[]),(⟨none, .slc 0 (.t q4_3) (some (.t q4_2)) none none⟩,[1])] [(q4_3,(.l 0)),(q4_6,(.l 1))])))))) 
(.reg [⟨none, .bin .add (.t q4_0) k1⟩] [(q4_0,(.l 0))])))))) (.seq 
(.reg [] [(q4_10,(.t q4_6)),(q4_11,(.t q4_3)),(q4_12,(.c (.bool true)))]) .ret)))), [(q4_10, none),(q4_11, none),(q4_12, none)]⟩
def a203 : FN := ⟨full 4, [some q4_2,some q4_1], (.seq 
(.reg [] [(q4_11,(.c .nilsl)),(q4_12,(.c (.str []))),(q4_13,(.c (.bool false)))]) (.seq 
(.reg [] [(q4_6,(.c .nilsl))]) (.seq (.seq 
(.reg [] [(q4_0,k0)]) (.block 0 (.loop (.seq (.seq 
(.reg [⟨none, .bin .lt (.t q4_0) (.t q4_1)⟩] [(q4_8,(.l 0))]) (.cond (.t q4_8) .skip (.exit 0))) (.seq (.block 1 (.seq 
(.reg [⟨none, .call (.c (.fn 202 [])) [(.c (.str [50,52,52,52,52,52])),(.t q4_2)]⟩,⟨none, .ext (.l 0) 0⟩,⟨none, .ext (.l 1) 1⟩,⟨none, .ext (.l 2) 2⟩] [(q4_3,(.l 0)),(q4_4,(.l 2)),(q4_7,(.l 1))]) (.seq (.seq 
(.reg [⟨none, .not (.t q4_3)⟩] [(q4_9,(.l 0))]) (.cond (.t q4_9) (.seq 
(.reg [] [(q4_11,(.c .nilsl)),(q4_12,(.c (.str []))),(q4_13,(.c (.bool false)))]) .ret) .skip)) (.seq 
(.drw [(⟨none, .ia 1 (.t q4_4) k0⟩,[]),(⟨none, .load 1 false (.l 0)⟩,[]),(⟨none, .ia 1 (.t q4_4) k1⟩,[]),(⟨none, .load 1 false (.l 0)⟩,[]),(⟨none, .ia 1 (.t q4_4) k2⟩,[]),(⟨none, .load 1 false (.l 0)⟩,[]),(⟨none, .conv .u32 (.l 0)⟩,[]),(⟨none, .ia 1 (.t q4_4) k3⟩,[]),(⟨none, .load 1 false (.l 0)⟩,[]),(⟨none, .conv .u32 (.l 0)⟩,[]),(⟨none, .ia 1 (.t q4_4) k4⟩,[]),(⟨none, .load 1 false (.l 0)⟩,[]),(⟨none, .conv .u32 (.l 0)⟩,[]),(⟨none, .ia 1 (.t q4_4) k5⟩,[]),(⟨none, .load 1 false (.l 0)⟩,[]),(⟨none, .conv .u32 (.l 0)⟩,[]),(⟨none, .build [(.int .u32 (.ofNat 0)),(.int .u32 (.ofNat 0)),(.int .u32 (.ofNat 0)),(.int .u32 (.ofNat 0))] [(0,1,(.l 9)),(1,1,(.l 6)),(2,1,(.l 3)),(3,1,(.l 0))]⟩,[]),(⟨none, .build [(.int .i64 (.ofNat 0)),(.int .i64 (.ofNat 0)),(.int .u32 (.ofNat 0)),(.int .u32 (.ofNat 0)),(.int .u32 (.ofNat 0)),(.int .u32 (.ofNat 0))] [(0,1,(.l 15)),(1,1,(.l 13)),(2,4,(.l 0))]⟩,[]),(⟨none, .box (.c (.agg [(.int .i64 (.ofNat 0)),(.int .i64 (.ofNat 0)),(.int .u32 (.ofNat 0)),(.int .u32 (.ofNat 0)),(.int .u32 (.ofNat 0)),(.int .u32 (.ofNat 0))]))⟩,[]),(⟨none, .store 6 (.l 0) (.l 1)⟩,[])] [(q4_5,(.l 1))]) (.seq (.seq 
(.reg [⟨none, .load 6 true (.t q4_5)⟩,⟨none, .call (.c (.fn 220 [])) [(.l 0)]⟩,⟨none, .not (.l 0)⟩] [(q4_10,(.l 0))]) (.cond (.t q4_10) (.seq 
(.reg [] [(q4_11,(.c .nilsl)),(q4_12,(.c (.str []))),(q4_13,(.c (.bool false)))]) .ret) .skip)) 
(.reg [⟨none, .load 6 true (.t q4_5)⟩,⟨none, .mks 1 6 [(.int .i64 (.ofNat 0)),(.int .i64 (.ofNat 0)),(.int .u32 (.ofNat 0)),(.int .u32 (.ofNat 0)),(.int .u32 (.ofNat 0)),(.int .u32 (.ofNat 0))] [(0,6,(.l 0))]⟩,⟨none, .app 6 (.t q4_6) (.l 0)⟩] [(q4_2,(.t q4_7)),(q4_6,(.l 0))])))))) 
(.reg [⟨none, .bin .add (.t q4_0) k1⟩] [(q4_0,(.l 0))])))))) (.seq 
(.reg [] [(q4_11,(.t q4_6)),(q4_12,(.t q4_2)),(q4_13,(.c (.bool true)))]) .ret)))), [(q4_11, none),(q4_12, none),(q4_13, none)]⟩
def a204 : FN := ⟨full 4, [some q4_0,some q4_1], (.seq 
(.reg [] [(q4_10,(.c .nilsl)),(q4_11,(.c (.str []))),(q4_12,(.c (.bool false)))]) (.seq (.seq 
(.reg [⟨none, .call (.c (.fn 215 [])) [(.t q4_0)]⟩,⟨none, .not (.l 0)⟩] [(q4_5,(.l 0))]) (.cond (.t q4_5) (.seq 
(.reg [] [(q4_10,(.c .nilsl)),(q4_11,(.c (.str []))),(q4_12,(.c (.bool false)))]) .ret) .skip)) (.seq 
(.reg [⟨none, .bin .add (.t q4_0) k7⟩,⟨none, .bin .quo (.l 0) k8⟩] [(q4_2,(.l 0))]) (.seq (.seq 
(.reg [⟨none, .lens (.t q4_1)⟩,⟨none, .bin .lt (.l 0) (.t q4_2)⟩] [(q4_6,(.l 0))]) (.cond (.t q4_6) (.seq 
(.reg [] [(q4_10,(.c .nilsl)),(q4_11,(.c (.str []))),(q4_12,(.c (.bool false)))]) .ret) .skip)) (.seq 
(.reg [] [(q4_4,(.c .nilsl))]) (.seq (.seq 
(.reg [] [(q4_3,k0)]) (.block 0 (.loop (.seq (.seq 
(.reg [⟨none, .bin .mul k8 (.t q4_2)⟩,⟨none, .bin .lt (.t q4_3) (.l 0)⟩] [(q4_7,(.l 0))]) (.cond (.t q4_7) .skip (.exit 0))) (.seq (.block 1 (.seq (.seq 
(.reg [⟨none, .bin .quo (.t q4_3) k8⟩,⟨none, .idx (.t q4_1) (.l 0)⟩,⟨none, .bin .rem (.t q4_3) k8⟩,⟨none, .bin .shr (.l 1) (.l 0)⟩,⟨none, .bin .and (.l 0) (.c (.int .u8 (.ofNat 1)))⟩,⟨none, .bin .eq (.l 0) (.c (.int .u8 (.ofNat 1)))⟩] [(q4_8,(.l 0))]) (.cond (.t q4_8) 
(.reg [⟨none, .bin .add (.c (.int .i64 (.ofNat 14))) (.t q4_3)⟩,⟨none, .mks 1 1 [(.int .i64 (.ofNat 0))] [(0,1,(.l 0))]⟩,⟨none, .app 1 (.t q4_4) (.l 0)⟩] [(q4_4,(.l 0))]) .skip)) (.seq 
(.reg [⟨none, .bin .quo (.t q4_3) k8⟩,⟨none, .idx (.t q4_1) (.l 0)⟩,⟨none, .bin .rem (.t q4_3) k8⟩,⟨none, .bin .shr (.l 1) (.l 0)⟩,⟨none, .bin .and (.l 0) (.c (.int .u8 (.ofNat 1)))⟩,⟨none, .bin .eq (.l 0) (.c (.int .u8 (.ofNat 1)))⟩,⟨(some ((.l 0),true)), .mov (.t q4_3)⟩,⟨(some ((.l 1),true)), .mov (.t q4_0)⟩,⟨(some ((.l 2),true)), .bin .ge (.l 1) (.l 0)⟩,⟨none, .pick (.l 3) (.l 0) (.c (.bool false))⟩] [(q4_9,(.l 0))]) (.cond (.t q4_9) (.seq 
(.reg [] [(q4_10,(.c .nilsl)),(q4_11,(.c (.str []))),(q4_12,(.c (.bool false)))]) .ret) .skip)))) 
(.reg [⟨none, .bin .add (.t q4_3) k1⟩] [(q4_3,(.l 0))])))))) (.seq 
(.drw [(⟨none, .call (.c (.fn 137 [])) [(.t q4_4)]⟩,[]),(⟨none, .slc 0 (.t q4_1) (some (.t q4_2)) none none⟩,[0])] [(q4_10,(.l 1)),(q4_11,(.l 0)),(q4_12,(.c (.bool true)))]) .ret))))))), [(q4_10, none),(q4_11, none),(q4_12, none)]⟩
def a205 : FN := ⟨full 3, [some q3_0], (.seq 
(.reg [] [(q3_4,(.c .nilsl)),(q3_5,(.c (.bool false)))]) (.seq 
(.reg [⟨none, .call (.c (.fn 203 [])) [(.t q3_0),k8]⟩,⟨none, .ext (.l 0) 0⟩,⟨none, .ext (.l 1) 1⟩,⟨none, .ext (.l 2) 2⟩] [(q3_1,(.l 0)),(q3_2,(.l 2))]) (.seq (.seq 
(.reg [⟨none, .not (.t q3_1)⟩,⟨(some ((.l 0),false)), .mov (.t q3_2)⟩,⟨(some ((.l 1),false)), .call (.c (.fn 214 [])) [(.l 0)]⟩,⟨(some ((.l 2),false)), .mov (.t q3_0)⟩,⟨(some ((.l 3),false)), .bin .ne (.l 1) (.l 0)⟩,⟨none, .pick (.l 4) (.c (.bool true)) (.l 0)⟩] [(q3_3,(.l 0))]) (.cond (.t q3_3) (.seq 
(.reg [] [(q3_4,(.c .nilsl)),(q3_5,(.c (.bool false)))]) .ret) .skip)) (.seq 
(.reg [] [(q3_4,(.t q3_2)),(q3_5,(.c (.bool true)))]) .ret)))), [(q3_4, none),(q3_5, none)]⟩
def a206 : FN := ⟨full 4, [some q4_0], (.seq 
(.reg [⟨none, .box (.c (.agg [(.int .i64 (.ofNat 0)),(.int .i64 (.ofNat 0)),(.str []),(.str []),(.int .i64 (.ofNat 0))]))⟩] [(q4_4,(.l 0)),(q4_11,k0),(q4_12,(.c .nilsl)),(q4_13,(.c (.bool false)))]) (.seq 
(.reg [⟨none, .call (.c (.fn 202 [])) [(.c (.str [49,49,49])),(.t q4_0)]⟩,⟨none, .ext (.l 0) 0⟩,⟨none, .ext (.l 1) 1⟩,⟨none, .ext (.l 2) 2⟩] [(q4_1,(.l 0)),(q4_2,(.l 2)),(q4_3,(.l 1))]) (.seq (.seq 
(.reg [⟨none, .not (.t q4_1)⟩,⟨(some ((.l 0),false)), .mov (.t q4_2)⟩,⟨(some ((.l 1),false)), .ia 1 (.l 0) k2⟩,⟨(some ((.l 2),false)), .load 1 false (.l 0)⟩,⟨(some ((.l 3),false)), .mov (.t q4_3)⟩,⟨(some ((.l 4),false)), .lens (.l 0)⟩,⟨(some ((.l 5),false)), .bin .gt (.l 2) (.l 0)⟩,⟨none, .pick (.l 6) (.c (.bool true)) (.l 0)⟩] [(q4_8,(.l 0))]) (.cond (.t q4_8) (.seq 
(.reg [⟨none, .build [(.int .i64 (.ofNat 0)),(.int .i64 (.ofNat 0)),(.str []),(.str []),(.int .i64 (.ofNat 0))] []⟩,⟨none, .store 5 (.t q4_4) (.l 0)⟩] [(q4_11,k0),(q4_12,(.c .nilsl)),(q4_13,(.c (.bool false)))]) .ret) .skip)) (.seq 
(.drw [(⟨none, .ia 1 (.t q4_2) k0⟩,[]),(⟨none, .load 1 false (.l 0)⟩,[]),(⟨none, .ia 1 (.t q4_2) k1⟩,[]),(⟨none, .load 1 false (.l 0)⟩,[]),(⟨none, .ia 1 (.t q4_2) k2⟩,[]),(⟨none, .load 1 false (.l 0)⟩,[]),(⟨none, .slc 0 (.t q4_3) none (some (.l 0)) none⟩,[]),(⟨none, .build [(.int .i64 (.ofNat 0)),(.int .i64 (.ofNat 0)),(.str []),(.str []),(.int .i64 (.ofNat 0))] [(0,1,(.l 5)),(1,1,(.l 3)),(2,1,(.l 0))]⟩,[]),(⟨none, .box (.c (.agg [(.int .i64 (.ofNat 0)),(.int .i64 (.ofNat 0)),(.str []),(.str []),(.int .i64 (.ofNat 0))]))⟩,[]),(⟨none, .store 5 (.l 0) (.l 1)⟩,[])] [(q4_5,(.l 1))]) (.seq 
(.reg [⟨none, .ia 1 (.t q4_2) k2⟩,⟨none, .load 1 false (.l 0)⟩,⟨none, .slc 0 (.t q4_3) (some (.l 0)) none none⟩,⟨none, .call (.c (.fn 202 [])) [(.c (.str [50])),(.l 0)]⟩,⟨none, .ext (.l 0) 0⟩,⟨none, .ext (.l 1) 1⟩,⟨none, .ext (.l 2) 2⟩] [(q4_1,(.l 0)),(q4_3,(.l 1)),(q4_6,(.l 2))]) (.seq (.seq 
(.reg [⟨none, .not (.t q4_1)⟩] [(q4_9,(.l 0))]) (.cond (.t q4_9) (.seq 
(.reg [⟨none, .build [(.int .i64 (.ofNat 0)),(.int .i64 (.ofNat 0)),(.str []),(.str []),(.int .i64 (.ofNat 0))] []⟩,⟨none, .store 5 (.t q4_4) (.l 0)⟩] [(q4_11,k0),(q4_12,(.c .nilsl)),(q4_13,(.c (.bool false)))]) .ret) .skip)) (.seq 
(.reg [⟨none, .call (.c (.fn 203 [])) [(.t q4_3),k4]⟩,⟨none, .ext (.l 0) 0⟩,⟨none, .ext (.l 1) 1⟩,⟨none, .ext (.l 2) 2⟩] [(q4_1,(.l 0)),(q4_7,(.l 2))]) (.seq (.seq 
(.drw [(⟨none, .not (.t q4_1)⟩,[]),(⟨(some ((.l 0),false)), .load 5 true (.t q4_5)⟩,[]),(⟨(some ((.l 1),false)), .mov (.t q4_6)⟩,[]),(⟨(some ((.l 2),false)), .ia 1 (.l 0) k0⟩,[]),(⟨(some ((.l 3),false)), .load 1 false (.l 0)⟩,[]),(⟨(some ((.l 4),false)), .mov (.t q4_7)⟩,[]),(⟨(some ((.l 5),false)), .call (.c (.fn 213 [])) [(.l 4),(.l 1),(.l 0)]⟩,[]),(⟨(some ((.l 6),false)), .mov (.t q4_0)⟩,[6]),(⟨(some ((.l 7),false)), .bin .ne (.l 1) (.l 0)⟩,[]),(⟨none, .pick (.l 8) (.c (.bool true)) (.l 0)⟩,[])] [(q4_10,(.l 0))]) (.cond (.t q4_10) (.seq 
(.reg [⟨none, .build [(.int .i64 (.ofNat 0)),(.int .i64 (.ofNat 0)),(.str []),(.str []),(.int .i64 (.ofNat 0))] []⟩,⟨none, .store 5 (.t q4_4) (.l 0)⟩] [(q4_11,k0),(q4_12,(.c .nilsl)),(q4_13,(.c (.bool false)))]) .ret) .skip)) (.seq 
(.drw [(⟨none, .load 5 true (.t q4_5)⟩,[]),(⟨none, .store 5 (.t q4_4) (.l 0)⟩,[]),(⟨none, .ia 1 (.t q4_6) k0⟩,[1]),(⟨none, .load 1 false (.l 0)⟩,[1])] [(q4_11,(.l 0)),(q4_12,(.t q4_7)),(q4_13,(.c (.bool true)))]) .ret))))))))), [(q4_4, some (5,true)),(q4_11, none),(q4_12, none),(q4_13, none)]⟩
def a207 : FN := ⟨full 5, [some q5_0,some q5_7,some q5_2], (.seq 
(.reg [⟨none, .box (.t q5_0)⟩] [(q5_4,(.l 0)),(q5_15,(.c (.str []))),(q5_16,k0),(q5_17,(.c (.bool false)))]) (.seq 
(.reg [] [(q5_8,k0),(q5_9,(.c (.str []))),(q5_11,(.c (.bool true)))]) (.seq 
(.reg [⟨none, .mksl 1 1 [(.int .u8 (.ofNat 0))] (.c (.int .i64 (.ofNat 32))) (.c (.int .i64 (.ofNat 32)))⟩,⟨none, .b2s (.l 0)⟩] [(q5_3,(.l 0))]) (.seq (.seq 
(.reg [] [(q5_1,k0)]) (.block 0 (.loop (.seq (.seq 
(.reg [⟨none, .len (.t q5_2)⟩,⟨none, .bin .lt (.t q5_1) (.l 0)⟩] [(q5_12,(.l 0))]) (.cond (.t q5_12) .skip (.exit 0))) (.seq (.block 1 (.seq 
(.reg [] [(q5_10,(.t q5_3))]) (.seq (.seq 
(.reg [⟨none, .ia 6 (.t q5_2) (.t q5_1)⟩,⟨none, .fa 0 (.l 0)⟩,⟨none, .load 1 false (.l 0)⟩,⟨none, .bin .gt (.l 0) k0⟩] [(q5_13,(.l 0))]) (.cond (.t q5_13) (.seq 
(.drw [(⟨none, .load 5 true (.t q5_4)⟩,[]),(⟨none, .ia 6 (.t q5_2) (.t q5_1)⟩,[]),(⟨none, .load 6 true (.l 0)⟩,[]),(⟨none, .call (.c (.fn 120 [])) [(.l 2),(.l 0),k1]⟩,[]),(⟨none, .ext (.l 0) 0⟩,[]),(⟨none, .ext (.l 1) 1⟩,[])] [(q5_5,(.l 0)),(q5_6,(.l 1))]) (.seq 
(.reg [⟨(some ((.t q5_5),true)), .mov (.t q5_6)⟩,⟨(some ((.t q5_5),true)), .lens (.l 0)⟩,⟨(some ((.t q5_5),true)), .bin .eq (.l 0) (.c (.int .i64 (.ofNat 32)))⟩,⟨none, .pick (.t q5_5) (.l 0) (.c (.bool false))⟩,⟨(some ((.l 0),true)), .mov (.t q5_6)⟩,⟨(some ((.l 1),true)), .mov (.t q5_3)⟩,⟨(some ((.l 2),true)), .bin .ne (.l 1) (.l 0)⟩,⟨none, .pick (.l 3) (.l 0) (.c (.bool false))⟩,⟨(some ((.l 0),true)), .mov (.t q5_6)⟩,⟨(some ((.l 1),true)), .mov (.t q5_7)⟩,⟨(some ((.l 2),true)), .mov (.t q5_1)⟩,⟨(some ((.l 3),true)), .bin .mul (.l 0) (.c (.int .i64 (.ofNat 32)))⟩,⟨(some ((.l 4),true)), .bin .sub (.l 2) (.l 0)⟩,⟨(some ((.l 5),true)), .call (.c (.fn 270 [])) [(.l 4),(.l 0)]⟩,⟨none, .pick (.l 6) (.l 0) (.c (.bool false))⟩] [(q5_14,(.l 0))]) (.cond (.t q5_14) 
(.reg [] [(q5_10,(.t q5_6))]) 
(.reg [⟨none, .bin .shl k1 (.t q5_1)⟩,⟨none, .bin .or (.t q5_8) (.l 0)⟩] [(q5_8,(.l 0)),(q5_11,(.c (.bool false)))])))) .skip)) 
(.reg [⟨none, .bin .add (.t q5_9) (.t q5_10)⟩] [(q5_9,(.l 0))])))) 
(.reg [⟨none, .bin .add (.t q5_1) k1⟩] [(q5_1,(.l 0))])))))) (.seq 
(.reg [⟨none, .slc 0 (.t q5_9) none (some (.t q5_7)) none⟩] [(q5_15,(.l 0)),(q5_16,(.t q5_8)),(q5_17,(.t q5_11))]) .ret))))), [(q5_15, none),(q5_16, none),(q5_17, none)]⟩
def a208 : FN := ⟨full 4, [some q4_1], (.seq 
(.reg [⟨none, .box (.c (.agg [(.int .u32 (.ofNat 0)),(.int .u32 (.ofNat 0)),(.int .u32 (.ofNat 0)),(.int .u32 (.ofNat 0))]))⟩] [(q4_8,(.l 0))]) (.seq 
(.reg [] [(q4_2,(.c (.str [])))]) (.seq (.seq 
(.reg [] [(q4_0,k0)]) (.block 0 (.loop (.seq (.seq 
(.reg [⟨none, .len (.t q4_1)⟩,⟨none, .bin .lt (.t q4_0) (.l 0)⟩] [(q4_9,(.l 0))]) (.cond (.t q4_9) .skip (.exit 0))) (.seq (.block 1 
(.reg [⟨none, .ia 1 (.t q4_1) (.t q4_0)⟩,⟨none, .load 1 false (.l 0)⟩,⟨none, .bin .add (.t q4_2) (.l 0)⟩] [(q4_2,(.l 0))])) 
(.reg [⟨none, .bin .add (.t q4_0) k1⟩] [(q4_0,(.l 0))])))))) (.seq 
(.reg [⟨none, .box (.c (.agg [(.int .u32 (.ofNat 0)),(.int .u32 (.ofNat 0)),(.int .u32 (.ofNat 0)),(.int .u32 (.ofNat 0))]))⟩] [(q4_7,(.l 0))]) (.seq (.seq 
(.reg [] [(q4_3,k0)]) (.block 2 (.loop (.seq (.seq 
(.reg [⟨none, .lens (.t q4_2)⟩,⟨none, .bin .lt (.t q4_3) (.l 0)⟩] [(q4_10,(.l 0))]) (.cond (.t q4_10) .skip (.exit 2))) (.seq (.block 3 (.seq 
(.reg [] [(q4_5,(.c (.int .u32 (.ofNat 0))))]) (.seq (.seq 
(.reg [] [(q4_4,k3)]) (.block 4 (.loop (.seq (.seq 
(.reg [⟨none, .bin .ge (.t q4_4) k0⟩] [(q4_11,(.l 0))]) (.cond (.t q4_11) .skip (.exit 4))) (.seq (.block 5 (.seq 
(.reg [⟨none, .bin .mul (.t q4_5) (.c (.int .u32 (.ofNat 256)))⟩] [(q4_5,(.l 0))]) (.seq 
(.reg [⟨none, .bin .add (.t q4_3) (.t q4_4)⟩,⟨none, .lens (.t q4_2)⟩,⟨none, .bin .lt (.l 1) (.l 0)⟩] [(q4_12,(.l 0))]) (.cond (.t q4_12) 
(.reg [⟨none, .bin .add (.t q4_3) (.t q4_4)⟩,⟨none, .idx (.t q4_2) (.l 0)⟩,⟨none, .conv .u32 (.l 0)⟩,⟨none, .bin .add (.t q4_5) (.l 0)⟩] [(q4_5,(.l 0))]) .skip)))) 
(.reg [⟨none, .bin .sub (.t q4_4) k1⟩] [(q4_4,(.l 0))])))))) (.seq 
(.reg [] [(q4_6,k0)]) (.block 6 (.loop (.seq (.seq 
(.reg [⟨none, .bin .lt (.t q4_6) k4⟩] [(q4_13,(.l 0))]) (.cond (.t q4_13) .skip (.exit 6))) (.seq (.block 7 (.seq 
(.reg [⟨none, .iap 4 1 (.t q4_7) (.t q4_6)⟩,⟨none, .load 1 false (.l 0)⟩,⟨none, .bin .add (.l 0) (.t q4_5)⟩,⟨none, .iap 4 1 (.t q4_7) (.t q4_6)⟩,⟨none, .store 1 (.l 0) (.l 1)⟩] []) 
(.reg [⟨none, .iap 4 1 (.t q4_7) (.t q4_6)⟩,⟨none, .load 1 false (.l 0)⟩] [(q4_5,(.l 0))]))) 
(.reg [⟨none, .bin .add (.t q4_6) k1⟩] [(q4_6,(.l 0))]))))))))) 
(.reg [⟨none, .bin .add (.t q4_3) k4⟩] [(q4_3,(.l 0))])))))) (.seq 
(.reg [⟨none, .load 4 true (.t q4_7)⟩,⟨none, .store 4 (.t q4_8) (.l 0)⟩] []) .ret)))))), [(q4_8, some (4,true))]⟩
def a209 : FN := ⟨full 5, [some q5_0], (.seq 
(.reg [] [(q5_22,(.c (.bool false)))]) (.seq (.seq 
(.reg [⟨none, .len (.t q5_0)⟩,⟨none, .bin .ne (.l 0) k8⟩,⟨(some ((.l 0),false)), .mov (.t q5_0)⟩,⟨(some ((.l 1),false)), .ia 5 (.l 0) k0⟩,⟨(some ((.l 2),false)), .load 5 true (.l 0)⟩,⟨(some ((.l 3),false)), .build [(.int .i64 (.ofNat 0)),(.int .i64 (.ofNat 0)),(.str []),(.str []),(.int .i64 (.ofNat 0))] [(0,1,k2)]⟩,⟨(some ((.l 4),false)), .eqa [1, 1, 2, 2, 1] true (.l 1) (.l 0)⟩,⟨none, .pick (.l 5) (.c (.bool true)) (.l 0)⟩] [(q5_7,(.l 0))]) (.cond (.t q5_7) (.seq 
(.reg [] [(q5_22,(.c (.bool false)))]) .ret) .skip)) (.seq (.seq 
(.reg [] [(q5_1,k1)]) (.block 0 (.loop (.seq (.seq 
(.reg [⟨none, .len (.t q5_0)⟩,⟨none, .bin .lt (.t q5_1) (.l 0)⟩] [(q5_8,(.l 0))]) (.cond (.t q5_8) .skip (.exit 0))) (.seq (.block 1 (.seq 
(.reg [⟨none, .ia 5 (.t q5_0) (.t q5_1)⟩,⟨none, .load 5 true (.l 0)⟩,⟨none, .box (.c (.agg [(.int .i64 (.ofNat 0)),(.int .i64 (.ofNat 0)),(.str []),(.str []),(.int .i64 (.ofNat 0))]))⟩,⟨none, .store 5 (.l 0) (.l 1)⟩] [(q5_2,(.l 1))]) (.seq (.seq 
(.reg [⟨none, .fa 0 (.t q5_2)⟩,⟨none, .load 1 false (.l 0)⟩] [(q5_3,(.l 0))]) (.block 2 (.seq 
(.reg [⟨none, .bin .eq (.t q5_3) k0⟩] [(q5_9,(.l 0))]) (.cond (.t q5_9) (.seq (.seq 
(.reg [⟨none, .load 5 true (.t q5_2)⟩,⟨none, .build [(.int .i64 (.ofNat 0)),(.int .i64 (.ofNat 0)),(.str []),(.str []),(.int .i64 (.ofNat 0))] []⟩,⟨none, .eqa [1, 1, 2, 2, 1] true (.l 1) (.l 0)⟩] [(q5_10,(.l 0))]) (.cond (.t q5_10) (.seq 
(.reg [] [(q5_22,(.c (.bool false)))]) .ret) .skip)) (.exit 1)) (.seq 
(.reg [⟨none, .bin .eq (.t q5_3) k3⟩] [(q5_11,(.l 0))]) (.cond (.t q5_11) (.seq (.seq 
(.reg [⟨none, .load 5 true (.t q5_2)⟩,⟨none, .build [(.int .i64 (.ofNat 0)),(.int .i64 (.ofNat 0)),(.str []),(.str []),(.int .i64 (.ofNat 0))] [(0,1,k3)]⟩,⟨none, .eqa [1, 1, 2, 2, 1] true (.l 1) (.l 0)⟩] [(q5_12,(.l 0))]) (.cond (.t q5_12) (.seq 
(.reg [] [(q5_22,(.c (.bool false)))]) .ret) .skip)) (.exit 1)) (.seq 
(.reg [⟨none, .bin .eq (.t q5_3) k1⟩] [(q5_13,(.l 0))]) (.cond (.t q5_13) (.seq 
(.reg [⟨none, .fa 4 (.t q5_2)⟩,⟨none, .load 1 false (.l 0)⟩,⟨none, .bin .lt (.l 0) k0⟩,⟨(some ((.l 0),false)), .fa 4 (.t q5_2)⟩,⟨(some ((.l 1),false)), .load 1 false (.l 0)⟩,⟨(some ((.l 2),false)), .bin .gt (.l 0) (.c (.int .i64 (.ofNat 15)))⟩,⟨none, .pick (.l 3) (.c (.bool true)) (.l 0)⟩] [(q5_14,(.l 0))]) (.cond (.t q5_14) (.seq 
(.reg [] [(q5_22,(.c (.bool false)))]) .ret) .skip)) (.seq 
(.reg [⟨none, .bin .eq (.t q5_3) k2⟩] [(q5_15,(.l 0))]) (.cond (.t q5_15) (.seq 
(.reg [⟨none, .fa 4 (.t q5_2)⟩,⟨none, .load 1 false (.l 0)⟩,⟨none, .bin .ne (.l 0) k0⟩,⟨(some ((.l 0),false)), .fa 3 (.t q5_2)⟩,⟨(some ((.l 1),false)), .load 1 false (.l 0)⟩,⟨(some ((.l 2),false)), .bin .ne (.l 0) (.c (.str []))⟩,⟨none, .pick (.l 3) (.c (.bool true)) (.l 0)⟩] [(q5_16,(.l 0))]) (.cond (.t q5_16) (.seq 
(.reg [] [(q5_22,(.c (.bool false)))]) .ret) .skip)) (.seq 
(.reg [] [(q5_22,(.c (.bool false)))]) .ret))))))))))) (.seq (.seq 
(.reg [⟨none, .fa 2 (.t q5_2)⟩,⟨none, .load 1 false (.l 0)⟩,⟨none, .call (.c (.fn 226 [])) [(.l 0)]⟩,⟨none, .not (.l 0)⟩,⟨(some ((.l 0),false)), .mov (.t q5_0)⟩,⟨(some ((.l 1),false)), .fa 1 (.t q5_2)⟩,⟨(some ((.l 2),false)), .load 1 false (.l 0)⟩,⟨(some ((.l 3),false)), .call (.c (.fn 271 [])) [(.l 2),(.l 0)]⟩,⟨(some ((.l 4),false)), .not (.l 0)⟩,⟨none, .pick (.l 5) (.c (.bool true)) (.l 0)⟩,⟨(some ((.l 0),false)), .fa 3 (.t q5_2)⟩,⟨(some ((.l 1),false)), .load 1 false (.l 0)⟩,⟨(some ((.l 2),false)), .lens (.l 0)⟩,⟨(some ((.l 3),false)), .bin .gt (.l 0) (.c (.int .i64 (.ofNat 128)))⟩,⟨none, .pick (.l 4) (.c (.bool true)) (.l 0)⟩] [(q5_17,(.l 0))]) (.cond (.t q5_17) (.seq 
(.reg [] [(q5_22,(.c (.bool false)))]) .ret) .skip)) (.seq (.seq 
(.reg [] [(q5_4,k1)]) (.block 3 (.loop (.seq (.seq 
(.reg [⟨none, .bin .lt (.t q5_4) (.t q5_1)⟩] [(q5_18,(.l 0))]) (.cond (.t q5_18) .skip (.exit 3))) (.seq (.block 4 (.seq 
(.drw [(⟨none, .ia 5 (.t q5_0) (.t q5_4)⟩,[]),(⟨none, .fa 0 (.l 0)⟩,[]),(⟨none, .load 1 false (.l 0)⟩,[]),(⟨none, .bin .ne (.l 0) k0⟩,[]),(⟨(some ((.l 0),true)), .mov (.t q5_0)⟩,[]),(⟨(some ((.l 1),true)), .mov (.t q5_4)⟩,[]),(⟨(some ((.l 2),true)), .ia 5 (.l 1) (.l 0)⟩,[]),(⟨(some ((.l 3),true)), .fa 0 (.l 0)⟩,[]),(⟨(some ((.l 4),true)), .load 1 false (.l 0)⟩,[]),(⟨(some ((.l 5),true)), .bin .ne (.l 0) k3⟩,[]),(⟨none, .pick (.l 6) (.l 0) (.c (.bool false))⟩,[]),(⟨(some ((.l 0),true)), .mov (.t q5_0)⟩,[]),(⟨(some ((.l 1),true)), .mov (.t q5_4)⟩,[]),(⟨(some ((.l 2),true)), .ia 5 (.l 1) (.l 0)⟩,[]),(⟨(some ((.l 3),true)), .fa 1 (.l 0)⟩,[]),(⟨(some ((.l 4),true)), .load 1 false (.l 0)⟩,[]),(⟨(some ((.l 5),true)), .fa 1 (.t q5_2)⟩,[]),(⟨(some ((.l 6),true)), .load 1 false (.l 0)⟩,[]),(⟨(some ((.l 7),true)), .bin .eq (.l 2) (.l 0)⟩,[]),(⟨none, .pick (.l 8) (.l 0) (.c (.bool false))⟩,[]),(⟨(some ((.l 0),true)), .mov (.t q5_0)⟩,[]),(⟨(some ((.l 1),true)), .mov (.t q5_4)⟩,[]),(⟨(some ((.l 2),true)), .ia 5 (.l 1) (.l 0)⟩,[]),(⟨(some ((.l 3),true)), .fa 2 (.l 0)⟩,[]),(⟨(some ((.l 4),true)), .load 1 false (.l 0)⟩,[]),(⟨(some ((.l 5),true)), .fa 2 (.t q5_2)⟩,[]),(⟨(some ((.l 6),true)), .load 1 false (.l 0)⟩,[]),(⟨(some ((.l 7),true)), .bin .eq (.l 2) (.l 0)⟩,[]),(⟨none, .pick (.l 8) (.l 0) (.c (.bool false))⟩,[])] [(q5_19,(.l 0))]) (.cond (.t q5_19) (.seq 
(.reg [] [(q5_22,(.c (.bool false)))]) .ret) .skip))) 
(.reg [⟨none, .bin .add (.t q5_4) k1⟩] [(q5_4,(.l 0))])))))) (.seq 
(.reg [] [(q5_6,(.t q5_1))]) (.seq (.seq 
(.reg [] [(q5_5,k0)]) (.block 5 (.loop (.seq (.seq 
(.reg [⟨none, .len (.t q5_0)⟩,⟨none, .bin .lt (.t q5_5) (.l 0)⟩,⟨(some ((.l 0),true)), .mov (.t q5_6)⟩,⟨(some ((.l 1),true)), .bin .gt (.l 0) k0⟩,⟨none, .pick (.l 2) (.l 0) (.c (.bool false))⟩,⟨(some ((.l 0),true)), .mov (.t q5_6)⟩,⟨(some ((.l 1),true)), .mov (.t q5_0)⟩,⟨(some ((.l 2),true)), .len (.l 0)⟩,⟨(some ((.l 3),true)), .bin .lt (.l 2) (.l 0)⟩,⟨none, .pick (.l 4) (.l 0) (.c (.bool false))⟩] [(q5_20,(.l 0))]) (.cond (.t q5_20) .skip (.exit 5))) (.seq (.block 6 
(.reg [⟨none, .ia 5 (.t q5_0) (.t q5_6)⟩,⟨none, .fa 1 (.l 0)⟩,⟨none, .load 1 false (.l 0)⟩] [(q5_6,(.l 0))])) 
(.reg [⟨none, .bin .add (.t q5_5) k1⟩] [(q5_5,(.l 0))])))))) (.seq 
(.reg [⟨none, .bin .ne (.t q5_6) k0⟩] [(q5_21,(.l 0))]) (.cond (.t q5_21) (.seq 
(.reg [] [(q5_22,(.c (.bool false)))]) .ret) .skip))))))))) 
(.reg [⟨none, .bin .add (.t q5_1) k1⟩] [(q5_1,(.l 0))])))))) (.seq 
(.reg [] [(q5_22,(.c (.bool true)))]) .ret)))), [(q5_22, none)]⟩
def a210 : FN := ⟨full 1, [some q1_0], (.seq 
(.reg [] [(q1_1,(.c (.bool false)))]) (.seq 
(.reg [⟨none, .call (.c (.fn 160 [])) [(.t q1_0)]⟩,⟨(some ((.l 0),false)), .mov (.t q1_0)⟩,⟨(some ((.l 1),false)), .call (.c (.fn 272 [])) [(.l 0)]⟩,⟨none, .pick (.l 2) (.c (.bool true)) (.l 0)⟩] [(q1_1,(.l 0))]) .ret)), [(q1_1, none)]⟩
def a211 : FN := ⟨full 2, [some q2_1,some q2_0], (.seq 
(.reg [⟨none, .box (.t q2_0)⟩,⟨none, .box (.c (.agg [(.int .i64 (.ofNat 0)),(.int .i64 (.ofNat 0)),(.int .u32 (.ofNat 0)),(.int .u32 (.ofNat 0)),(.int .u32 (.ofNat 0)),(.int .u32 (.ofNat 0))]))⟩] [(q2_2,(.l 1)),(q2_3,(.l 0))]) (.seq 
(.drw [(⟨none, .nilc (.t q2_1)⟩,[]),(⟨none, .fa 12 (.l 0)⟩,[]),(⟨none, .load 1 false (.l 0)⟩,[]),(⟨none, .fa 0 (.t q2_2)⟩,[]),(⟨none, .load 1 false (.l 0)⟩,[]),(⟨none, .mks 1 1 [(.int .i64 (.ofNat 0))] [(0,1,(.l 0))]⟩,[]),(⟨none, .app 1 (.l 3) (.l 0)⟩,[]),(⟨none, .nilc (.t q2_1)⟩,[]),(⟨none, .fa 12 (.l 0)⟩,[]),(⟨none, .store 1 (.l 0) (.l 2)⟩,[])] []) (.seq 
(.reg [⟨none, .load 6 true (.t q2_2)⟩,⟨none, .store 6 (.t q2_3) (.l 0)⟩] []) .ret))), [(q2_3, some (6,true))]⟩
def a212 : FN := ⟨full 3, [some q3_0,some q3_1], (.seq 
(.reg [] [(q3_6,(.c (.bool false)))]) (.seq (.seq 
(.reg [⟨none, .len (.t q3_0)⟩,⟨none, .len (.t q3_1)⟩,⟨none, .bin .ne (.l 1) (.l 0)⟩] [(q3_3,(.l 0))]) (.cond (.t q3_3) (.seq 
(.reg [] [(q3_6,(.c (.bool false)))]) .ret) .skip)) (.seq (.seq 
(.reg [] [(q3_2,k0)]) (.block 0 (.loop (.seq (.seq 
(.reg [⟨none, .len (.t q3_0)⟩,⟨none, .bin .lt (.t q3_2) (.l 0)⟩] [(q3_4,(.l 0))]) (.cond (.t q3_4) .skip (.exit 0))) (.seq (.block 1 (.seq 
(.drw [(⟨none, .ia 6 (.t q3_0) (.t q3_2)⟩,[]),(⟨none, .load 6 true (.l 0)⟩,[]),(⟨none, .ia 6 (.t q3_1) (.t q3_2)⟩,[]),(⟨none, .load 6 true (.l 0)⟩,[]),(⟨none, .eqa [1, 1, 1, 1, 1, 1] true (.l 2) (.l 0)⟩,[])] [(q3_5,(.l 0))]) (.cond (.t q3_5) (.seq 
(.reg [] [(q3_6,(.c (.bool false)))]) .ret) .skip))) 
(.reg [⟨none, .bin .add (.t q3_2) k1⟩] [(q3_2,(.l 0))])))))) (.seq 
(.reg [] [(q3_6,(.c (.bool true)))]) .ret)))), [(q3_6, none)]⟩
def a213 : FN := ⟨full 3, [some q3_0,some q3_2,some q3_3], (.seq 
(.reg [⟨none, .box (.t q3_0)⟩] [(q3_1,(.l 0)),(q3_5,(.c (.str [])))]) (.seq (.seq 
(.reg [⟨none, .fa 0 (.t q3_1)⟩,⟨none, .load 1 false (.l 0)⟩,⟨none, .bin .ne (.l 0) k1⟩,⟨(some ((.l 0),true)), .fa 0 (.t q3_1)⟩,⟨(some ((.l 1),true)), .load 1 false (.l 0)⟩,⟨(some ((.l 2),true)), .bin .ne (.l 0) k2⟩,⟨none, .pick (.l 3) (.l 0) (.c (.bool false))⟩,⟨(some ((.l 0),false)), .fa 1 (.t q3_1)⟩,⟨(some ((.l 1),false)), .load 1 false (.l 0)⟩,⟨(some ((.l 2),false)), .bin .lt (.l 0) k0⟩,⟨none, .pick (.l 3) (.c (.bool true)) (.l 0)⟩,⟨(some ((.l 0),false)), .fa 1 (.t q3_1)⟩,⟨(some ((.l 1),false)), .load 1 false (.l 0)⟩,⟨(some ((.l 2),false)), .bin .ge (.l 0) k8⟩,⟨none, .pick (.l 3) (.c (.bool true)) (.l 0)⟩,⟨(some ((.l 0),false)), .fa 2 (.t q3_1)⟩,⟨(some ((.l 1),false)), .load 1 false (.l 0)⟩,⟨(some ((.l 2),false)), .lens (.l 0)⟩,⟨(some ((.l 3),false)), .bin .gt (.l 0) k8⟩,⟨none, .pick (.l 4) (.c (.bool true)) (.l 0)⟩,⟨(some ((.l 0),false)), .mov (.t q3_2)⟩,⟨(some ((.l 1),false)), .bin .lt (.l 0) k0⟩,⟨none, .pick (.l 2) (.c (.bool true)) (.l 0)⟩,⟨(some ((.l 0),false)), .mov (.t q3_2)⟩,⟨(some ((.l 1),false)), .bin .gt (.l 0) (.c (.int .i64 (.ofNat 128)))⟩,⟨none, .pick (.l 2) (.c (.bool true)) (.l 0)⟩,⟨(some ((.l 0),false)), .mov (.t q3_3)⟩,⟨(some ((.l 1),false)), .len (.l 0)⟩,⟨(some ((.l 2),false)), .bin .ne (.l 0) k4⟩,⟨none, .pick (.l 3) (.c (.bool true)) (.l 0)⟩,⟨(some ((.l 0),false)), .mov (.t q3_3)⟩,⟨(some ((.l 1),false)), .call (.c (.fn 143 [])) [(.l 0)]⟩,⟨(some ((.l 2),false)), .not (.l 0)⟩,⟨none, .pick (.l 3) (.c (.bool true)) (.l 0)⟩] [(q3_4,(.l 0))]) (.cond (.t q3_4) (.seq 
(.reg [] [(q3_5,(.c (.str [])))]) .ret) .skip)) (.seq 
(.drw [(⟨none, .fa 0 (.t q3_1)⟩,[]),(⟨none, .load 1 false (.l 0)⟩,[]),(⟨none, .fa 1 (.t q3_1)⟩,[]),(⟨none, .load 1 false (.l 0)⟩,[]),(⟨none, .fa 2 (.t q3_1)⟩,[]),(⟨none, .load 1 false (.l 0)⟩,[]),(⟨none, .lens (.l 0)⟩,[]),(⟨none, .mks 3 1 [(.int .i64 (.ofNat 0))] [(0,1,(.l 5)),(1,1,(.l 3)),(2,1,(.l 0))]⟩,[]),(⟨none, .call (.c (.fn 65 [])) [(.c (.str [49,49,49])),(.l 0)]⟩,[]),(⟨none, .mks 1 1 [(.int .i64 (.ofNat 0))] [(0,1,(.t q3_2))]⟩,[8]),(⟨none, .call (.c (.fn 65 [])) [(.c (.str [50])),(.l 0)]⟩,[]),(⟨none, .call (.c (.fn 144 [])) [(.t q3_3)]⟩,[]),(⟨none, .fa 2 (.t q3_1)⟩,[11, 10, 8]),(⟨none, .load 1 false (.l 0)⟩,[11, 10, 8]),(⟨none, .bin .add (.l 5) (.l 0)⟩,[11, 10]),(⟨none, .bin .add (.l 0) (.l 4)⟩,[11]),(⟨none, .bin .add (.l 0) (.l 4)⟩,[])] [(q3_5,(.l 0))]) .ret))), [(q3_5, none)]⟩
def a214 : FN := ⟨full 2, [some q2_0], (.seq 
(.reg [] [(q2_2,(.c (.str [])))]) (.seq (.seq 
(.reg [⟨none, .len (.t q2_0)⟩,⟨none, .bin .ne (.l 0) k8⟩,⟨(some ((.l 0),false)), .mov (.t q2_0)⟩,⟨(some ((.l 1),false)), .call (.c (.fn 143 [])) [(.l 0)]⟩,⟨(some ((.l 2),false)), .not (.l 0)⟩,⟨none, .pick (.l 3) (.c (.bool true)) (.l 0)⟩] [(q2_1,(.l 0))]) (.cond (.t q2_1) (.seq 
(.reg [] [(q2_2,(.c (.str [])))]) .ret) .skip)) (.seq 
(.reg [⟨none, .call (.c (.fn 144 [])) [(.t q2_0)]⟩] [(q2_2,(.l 0))]) .ret))), [(q2_2, none)]⟩
def a215 : FN := ⟨full 1, [some q1_0], (.seq 
(.reg [] [(q1_1,(.c (.bool false)))]) (.seq 
(.reg [⟨none, .bin .ge (.t q1_0) (.c (.int .i64 (.ofNat 40)))⟩,⟨(some ((.l 0),true)), .mov (.t q1_0)⟩,⟨(some ((.l 1),true)), .bin .le (.l 0) (.c (.int .i64 (.ofNat 240)))⟩,⟨none, .pick (.l 2) (.l 0) (.c (.bool false))⟩] [(q1_1,(.l 0))]) .ret)), [(q1_1, none)]⟩
def a216 : FN := ⟨full 2, [some q2_1,some q2_0], (.seq 
(.reg [] [(q2_2,(.c (.bool false)))]) (.seq 
(.reg [⟨none, .call (.c (.fn 129 [])) [(.t q2_0)]⟩,⟨(some ((.l 0),true)), .mov (.t q2_0)⟩,⟨(some ((.l 1),true)), .len (.l 0)⟩,⟨(some ((.l 2),true)), .bin .eq (.l 0) k0⟩,⟨(some ((.l 3),true)), .mov (.l 0)⟩,⟨(some ((.l 0),false)), .mov (.t q2_0)⟩,⟨(some ((.l 1),false)), .ia 2 (.l 0) k0⟩,⟨(some ((.l 2),false)), .fa 0 (.l 0)⟩,⟨(some ((.l 3),false)), .load 1 false (.l 0)⟩,⟨(some ((.l 4),false)), .bin .ge (.l 0) (.c (.int .i64 (.ofNat 14)))⟩,⟨(some ((.l 5),false)), .mov (.l 0)⟩,⟨(some ((.l 0),true)), .mov (.t q2_0)⟩,⟨(some ((.l 1),true)), .mov (.t q2_0)⟩,⟨(some ((.l 2),true)), .len (.l 0)⟩,⟨(some ((.l 3),true)), .bin .sub (.l 0) k1⟩,⟨(some ((.l 4),true)), .ia 2 (.l 3) (.l 0)⟩,⟨(some ((.l 5),true)), .fa 1 (.l 0)⟩,⟨(some ((.l 6),true)), .load 1 false (.l 0)⟩,⟨(some ((.l 7),true)), .mov (.t q2_1)⟩,⟨(some ((.l 8),true)), .bin .add (.c (.int .i64 (.ofNat 14))) (.l 0)⟩,⟨(some ((.l 9),true)), .bin .le (.l 2) (.l 0)⟩,⟨(some ((.l 16),false)), .pick (.l 10) (.l 0) (.c (.bool false))⟩,⟨(some ((.l 21),true)), .pick (.l 17) (.c (.bool true)) (.l 0)⟩,⟨none, .pick (.l 22) (.l 0) (.c (.bool false))⟩] [(q2_2,(.l 0))]) .ret)), [(q2_2, none)]⟩
def a217 : FN := ⟨full 2, [some q2_0,some q2_1], (.seq 
(.reg [] [(q2_2,(.c .nilsl))]) (.seq 
(.reg [⟨none, .call (.c (.fn 218 [])) [(.t q2_0),(.t q2_1),k2]⟩] [(q2_2,(.l 0))]) .ret)), [(q2_2, none)]⟩
def a218 : FN := ⟨full 4, [some q4_0,some q4_1,some q4_4], (.seq 
(.reg [] [(q4_11,(.c .nilsl))]) (.seq 
(.reg [⟨none, .call (.c (.fn 273 [])) [(.t q4_0),(.t q4_1)]⟩] [(q4_3,(.l 0))]) (.seq 
(.reg [] [(q4_7,(.c .nilsl))]) (.seq (.seq 
(.reg [] [(q4_2,k0)]) (.block 0 (.loop (.seq (.seq 
(.reg [⟨none, .bin .add (.t q4_2) k1⟩,⟨none, .len (.t q4_3)⟩,⟨none, .bin .lt (.l 1) (.l 0)⟩] [(q4_8,(.l 0))]) (.cond (.t q4_8) .skip (.exit 0))) (.seq (.block 1 (.seq 
(.drw [(⟨none, .ia 1 (.t q4_3) (.t q4_2)⟩,[]),(⟨none, .load 1 false (.l 0)⟩,[]),(⟨none, .call (.c (.fn 219 [])) [(.t q4_0),(.l 0)]⟩,[]),(⟨none, .ia 1 (.t q4_3) (.t q4_2)⟩,[2]),(⟨none, .load 1 false (.l 0)⟩,[2]),(⟨none, .call (.c (.fn 219 [])) [(.t q4_1),(.l 0)]⟩,[])] [(q4_5,(.l 3)),(q4_6,(.l 0))]) (.seq (.seq 
(.reg [⟨none, .bin .eq (.t q4_4) k0⟩,⟨(some ((.l 0),true)), .mov (.t q4_5)⟩,⟨(some ((.l 1),true)), .not (.l 0)⟩,⟨none, .pick (.l 2) (.l 0) (.c (.bool false))⟩,⟨(some ((.l 0),true)), .mov (.t q4_6)⟩,⟨(some ((.l 1),true)), .not (.l 0)⟩,⟨none, .pick (.l 2) (.l 0) (.c (.bool false))⟩,⟨(some ((.l 0),false)), .mov (.t q4_4)⟩,⟨(some ((.l 1),false)), .bin .eq (.l 0) k1⟩,⟨(some ((.l 2),false)), .mov (.l 0)⟩,⟨(some ((.l 0),true)), .mov (.t q4_5)⟩,⟨(some ((.l 1),true)), .not (.l 0)⟩,⟨(some ((.l 2),true)), .mov (.l 0)⟩,⟨(some ((.l 0),false)), .mov (.t q4_6)⟩,⟨(some ((.l 4),true)), .pick (.l 1) (.c (.bool true)) (.l 0)⟩,⟨(some ((.l 8),false)), .pick (.l 5) (.l 0) (.c (.bool false))⟩,⟨none, .pick (.l 9) (.c (.bool true)) (.l 0)⟩,⟨(some ((.l 0),false)), .mov (.t q4_4)⟩,⟨(some ((.l 1),false)), .bin .eq (.l 0) k2⟩,⟨(some ((.l 2),false)), .mov (.l 0)⟩,⟨(some ((.l 0),true)), .mov (.t q4_5)⟩,⟨(some ((.l 1),true)), .not (.l 0)⟩,⟨(some ((.l 2),true)), .mov (.l 0)⟩,⟨(some ((.l 0),false)), .mov (.t q4_6)⟩,⟨(some ((.l 1),false)), .not (.l 0)⟩,⟨(some ((.l 5),true)), .pick (.l 2) (.c (.bool true)) (.l 0)⟩,⟨(some ((.l 9),false)), .pick (.l 6) (.l 0) (.c (.bool false))⟩,⟨none, .pick (.l 10) (.c (.bool true)) (.l 0)⟩] [(q4_9,(.l 0))]) (.cond (.t q4_9) (.exit 1) .skip)) (.seq 
(.drw [(⟨none, .len (.t q4_7)⟩,[]),(⟨none, .bin .gt (.l 0) k0⟩,[]),(⟨(some ((.l 0),true)), .mov (.t q4_7)⟩,[]),(⟨(some ((.l 1),true)), .mov (.t q4_7)⟩,[]),(⟨(some ((.l 2),true)), .len (.l 0)⟩,[]),(⟨(some ((.l 3),true)), .bin .sub (.l 0) k1⟩,[]),(⟨(some ((.l 4),true)), .ia 2 (.l 3) (.l 0)⟩,[]),(⟨(some ((.l 5),true)), .fa 1 (.l 0)⟩,[]),(⟨(some ((.l 6),true)), .load 1 false (.l 0)⟩,[]),(⟨(some ((.l 7),true)), .mov (.t q4_3)⟩,[]),(⟨(some ((.l 8),true)), .mov (.t q4_2)⟩,[]),(⟨(some ((.l 9),true)), .ia 1 (.l 1) (.l 0)⟩,[]),(⟨(some ((.l 10),true)), .load 1 false (.l 0)⟩,[]),(⟨(some ((.l 11),true)), .bin .eq (.l 4) (.l 0)⟩,[]),(⟨none, .pick (.l 12) (.l 0) (.c (.bool false))⟩,[])] [(q4_10,(.l 0))]) (.cond (.t q4_10) 
(.reg [⟨none, .len (.t q4_7)⟩,⟨none, .bin .sub (.l 0) k1⟩,⟨none, .bin .add (.t q4_2) k1⟩,⟨none, .ia 1 (.t q4_3) (.l 0)⟩,⟨none, .load 1 false (.l 0)⟩,⟨none, .ia 2 (.t q4_7) (.l 3)⟩,⟨none, .fa 1 (.l 0)⟩,⟨none, .store 1 (.l 0) (.l 2)⟩] []) 
(.drw [(⟨none, .ia 1 (.t q4_3) (.t q4_2)⟩,[]),(⟨none, .load 1 false (.l 0)⟩,[]),(⟨none, .bin .add (.t q4_2) k1⟩,[]),(⟨none, .ia 1 (.t q4_3) (.l 0)⟩,[]),(⟨none, .load 1 false (.l 0)⟩,[]),(⟨none, .build [(.int .i64 (.ofNat 0)),(.int .i64 (.ofNat 0))] [(0,1,(.l 3)),(1,1,(.l 0))]⟩,[]),(⟨none, .mks 1 2 [(.int .i64 (.ofNat 0)),(.int .i64 (.ofNat 0))] [(0,2,(.l 0))]⟩,[]),(⟨none, .app 2 (.t q4_7) (.l 0)⟩,[])] [(q4_7,(.l 0))])))))) 
(.reg [⟨none, .bin .add (.t q4_2) k1⟩] [(q4_2,(.l 0))])))))) (.seq 
(.reg [] [(q4_11,(.t q4_7))]) .ret))))), [(q4_11, none)]⟩
def a219 : FN := ⟨full 3, [some q3_1,some q3_2], (.seq 
(.reg [] [(q3_5,(.c (.bool false)))]) (.seq (.seq 
(.reg [] [(q3_0,k0)]) (.block 0 (.loop (.seq (.seq 
(.reg [⟨none, .len (.t q3_1)⟩,⟨none, .bin .lt (.t q3_0) (.l 0)⟩] [(q3_3,(.l 0))]) (.cond (.t q3_3) .skip (.exit 0))) (.seq (.block 1 (.seq 
(.reg [⟨none, .ia 2 (.t q3_1) (.t q3_0)⟩,⟨none, .fa 0 (.l 0)⟩,⟨none, .load 1 false (.l 0)⟩,⟨none, .bin .ge (.t q3_2) (.l 0)⟩,⟨(some ((.l 0),true)), .mov (.t q3_2)⟩,⟨(some ((.l 1),true)), .mov (.t q3_1)⟩,⟨(some ((.l 2),true)), .mov (.t q3_0)⟩,⟨(some ((.l 3),true)), .ia 2 (.l 1) (.l 0)⟩,⟨(some ((.l 4),true)), .fa 1 (.l 0)⟩,⟨(some ((.l 5),true)), .load 1 false (.l 0)⟩,⟨(some ((.l 6),true)), .bin .lt (.l 5) (.l 0)⟩,⟨none, .pick (.l 7) (.l 0) (.c (.bool false))⟩] [(q3_4,(.l 0))]) (.cond (.t q3_4) (.seq 
(.reg [] [(q3_5,(.c (.bool true)))]) .ret) .skip))) 
(.reg [⟨none, .bin .add (.t q3_0) k1⟩] [(q3_0,(.l 0))])))))) (.seq 
(.reg [] [(q3_5,(.c (.bool false)))]) .ret))), [(q3_5, none)]⟩
def a220 : FN := ⟨full 2, [some q2_0], (.seq 
(.reg [⟨none, .box (.t q2_0)⟩] [(q2_1,(.l 0)),(q2_2,(.c (.bool false)))]) (.seq 
(.reg [⟨none, .fa 0 (.t q2_1)⟩,⟨none, .load 1 false (.l 0)⟩,⟨none, .bin .ge (.l 0) k0⟩,⟨(some ((.l 0),true)), .fa 0 (.t q2_1)⟩,⟨(some ((.l 1),true)), .load 1 false (.l 0)⟩,⟨(some ((.l 2),true)), .bin .le (.l 0) (.c (.int .i64 (.ofNat 65535)))⟩,⟨none, .pick (.l 3) (.l 0) (.c (.bool false))⟩,⟨(some ((.l 0),true)), .fa 1 (.t q2_1)⟩,⟨(some ((.l 1),true)), .load 1 false (.l 0)⟩,⟨(some ((.l 2),true)), .call (.c (.fn 63 [])) [(.l 0)]⟩,⟨none, .pick (.l 3) (.l 0) (.c (.bool false))⟩,⟨(some ((.l 0),true)), .fa 0 (.t q2_1)⟩,⟨(some ((.l 1),true)), .load 1 false (.l 0)⟩,⟨(some ((.l 2),true)), .bin .gt (.l 0) k0⟩,⟨(some ((.l 3),true)), .mov (.l 0)⟩,⟨(some ((.l 0),false)), .load 6 true (.t q2_1)⟩,⟨(some ((.l 1),false)), .build [(.int .i64 (.ofNat 0)),(.int .i64 (.ofNat 0)),(.int .u32 (.ofNat 0)),(.int .u32 (.ofNat 0)),(.int .u32 (.ofNat 0)),(.int .u32 (.ofNat 0))] []⟩,⟨(some ((.l 2),false)), .eqa [1, 1, 1, 1, 1, 1] false (.l 1) (.l 0)⟩,⟨(some ((.l 7),true)), .pick (.l 3) (.c (.bool true)) (.l 0)⟩,⟨none, .pick (.l 8) (.l 0) (.c (.bool false))⟩] [(q2_2,(.l 0))]) .ret)), [(q2_2, none)]⟩
def a228 : FN := ⟨full 4, [some q4_0], (.seq 
(.reg [⟨none, .box (.c (.agg [(.int .u32 (.ofNat 0)),(.int .u32 (.ofNat 0)),(.int .u32 (.ofNat 0)),(.int .u32 (.ofNat 0))]))⟩] [(q4_12,(.l 0))]) (.seq 
(.reg [⟨none, .box (.c (.agg [(.int .u32 (.ofNat 0)),(.int .u32 (.ofNat 0)),(.int .u32 (.ofNat 0)),(.int .u32 (.ofNat 0))]))⟩] [(q4_11,(.l 0))]) (.seq 
(.reg [⟨none, .call (.c (.fn 274 [])) [(.t q4_0),(.c (.str []))]⟩] [(q4_2,(.l 0))]) (.seq (.seq 
(.reg [] [(q4_1,k0)]) (.block 0 (.loop (.seq (.seq 
(.reg [⟨none, .lens (.t q4_2)⟩,⟨none, .bin .lt (.t q4_1) (.l 0)⟩] [(q4_13,(.l 0))]) (.cond (.t q4_13) .skip (.exit 0))) (.seq (.block 1 (.seq 
(.reg [] [(q4_6,(.c (.int .u32 (.ofNat 0))))]) (.seq (.seq 
(.reg [⟨none, .bin .add (.t q4_1) k4⟩,⟨none, .lens (.t q4_2)⟩,⟨none, .mn (.l 1) (.l 0)⟩,⟨none, .slc 0 (.t q4_2) (some (.t q4_1)) (some (.l 0)) none⟩,⟨none, .s2b (.l 0)⟩,⟨none, .len (.l 0)⟩] [(q4_3,k0),(q4_4,(.l 0)),(q4_5,(.l 1))]) (.block 2 (.loop (.seq 
(.reg [⟨none, .bin .lt (.t q4_3) (.t q4_4)⟩] [(q4_14,(.l 0))]) (.seq (.cond (.t q4_14) .skip (.exit 2)) (.seq (.block 3 (.seq 
(.reg [⟨none, .ia 1 (.t q4_5) (.t q4_3)⟩,⟨none, .load 1 false (.l 0)⟩] [(q4_7,(.l 0)),(q4_8,(.t q4_3))]) 
(.reg [⟨none, .conv .u32 (.t q4_7)⟩,⟨none, .bin .mul k8 (.t q4_8)⟩,⟨none, .bin .shl (.l 1) (.l 0)⟩,⟨none, .bin .or (.t q4_6) (.l 0)⟩] [(q4_6,(.l 0))]))) 
(.reg [⟨none, .bin .add (.t q4_3) k1⟩] [(q4_3,(.l 0))]))))))) (.seq 
(.reg [] [(q4_9,k0)]) (.block 4 (.loop (.seq 
(.reg [⟨none, .bin .lt (.t q4_9) k4⟩] [(q4_15,(.l 0))]) (.seq (.cond (.t q4_15) .skip (.exit 4)) (.seq (.block 5 (.seq 
(.reg [] [(q4_10,(.t q4_9))]) (.seq 
(.reg [⟨none, .iap 4 1 (.t q4_11) (.t q4_10)⟩,⟨none, .load 1 false (.l 0)⟩,⟨none, .bin .add (.l 0) (.t q4_6)⟩,⟨none, .iap 4 1 (.t q4_11) (.t q4_10)⟩,⟨none, .store 1 (.l 0) (.l 1)⟩] []) 
(.reg [⟨none, .iap 4 1 (.t q4_11) (.t q4_10)⟩,⟨none, .load 1 false (.l 0)⟩] [(q4_6,(.l 0))])))) 
(.reg [⟨none, .bin .add (.t q4_9) k1⟩] [(q4_9,(.l 0))])))))))))) 
(.reg [⟨none, .bin .add (.t q4_1) k4⟩] [(q4_1,(.l 0))])))))) (.seq 
(.reg [⟨none, .load 4 true (.t q4_11)⟩,⟨none, .store 4 (.t q4_12) (.l 0)⟩] []) .ret))))), [(q4_12, some (4,true))]⟩
def a230 : FN := ⟨full 3, [some q3_0], (.seq 
(.reg [⟨none, .box (.t q3_0)⟩] [(q3_1,(.l 0)),(q3_7,(.c .nilsl))]) (.seq 
(.reg [⟨none, .fa 0 (.t q3_1)⟩,⟨none, .fa 0 (.l 0)⟩,⟨none, .load 1 false (.l 0)⟩,⟨none, .fa 0 (.t q3_1)⟩,⟨none, .fa 1 (.l 0)⟩,⟨none, .load 1 false (.l 0)⟩,⟨none, .mks 2 1 [(.int .i64 (.ofNat 0))] [(0,1,(.l 3)),(1,1,(.l 0))]⟩] [(q3_4,(.l 0))]) (.seq (.seq 
(.reg [⟨none, .fa 0 (.t q3_1)⟩,⟨none, .fa 2 (.l 0)⟩,⟨none, .load 4 true (.l 0)⟩] [(q3_2,k0),(q3_3,(.l 0))]) (.block 0 (.loop (.seq 
(.reg [⟨none, .bin .lt (.t q3_2) k4⟩] [(q3_6,(.l 0))]) (.seq (.cond (.t q3_6) .skip (.exit 0)) (.seq (.block 1 (.seq 
(.reg [⟨none, .idxa 4 1 false (.t q3_3) (.t q3_2)⟩] [(q3_5,(.l 0))]) 
(.reg [⟨none, .conv .i64 (.t q3_5)⟩,⟨none, .mks 1 1 [(.int .i64 (.ofNat 0))] [(0,1,(.l 0))]⟩,⟨none, .app 1 (.t q3_4) (.l 0)⟩] [(q3_4,(.l 0))]))) 
(.reg [⟨none, .bin .add (.t q3_2) k1⟩] [(q3_2,(.l 0))]))))))) (.seq 
(.reg [] [(q3_7,(.t q3_4))]) .ret)))), [(q3_7, none)]⟩
def a236 : FN := ⟨full 3, [some q3_0], (.seq 
(.reg [⟨none, .box (.t q3_0)⟩] [(q3_1,(.l 0)),(q3_5,(.c (.str [])))]) (.seq (.seq 
(.reg [⟨none, .fa 0 (.t q3_1)⟩,⟨none, .load 1 false (.l 0)⟩,⟨none, .bin .lt (.l 0) k1⟩,⟨(some ((.l 0),false)), .fa 0 (.t q3_1)⟩,⟨(some ((.l 1),false)), .load 1 false (.l 0)⟩,⟨(some ((.l 2),false)), .call (.c (.fn 282 [])) [(.l 0),(.c (.int .i64 (.ofNat 1073741824)))]⟩,⟨(some ((.l 3),false)), .not (.l 0)⟩,⟨none, .pick (.l 4) (.c (.bool true)) (.l 0)⟩,⟨(some ((.l 0),false)), .fa 1 (.t q3_1)⟩,⟨(some ((.l 1),false)), .load 1 false (.l 0)⟩,⟨(some ((.l 2),false)), .call (.c (.fn 282 [])) [(.l 0),(.c (.int .i64 (.ofNat 1073741824)))]⟩,⟨(some ((.l 3),false)), .not (.l 0)⟩,⟨none, .pick (.l 4) (.c (.bool true)) (.l 0)⟩,⟨(some ((.l 0),false)), .fa 2 (.t q3_1)⟩,⟨(some ((.l 1),false)), .load 1 false (.l 0)⟩,⟨(some ((.l 2),false)), .call (.c (.fn 282 [])) [(.l 0),(.c (.int .i64 (.ofNat 1073741824)))]⟩,⟨(some ((.l 3),false)), .not (.l 0)⟩,⟨none, .pick (.l 4) (.c (.bool true)) (.l 0)⟩,⟨(some ((.l 0),false)), .fa 21 (.t q3_1)⟩,⟨(some ((.l 1),false)), .load 1 false (.l 0)⟩,⟨(some ((.l 2),false)), .call (.c (.fn 282 [])) [(.l 0),(.c (.int .i64 (.ofNat 1073741824)))]⟩,⟨(some ((.l 3),false)), .not (.l 0)⟩,⟨none, .pick (.l 4) (.c (.bool true)) (.l 0)⟩] [(q3_3,(.l 0))]) (.cond (.t q3_3) (.seq 
(.reg [] [(q3_5,(.c (.str [])))]) .ret) .skip)) (.seq 
(.reg [⟨none, .fa 3 (.t q3_1)⟩,⟨none, .load 6 true (.l 0)⟩,⟨none, .fa 9 (.t q3_1)⟩,⟨none, .load 6 true (.l 0)⟩,⟨none, .fa 15 (.t q3_1)⟩,⟨none, .load 6 true (.l 0)⟩,⟨none, .mks 3 6 [(.int .i64 (.ofNat 0)),(.int .i64 (.ofNat 0)),(.int .u32 (.ofNat 0)),(.int .u32 (.ofNat 0)),(.int .u32 (.ofNat 0)),(.int .u32 (.ofNat 0))] [(0,6,(.l 4)),(6,6,(.l 2)),(12,6,(.l 0))]⟩,⟨none, .call (.c (.fn 176 [])) [(.l 0)]⟩] [(q3_2,(.l 0))]) (.seq (.seq 
(.reg [⟨none, .bin .eq (.t q3_2) (.c (.str []))⟩] [(q3_4,(.l 0))]) (.cond (.t q3_4) (.seq 
(.reg [] [(q3_5,(.c (.str [])))]) .ret) .skip)) (.seq 
(.drw [(⟨none, .fa 0 (.t q3_1)⟩,[]),(⟨none, .load 1 false (.l 0)⟩,[]),(⟨none, .fa 1 (.t q3_1)⟩,[]),(⟨none, .load 1 false (.l 0)⟩,[]),(⟨none, .fa 2 (.t q3_1)⟩,[]),(⟨none, .load 1 false (.l 0)⟩,[]),(⟨none, .mks 3 1 [(.int .i64 (.ofNat 0))] [(0,1,(.l 4)),(1,1,(.l 2)),(2,1,(.l 0))]⟩,[]),(⟨none, .call (.c (.fn 175 [])) [(.c (.str [52,52,52])),(.l 0)]⟩,[]),(⟨none, .fa 21 (.t q3_1)⟩,[7]),(⟨none, .load 1 false (.l 0)⟩,[7]),(⟨none, .mks 1 1 [(.int .i64 (.ofNat 0))] [(0,1,(.l 0))]⟩,[7]),(⟨none, .call (.c (.fn 175 [])) [(.c (.str [52])),(.l 0)]⟩,[]),(⟨none, .bin .add (.l 4) (.t q3_2)⟩,[11]),(⟨none, .bin .add (.l 0) (.l 1)⟩,[])] [(q3_5,(.l 0))]) .ret))))), [(q3_5, none)]⟩
def a237 : FN := ⟨full 4, [some q4_0,some q4_1], (.seq 
(.reg [] [(q4_13,(.c (.str [])))]) (.seq (.seq 
(.reg [⟨none, .len (.t q4_0)⟩,⟨none, .bin .gt (.l 0) k8⟩,⟨(some ((.l 0),false)), .mov (.t q4_0)⟩,⟨(some ((.l 1),false)), .len (.l 0)⟩,⟨(some ((.l 2),false)), .mov (.t q4_1)⟩,⟨(some ((.l 3),false)), .len (.l 0)⟩,⟨(some ((.l 4),false)), .bin .ne (.l 2) (.l 0)⟩,⟨none, .pick (.l 5) (.c (.bool true)) (.l 0)⟩] [(q4_10,(.l 0))]) (.cond (.t q4_10) (.seq 
(.reg [] [(q4_13,(.c (.str [])))]) .ret) .skip)) (.seq 
(.reg [⟨none, .len (.t q4_0)⟩,⟨none, .mks 1 1 [(.int .i64 (.ofNat 0))] [(0,1,(.l 0))]⟩,⟨none, .call (.c (.fn 175 [])) [(.c (.str [49])),(.l 0)]⟩] [(q4_8,k0),(q4_9,(.l 0))]) (.seq (.seq 
(.reg [⟨none, .len (.t q4_0)⟩] [(q4_2,k0),(q4_3,(.l 0)),(q4_4,(.t q4_0))]) (.block 0 (.loop (.seq 
(.reg [⟨none, .bin .lt (.t q4_2) (.t q4_3)⟩] [(q4_11,(.l 0))]) (.seq (.cond (.t q4_11) .skip (.exit 0)) (.seq (.block 1 (.seq 
(.reg [⟨none, .ia 5 (.t q4_4) (.t q4_2)⟩,⟨none, .load 5 true (.l 0)⟩,⟨none, .box (.c (.agg [(.int .i64 (.ofNat 0)),(.int .i64 (.ofNat 0)),(.int .i64 (.ofNat 0)),(.int .i64 (.ofNat 0)),.nilsl]))⟩,⟨none, .store 5 (.l 0) (.l 1)⟩] [(q4_5,(.l 1)),(q4_6,(.t q4_2))]) (.seq 
(.drw [(⟨none, .load 5 true (.t q4_5)⟩,[]),(⟨none, .ia 6 (.t q4_1) (.t q4_6)⟩,[]),(⟨none, .load 6 true (.l 0)⟩,[]),(⟨none, .build [(.int .i64 (.ofNat 0)),(.int .i64 (.ofNat 0)),(.int .i64 (.ofNat 0)),(.int .i64 (.ofNat 0)),.nilsl,(.int .i64 (.ofNat 0)),(.int .i64 (.ofNat 0)),(.int .u32 (.ofNat 0)),(.int .u32 (.ofNat 0)),(.int .u32 (.ofNat 0)),(.int .u32 (.ofNat 0))] [(0,5,(.l 2)),(5,6,(.l 0))]⟩,[]),(⟨none, .box (.c (.agg [(.int .i64 (.ofNat 0)),(.int .i64 (.ofNat 0)),(.int .i64 (.ofNat 0)),(.int .i64 (.ofNat 0)),.nilsl,(.int .i64 (.ofNat 0)),(.int .i64 (.ofNat 0)),(.int .u32 (.ofNat 0)),(.int .u32 (.ofNat 0)),(.int .u32 (.ofNat 0)),(.int .u32 (.ofNat 0))]))⟩,[]),(⟨none, .store 11 (.l 0) (.l 1)⟩,[])] [(q4_7,(.l 1))]) (.seq (.seq 
(.reg [⟨none, .load 11 true (.t q4_7)⟩,⟨none, .call (.c (.fn 283 [])) [(.l 0),(.t q4_8)]⟩,⟨none, .not (.l 0)⟩] [(q4_12,(.l 0))]) (.cond (.t q4_12) (.seq 
(.reg [] [(q4_13,(.c (.str [])))]) .ret) .skip)) 
(.drw [(⟨none, .load 11 true (.t q4_7)⟩,[]),(⟨none, .call (.c (.fn 284 [])) [(.l 0)]⟩,[]),(⟨none, .bin .add (.t q4_9) (.l 0)⟩,[]),(⟨none, .fa 0 (.t q4_7)⟩,[1]),(⟨none, .fa 0 (.l 0)⟩,[1]),(⟨none, .load 1 false (.l 0)⟩,[1])] [(q4_8,(.l 0)),(q4_9,(.l 3))]))))) 
(.reg [⟨none, .bin .add (.t q4_2) k1⟩] [(q4_2,(.l 0))]))))))) (.seq 
(.reg [] [(q4_13,(.t q4_9))]) .ret))))), [(q4_13, none)]⟩
def a238 : FN := ⟨full 1, [], (.seq 
(.reg [] [(q1_1,(.c .nilsl))]) (.seq 
(.reg [⟨none, .mksl 5 56 [(.int .i64 (.ofNat 0)),(.int .i64 (.ofNat 0)),(.str []),(.str []),(.int .i64 (.ofNat 0))] k8 k8⟩] [(q1_0,(.l 0))]) (.seq 
(.reg [⟨none, .ia 5 (.t q1_0) k0⟩,⟨none, .fa 0 (.l 0)⟩,⟨none, .store 1 (.l 0) k2⟩] []) (.seq 
(.reg [] [(q1_1,(.t q1_0))]) .ret)))), [(q1_1, none)]⟩
def a239 : FN := ⟨full 3, [some q3_0], (.seq 
(.reg [] [(q3_5,(.c .nilsl)),(q3_6,(.c (.bool false)))]) (.seq 
(.reg [⟨none, .call (.c (.fn 106 [])) [(.t q3_0),k8]⟩,⟨none, .ext (.l 0) 0⟩,⟨none, .ext (.l 1) 1⟩,⟨none, .ext (.l 2) 2⟩] [(q3_1,(.l 0)),(q3_2,(.l 1)),(q3_3,(.l 2))]) (.seq (.seq 
(.reg [⟨none, .not (.t q3_1)⟩,⟨(some ((.l 0),false)), .mov (.t q3_2)⟩,⟨(some ((.l 1),false)), .bin .ne (.l 0) (.c (.str []))⟩,⟨none, .pick (.l 2) (.c (.bool true)) (.l 0)⟩] [(q3_4,(.l 0))]) (.cond (.t q3_4) (.seq 
(.reg [] [(q3_5,(.c .nilsl)),(q3_6,(.c (.bool false)))]) .ret) .skip)) (.seq 
(.reg [⟨none, .call (.c (.fn 285 [])) [(.t q3_3)]⟩] [(q3_5,(.l 0)),(q3_6,(.c (.bool true)))]) .ret)))), [(q3_5, none),(q3_6, none)]⟩
def a240 : FN := ⟨full 2, [some q2_0], (.seq 
(.reg [⟨none, .call (.c (.fn 238 [])) []⟩,⟨none, .nilc (.t q2_0)⟩,⟨none, .fa 5 (.l 0)⟩,⟨none, .store 1 (.l 0) (.l 2)⟩,⟨none, .nilc (.t q2_0)⟩,⟨none, .fa 8 (.l 0)⟩,⟨none, .store 1 (.l 0) (.c (.bool true))⟩] []) (.seq 
(.reg [] [(q2_1,k1)]) (.block 0 (.loop (.seq (.seq 
(.reg [⟨none, .nilc (.t q2_0)⟩,⟨none, .fa 5 (.l 0)⟩,⟨none, .load 1 false (.l 0)⟩,⟨none, .len (.l 0)⟩,⟨none, .bin .lt (.t q2_1) (.l 0)⟩] [(q2_2,(.l 0))]) (.cond (.t q2_2) .skip (.exit 0))) (.seq (.block 1 
(.reg [⟨none, .nilc (.t q2_0)⟩,⟨none, .fa 5 (.l 0)⟩,⟨none, .load 1 false (.l 0)⟩,⟨none, .ia 5 (.l 0) (.t q2_1)⟩,⟨none, .fa 0 (.l 0)⟩,⟨none, .store 1 (.l 0) k3⟩] [])) 
(.reg [⟨none, .bin .add (.t q2_1) k1⟩] [(q2_1,(.l 0))]))))))), []⟩
def a241 : FN := ⟨full 4, [some q4_0,some q4_1], (.seq 
(.reg [⟨none, .nilc (.t q4_0)⟩,⟨none, .fa 5 (.l 0)⟩,⟨none, .load 1 false (.l 0)⟩,⟨none, .build [(.int .i64 (.ofNat 0)),(.int .i64 (.ofNat 0)),(.str []),(.str []),(.int .i64 (.ofNat 0))] [(0,1,k3)]⟩,⟨none, .ia 5 (.l 1) (.t q4_1)⟩,⟨none, .store 5 (.l 0) (.l 1)⟩] []) (.seq (.seq 
(.reg [⟨none, .bin .eq (.t q4_1) k0⟩] [(q4_7,(.l 0))]) (.cond (.t q4_7) 
(.reg [⟨none, .nilc (.t q4_0)⟩,⟨none, .fa 5 (.l 0)⟩,⟨none, .load 1 false (.l 0)⟩,⟨none, .build [(.int .i64 (.ofNat 0)),(.int .i64 (.ofNat 0)),(.str []),(.str []),(.int .i64 (.ofNat 0))] [(0,1,k2)]⟩,⟨none, .ia 5 (.l 1) (.t q4_1)⟩,⟨none, .store 5 (.l 0) (.l 1)⟩] []) .skip)) (.seq 
(.drw [(⟨none, .nilc (.t q4_0)⟩,[]),(⟨none, .fa 0 (.l 0)⟩,[]),(⟨none, .load 5 true (.l 0)⟩,[]),(⟨none, .nilc (.t q4_0)⟩,[]),(⟨none, .fa 6 (.l 0)⟩,[]),(⟨none, .load 1 false (.l 0)⟩,[]),(⟨none, .ia 6 (.l 0) (.t q4_1)⟩,[]),(⟨none, .load 6 true (.l 0)⟩,[]),(⟨none, .call (.c (.fn 115 [])) [(.l 5),(.l 0),k2]⟩,[]),(⟨none, .ext (.l 0) 0⟩,[]),(⟨none, .ext (.l 1) 1⟩,[])] [(q4_2,(.l 1))]) (.seq 
(.reg [⟨none, .call (.c (.fn 286 [])) [(.t q4_2)]⟩,⟨none, .ext (.l 0) 0⟩,⟨none, .ext (.l 1) 1⟩,⟨none, .ext (.l 2) 2⟩,⟨none, .ext (.l 3) 3⟩,⟨none, .box (.c (.agg [(.int .i64 (.ofNat 0)),(.int .i64 (.ofNat 0)),(.str []),(.str []),(.int .i64 (.ofNat 0))]))⟩,⟨none, .store 5 (.l 0) (.l 4)⟩] [(q4_3,(.l 2)),(q4_4,(.l 1)),(q4_5,(.l 4)),(q4_6,(.l 3))]) (.seq (.seq 
(.reg [⟨none, .bin .eq (.t q4_1) k0⟩] [(q4_8,(.l 0))]) (.cond (.t q4_8) 
(.reg [⟨(some ((.t q4_3),true)), .load 5 true (.t q4_4)⟩,⟨(some ((.t q4_3),true)), .build [(.int .i64 (.ofNat 0)),(.int .i64 (.ofNat 0)),(.str []),(.str []),(.int .i64 (.ofNat 0))] [(0,1,k2)]⟩,⟨(some ((.t q4_3),true)), .eqa [1, 1, 2, 2, 1] false (.l 1) (.l 0)⟩,⟨none, .pick (.t q4_3) (.l 0) (.c (.bool false))⟩,⟨(some ((.l 0),true)), .mov (.t q4_5)⟩,⟨(some ((.l 1),true)), .bin .eq (.l 0) k0⟩,⟨none, .pick (.l 2) (.l 0) (.c (.bool false))⟩,⟨(some ((.l 0),true)), .mov (.t q4_6)⟩,⟨(some ((.l 1),true)), .call (.c (.fn 287 [])) [(.l 0),(.c (.fn 288 []))]⟩,⟨(some ((.l 2),true)), .not (.l 0)⟩,⟨none, .pick (.l 3) (.l 0) (.c (.bool false))⟩] [(q4_3,(.l 0))]) 
(.reg [⟨(some ((.t q4_3),true)), .fa 2 (.t q4_4)⟩,⟨(some ((.t q4_3),true)), .load 1 false (.l 0)⟩,⟨(some ((.t q4_3),true)), .call (.c (.fn 289 [])) [(.l 0)]⟩,⟨none, .pick (.t q4_3) (.l 0) (.c (.bool false))⟩] [(q4_3,(.l 0))]))) (.seq (.seq 
(.reg [⟨none, .not (.t q4_3)⟩] [(q4_9,(.l 0))]) (.cond (.t q4_9) (.seq 
(.reg [⟨none, .nilc (.t q4_0)⟩,⟨none, .fa 8 (.l 0)⟩,⟨none, .store 1 (.l 0) (.c (.bool true))⟩] []) .ret) .skip)) (.seq 
(.reg [⟨none, .nilc (.t q4_0)⟩,⟨none, .fa 7 (.l 0)⟩,⟨none, .load 1 false (.l 0)⟩,⟨none, .bin .mul (.t q4_1) k4⟩,⟨none, .slc 6 (.l 1) (some (.l 0)) none none⟩,⟨none, .cpy 6 (.l 0) (.t q4_6)⟩] []) (.seq 
(.reg [⟨none, .call (.c (.fn 290 [])) [(.t q4_0),(.t q4_5),(.t q4_6)]⟩,⟨none, .ext (.l 0) 0⟩,⟨none, .ext (.l 1) 1⟩,⟨none, .fa 3 (.t q4_4)⟩,⟨none, .store 1 (.l 0) (.l 2)⟩,⟨none, .fa 4 (.t q4_4)⟩,⟨none, .store 1 (.l 0) (.l 3)⟩] []) 
(.drw [(⟨none, .nilc (.t q4_0)⟩,[]),(⟨none, .fa 5 (.l 0)⟩,[]),(⟨none, .load 1 false (.l 0)⟩,[]),(⟨none, .load 5 true (.t q4_4)⟩,[]),(⟨none, .nilc (.t q4_0)⟩,[]),(⟨none, .fa 8 (.l 0)⟩,[]),(⟨none, .load 1 false (.l 0)⟩,[]),(⟨none, .ia 5 (.l 4) (.t q4_1)⟩,[]),(⟨none, .store 5 (.l 0) (.l 4)⟩,[]),(⟨(some ((.l 2),false)), .fa 4 (.t q4_4)⟩,[8]),(⟨(some ((.l 3),false)), .load 1 false (.l 0)⟩,[8]),(⟨(some ((.l 4),false)), .bin .ne (.l 0) k0⟩,[8]),(⟨none, .pick (.l 5) (.c (.bool true)) (.l 0)⟩,[8]),(⟨none, .nilc (.t q4_0)⟩,[]),(⟨none, .fa 8 (.l 0)⟩,[]),(⟨none, .store 1 (.l 0) (.l 2)⟩,[])] []))))))))), []⟩
def a242 : FN := ⟨full 1, [some q1_0], (.seq 
(.reg [] [(q1_1,(.c (.bool false)))]) (.seq 
(.reg [⟨none, .build [.nilsl] [(0,1,(.t q1_0))]⟩,⟨none, .call (.c (.fn 291 [])) [(.l 0)]⟩,⟨none, .call (.c (.fn 292 [])) [(.l 0)]⟩] [(q1_1,(.l 0))]) .ret)), [(q1_1, none)]⟩
def a243 : FN := ⟨full 1, [some q1_0], (.seq 
(.reg [] [(q1_1,(.c (.bool false)))]) (.seq 
(.reg [⟨none, .build [.nilsl] [(0,1,(.t q1_0))]⟩,⟨none, .call (.c (.fn 292 [])) [(.l 0)]⟩] [(q1_1,(.l 0))]) .ret)), [(q1_1, none)]⟩
def a246 : FN := ⟨full 3, [some q3_0], (.seq 
(.reg [⟨none, .box (.c (.agg [(.int .i64 (.ofNat 0)),(.int .i64 (.ofNat 0)),(.str []),(.bool false)]))⟩] [(q3_4,(.l 0))]) (.seq 
(.reg [⟨none, .call (.c (.fn 105 [])) [(.c (.str [49,52,50])),(.t q3_0)]⟩,⟨none, .ext (.l 0) 0⟩,⟨none, .ext (.l 1) 1⟩,⟨none, .ext (.l 2) 2⟩] [(q3_1,(.l 0)),(q3_2,(.l 2)),(q3_3,(.l 1))]) (.seq (.seq 
(.reg [⟨none, .not (.t q3_1)⟩,⟨(some ((.l 0),false)), .mov (.t q3_2)⟩,⟨(some ((.l 1),false)), .ia 1 (.l 0) k2⟩,⟨(some ((.l 2),false)), .load 1 false (.l 0)⟩,⟨(some ((.l 3),false)), .mov (.t q3_3)⟩,⟨(some ((.l 4),false)), .lens (.l 0)⟩,⟨(some ((.l 5),false)), .bin .gt (.l 2) (.l 0)⟩,⟨none, .pick (.l 6) (.c (.bool true)) (.l 0)⟩] [(q3_6,(.l 0))]) (.cond (.t q3_6) (.seq 
(.reg [⟨none, .build [(.int .i64 (.ofNat 0)),(.int .i64 (.ofNat 0)),(.str []),(.bool false)] []⟩,⟨none, .store 4 (.t q3_4) (.l 0)⟩] []) .ret) .skip)) (.seq 
(.drw [(⟨none, .ia 1 (.t q3_2) k0⟩,[]),(⟨none, .load 1 false (.l 0)⟩,[]),(⟨none, .ia 1 (.t q3_2) k1⟩,[]),(⟨none, .load 1 false (.l 0)⟩,[]),(⟨none, .ia 1 (.t q3_2) k2⟩,[]),(⟨none, .load 1 false (.l 0)⟩,[]),(⟨none, .slc 0 (.t q3_3) none (some (.l 0)) none⟩,[]),(⟨none, .build [(.int .i64 (.ofNat 0)),(.int .i64 (.ofNat 0)),(.str [])] [(0,1,(.l 5)),(1,1,(.l 3)),(2,1,(.l 0))]⟩,[]),(⟨none, .build [(.int .i64 (.ofNat 0)),(.int .i64 (.ofNat 0)),(.str [])] [(0,3,(.l 0))]⟩,[]),(⟨none, .box (.c (.agg [(.int .i64 (.ofNat 0)),(.int .i64 (.ofNat 0)),(.str [])]))⟩,[]),(⟨none, .store 3 (.l 0) (.l 1)⟩,[])] [(q3_5,(.l 1))]) (.seq (.seq 
(.reg [⟨none, .load 3 true (.t q3_5)⟩,⟨none, .call (.c (.fn 294 [])) [(.l 0)]⟩,⟨none, .not (.l 0)⟩,⟨(some ((.l 0),false)), .load 3 true (.t q3_5)⟩,⟨(some ((.l 1),false)), .call (.c (.fn 295 [])) [(.l 0)]⟩,⟨(some ((.l 2),false)), .mov (.t q3_0)⟩,⟨(some ((.l 3),false)), .bin .ne (.l 1) (.l 0)⟩,⟨none, .pick (.l 4) (.c (.bool true)) (.l 0)⟩] [(q3_7,(.l 0))]) (.cond (.t q3_7) (.seq 
(.reg [⟨none, .build [(.int .i64 (.ofNat 0)),(.int .i64 (.ofNat 0)),(.str []),(.bool false)] []⟩,⟨none, .store 4 (.t q3_4) (.l 0)⟩] []) .ret) .skip)) (.seq 
(.reg [⟨none, .load 3 true (.t q3_5)⟩,⟨none, .build [(.int .i64 (.ofNat 0)),(.int .i64 (.ofNat 0)),(.str []),(.bool false)] [(0,3,(.l 0)),(3,1,(.c (.bool true)))]⟩,⟨none, .store 4 (.t q3_4) (.l 0)⟩] []) .ret)))))), [(q3_4, some (4,true))]⟩
def a247 : FN := ⟨full 3, [some q3_0,some q3_1,some q3_4], (.seq 
(.reg [⟨none, .box (.t q3_0)⟩,⟨none, .box (.t q3_1)⟩] [(q3_2,(.l 1)),(q3_3,(.l 0)),(q3_5,(.c (.bool false)))]) (.seq 
(.drw [(⟨none, .fa 3 (.t q3_2)⟩,[]),(⟨none, .load 1 false (.l 0)⟩,[]),(⟨(some ((.l 0),true)), .fa 0 (.t q3_2)⟩,[]),(⟨(some ((.l 1),true)), .load 3 true (.l 0)⟩,[]),(⟨(some ((.l 2),true)), .call (.c (.fn 295 [])) [(.l 0)]⟩,[]),(⟨(some ((.l 3),true)), .load 6 true (.t q3_3)⟩,[4]),(⟨(some ((.l 4),true)), .call (.c (.fn 296 [])) [(.l 0),(.l 1)]⟩,[]),(⟨none, .pick (.l 5) (.l 0) (.c (.bool false))⟩,[]),(⟨(some ((.l 0),true)), .fa 0 (.t q3_2)⟩,[]),(⟨(some ((.l 1),true)), .fa 0 (.l 0)⟩,[]),(⟨(some ((.l 2),true)), .fa 1 (.l 0)⟩,[]),(⟨(some ((.l 3),true)), .load 1 false (.l 0)⟩,[]),(⟨(some ((.l 4),true)), .fa 1 (.t q3_3)⟩,[]),(⟨(some ((.l 5),true)), .load 1 false (.l 0)⟩,[]),(⟨(some ((.l 6),true)), .bin .eq (.l 2) (.l 0)⟩,[]),(⟨none, .pick (.l 7) (.l 0) (.c (.bool false))⟩,[]),(⟨(some ((.l 0),true)), .fa 0 (.t q3_2)⟩,[]),(⟨(some ((.l 1),true)), .fa 0 (.l 0)⟩,[]),(⟨(some ((.l 2),true)), .fa 0 (.l 0)⟩,[]),(⟨(some ((.l 3),true)), .load 1 false (.l 0)⟩,[]),(⟨(some ((.l 4),true)), .mov (.t q3_4)⟩,[]),(⟨(some ((.l 5),true)), .bin .eq (.l 1) (.l 0)⟩,[]),(⟨none, .pick (.l 6) (.l 0) (.c (.bool false))⟩,[])] [(q3_5,(.l 0))]) .ret)), [(q3_5, none)]⟩
def a248 : FN := ⟨full 1, [some q1_0], (.seq 
(.reg [] [(q1_1,(.c (.bool false)))]) (.seq 
(.reg [⟨none, .bin .ge (.t q1_0) (.c (.int .i64 (.ofNat 40)))⟩,⟨(some ((.l 0),true)), .mov (.t q1_0)⟩,⟨(some ((.l 1),true)), .bin .le (.l 0) (.c (.int .i64 (.ofNat 240)))⟩,⟨none, .pick (.l 2) (.l 0) (.c (.bool false))⟩] [(q1_1,(.l 0))]) .ret)), [(q1_1, none)]⟩
def a249 : FN := ⟨full 1, [some q1_0], (.seq 
(.reg [] [(q1_1,k0)]) (.seq 
(.reg [⟨none, .bin .add (.t q1_0) k8⟩,⟨none, .bin .sub (.l 0) k1⟩,⟨none, .bin .quo (.l 0) k8⟩] [(q1_1,(.l 0))]) .ret)), [(q1_1, none)]⟩
def a250 : FN := ⟨full 4, [some q4_0], (.seq 
(.reg [] [(q4_8,(.c .nilsl))]) (.seq 
(.reg [] [(q4_5,(.c .nilsl))]) (.seq 
(.reg [⟨none, .call (.c (.fn 297 [])) [(.t q4_0)]⟩] [(q4_0,(.l 0))]) (.seq 
(.reg [⟨none, .call (.c (.fn 298 [])) [(.t q4_0)]⟩] []) (.seq (.seq 
(.reg [⟨none, .call (.c (.fn 299 [])) [(.t q4_0)]⟩,⟨none, .len (.l 0)⟩] [(q4_1,k0),(q4_2,(.l 0)),(q4_3,(.l 1))]) (.block 0 (.loop (.seq 
(.reg [⟨none, .bin .lt (.t q4_1) (.t q4_2)⟩] [(q4_6,(.l 0))]) (.seq (.cond (.t q4_6) .skip (.exit 0)) (.seq (.block 1 (.seq 
(.reg [⟨none, .ia 1 (.t q4_3) (.t q4_1)⟩,⟨none, .load 1 false (.l 0)⟩] [(q4_4,(.l 0))]) (.seq 
(.reg [⟨none, .bin .ge (.t q4_4) k0⟩,⟨(some ((.l 0),true)), .mov (.t q4_4)⟩,⟨(some ((.l 1),true)), .bin .lt (.l 0) (.c (.int .i64 (.ofNat 1073741824)))⟩,⟨none, .pick (.l 2) (.l 0) (.c (.bool false))⟩] [(q4_7,(.l 0))]) (.cond (.t q4_7) 
(.reg [⟨none, .bin .add (.t q4_4) k1⟩,⟨none, .build [(.int .i64 (.ofNat 0)),(.int .i64 (.ofNat 0))] [(0,1,(.t q4_4)),(1,1,(.l 0))]⟩,⟨none, .call (.c (.fn 300 [])) [(.t q4_5),(.l 0)]⟩] [(q4_5,(.l 0))]) .skip)))) 
(.reg [⟨none, .bin .add (.t q4_1) k1⟩] [(q4_1,(.l 0))]))))))) (.seq 
(.reg [] [(q4_8,(.t q4_5))]) .ret)))))), [(q4_8, none)]⟩
def a251 : FN := ⟨full 2, [some q2_2,some q2_0], (.seq 
(.reg [⟨none, .box (.t q2_0)⟩] [(q2_1,(.l 0)),(q2_3,(.c (.bool false)))]) (.seq 
(.reg [⟨none, .load 4 true (.t q2_1)⟩,⟨none, .build [.nilsl,.nilsl,.nilsl,.nilsl] [(0,4,(.l 0))]⟩,⟨none, .build [.nilsl,.nilsl,.nilsl,.nilsl,(.int .i64 (.ofNat 0))] [(0,4,(.l 0)),(4,1,(.t q2_2))]⟩,⟨none, .call (.c (.fn 301 [])) [(.l 0)]⟩] [(q2_3,(.l 0))]) .ret)), [(q2_3, none)]⟩
def a252 : FN := ⟨full 4, [some q4_0,some q4_1], (.seq 
(.reg [] [(q4_10,(.c (.str [])))]) (.seq 
(.reg [⟨none, .bin .add (.c (.int .i64 (.ofNat 14))) (.t q4_0)⟩,⟨none, .build [(.int .i64 (.ofNat 0)),(.int .i64 (.ofNat 0))] [(0,1,(.c (.int .i64 (.ofNat 14)))),(1,1,(.l 0))]⟩,⟨none, .mks 1 2 [(.int .i64 (.ofNat 0)),(.int .i64 (.ofNat 0))] [(0,2,(.l 0))]⟩] [(q4_2,(.l 0))]) (.seq (.seq 
(.reg [⟨none, .call (.c (.fn 248 [])) [(.t q4_0)]⟩,⟨none, .not (.l 0)⟩,⟨(some ((.l 0),false)), .mov (.t q4_1)⟩,⟨(some ((.l 1),false)), .call (.c (.fn 302 [])) [(.l 0)]⟩,⟨(some ((.l 2),false)), .not (.l 0)⟩,⟨none, .pick (.l 3) (.c (.bool true)) (.l 0)⟩,⟨(some ((.l 0),false)), .mov (.t q4_1)⟩,⟨(some ((.l 1),false)), .mov (.t q4_2)⟩,⟨(some ((.l 2),false)), .call (.c (.fn 195 [])) [(.l 1),(.l 0)]⟩,⟨(some ((.l 3),false)), .len (.l 0)⟩,⟨(some ((.l 4),false)), .bin .gt (.l 0) k0⟩,⟨none, .pick (.l 5) (.c (.bool true)) (.l 0)⟩] [(q4_7,(.l 0))]) (.cond (.t q4_7) (.seq 
(.reg [] [(q4_10,(.c (.str [])))]) .ret) .skip)) (.seq 
(.reg [⟨none, .call (.c (.fn 249 [])) [(.t q4_0)]⟩,⟨none, .mksl 1 1 [(.int .u8 (.ofNat 0))] (.l 0) (.l 0)⟩] [(q4_6,(.l 0))]) (.seq (.seq 
(.reg [] [(q4_3,k0),(q4_4,(.t q4_0))]) (.block 0 (.loop (.seq 
(.reg [⟨none, .bin .lt (.t q4_3) (.t q4_4)⟩] [(q4_8,(.l 0))]) (.seq (.cond (.t q4_8) .skip (.exit 0)) (.seq (.block 1 (.seq 
(.reg [] [(q4_5,(.t q4_3))]) (.seq 
(.reg [⟨none, .bin .add (.c (.int .i64 (.ofNat 14))) (.t q4_5)⟩,⟨none, .call (.c (.fn 303 [])) [(.t q4_1),(.l 0)]⟩] [(q4_9,(.l 0))]) (.cond (.t q4_9) 
(.drw [(⟨none, .bin .quo (.t q4_5) k8⟩,[]),(⟨none, .ia 1 (.t q4_6) (.l 0)⟩,[]),(⟨none, .load 1 false (.l 0)⟩,[]),(⟨none, .bin .rem (.t q4_5) k8⟩,[]),(⟨none, .bin .shl (.c (.int .u8 (.ofNat 1))) (.l 0)⟩,[]),(⟨none, .bin .or (.l 2) (.l 0)⟩,[]),(⟨none, .ia 1 (.t q4_6) (.l 5)⟩,[]),(⟨none, .store 1 (.l 0) (.l 1)⟩,[])] []) .skip)))) 
(.reg [⟨none, .bin .add (.t q4_3) k1⟩] [(q4_3,(.l 0))]))))))) (.seq 
(.reg [⟨none, .b2s (.t q4_6)⟩] [(q4_10,(.l 0))]) .ret)))))), [(q4_10, none)]⟩
def a253 : FN := ⟨full 4, [some q4_0,some q4_4], (.seq 
(.reg [⟨none, .box (.t q4_0)⟩] [(q4_1,(.l 0)),(q4_8,(.c .nilsl))]) (.seq 
(.reg [] [(q4_5,(.c .nilsl))]) (.seq 
(.reg [⟨none, .load 2 true (.t q4_1)⟩,⟨none, .call (.c (.fn 304 [])) [(.l 0)]⟩] [(q4_3,(.l 0))]) (.seq (.seq 
(.reg [] [(q4_2,k1)]) (.block 0 (.loop (.seq (.seq 
(.reg [⟨none, .len (.t q4_3)⟩,⟨none, .bin .lt (.t q4_2) (.l 0)⟩] [(q4_6,(.l 0))]) (.cond (.t q4_6) .skip (.exit 0))) (.seq (.block 1 (.seq 
(.drw [(⟨none, .fa 0 (.t q4_1)⟩,[]),(⟨none, .load 1 false (.l 0)⟩,[]),(⟨none, .bin .sub (.t q4_2) k1⟩,[]),(⟨none, .ia 1 (.t q4_3) (.l 0)⟩,[]),(⟨none, .load 1 false (.l 0)⟩,[]),(⟨none, .call (.c (.fn 303 [])) [(.l 3),(.l 0)]⟩,[]),(⟨none, .fa 1 (.t q4_1)⟩,[5]),(⟨none, .load 1 false (.l 0)⟩,[5]),(⟨none, .bin .sub (.t q4_2) k1⟩,[5]),(⟨none, .ia 1 (.t q4_3) (.l 0)⟩,[5]),(⟨none, .load 1 false (.l 0)⟩,[5]),(⟨none, .call (.c (.fn 303 [])) [(.l 3),(.l 0)]⟩,[]),(⟨none, .call (.t q4_4) [(.l 6),(.l 0)]⟩,[])] [(q4_7,(.l 0))]) (.cond (.t q4_7) 
(.drw [(⟨none, .bin .sub (.t q4_2) k1⟩,[]),(⟨none, .ia 1 (.t q4_3) (.l 0)⟩,[]),(⟨none, .load 1 false (.l 0)⟩,[]),(⟨none, .ia 1 (.t q4_3) (.t q4_2)⟩,[]),(⟨none, .load 1 false (.l 0)⟩,[]),(⟨none, .build [(.int .i64 (.ofNat 0)),(.int .i64 (.ofNat 0))] [(0,1,(.l 2)),(1,1,(.l 0))]⟩,[]),(⟨none, .call (.c (.fn 300 [])) [(.t q4_5),(.l 0)]⟩,[])] [(q4_5,(.l 0))]) .skip))) 
(.reg [⟨none, .bin .add (.t q4_2) k1⟩] [(q4_2,(.l 0))])))))) (.seq 
(.reg [] [(q4_8,(.t q4_5))]) .ret))))), [(q4_8, none)]⟩
def a254 : FN := ⟨full 2, [some q2_0,some q2_1], (.seq 
(.reg [] [(q2_2,(.c (.bool false)))]) (.seq 
(.reg [⟨(some ((.t q2_0),false)), .mov (.t q2_1)⟩,⟨none, .pick (.t q2_0) (.c (.bool true)) (.l 0)⟩] [(q2_2,(.l 0))]) .ret)), [(q2_2, none)]⟩
def a255 : FN := ⟨full 2, [some q2_0,some q2_1], (.seq 
(.reg [] [(q2_2,(.c (.bool false)))]) (.seq 
(.reg [⟨(some ((.t q2_0),true)), .mov (.t q2_1)⟩,⟨(some ((.t q2_0),true)), .not (.l 0)⟩,⟨none, .pick (.t q2_0) (.l 0) (.c (.bool false))⟩] [(q2_2,(.l 0))]) .ret)), [(q2_2, none)]⟩
def a256 : FN := ⟨full 2, [some q2_0], (.seq 
(.reg [] [(q2_2,(.c .nilsl))]) (.seq (.seq 
(.reg [⟨none, .eqs false (.t q2_0) (.c .nilsl)⟩] [(q2_1,(.l 0))]) (.cond (.t q2_1) (.seq 
(.reg [] [(q2_2,(.c .nilsl))]) .ret) .skip)) (.seq 
(.reg [⟨none, .mks 0 2 [(.int .i64 (.ofNat 0)),(.int .i64 (.ofNat 0))] []⟩,⟨none, .app 2 (.l 0) (.t q2_0)⟩] [(q2_2,(.l 0))]) .ret))), [(q2_2, none)]⟩
def a257 : FN := ⟨full 2, [some q2_0], (.seq 
(.reg [] [(q2_2,(.c .nilsl))]) (.seq (.seq 
(.reg [⟨none, .eqs false (.t q2_0) (.c .nilsl)⟩] [(q2_1,(.l 0))]) (.cond (.t q2_1) (.seq 
(.reg [] [(q2_2,(.c .nilsl))]) .ret) .skip)) (.seq 
(.reg [⟨none, .mks 0 5 [(.int .i64 (.ofNat 0)),(.int .i64 (.ofNat 0)),(.int .i64 (.ofNat 0)),(.int .i64 (.ofNat 0)),.nilsl] []⟩,⟨none, .app 5 (.l 0) (.t q2_0)⟩] [(q2_2,(.l 0))]) .ret))), [(q2_2, none)]⟩
def a258 : FN := ⟨full 2, [some q2_0], (.seq 
(.reg [] [(q2_2,(.c .nilsl))]) (.seq (.seq 
(.reg [⟨none, .eqs false (.t q2_0) (.c .nilsl)⟩] [(q2_1,(.l 0))]) (.cond (.t q2_1) (.seq 
(.reg [] [(q2_2,(.c .nilsl))]) .ret) .skip)) (.seq 
(.reg [⟨none, .mks 0 5 [(.int .i64 (.ofNat 0)),(.int .i64 (.ofNat 0)),(.str []),(.str []),(.int .i64 (.ofNat 0))] []⟩,⟨none, .app 5 (.l 0) (.t q2_0)⟩] [(q2_2,(.l 0))]) .ret))), [(q2_2, none)]⟩
def a259 : FN := ⟨full 4, [some q4_1,some q4_2,some q4_0,some q4_4], (.seq 
(.reg [⟨none, .box (.c (.agg [.nilsl,.nilsl,(.int .i64 (.ofNat 0)),(.int .i64 (.ofNat 0)),(.int .u32 (.ofNat 0)),(.int .u32 (.ofNat 0)),(.int .u32 (.ofNat 0)),(.int .u32 (.ofNat 0)),.nilsl,.nilsl]))⟩] [(q4_3,(.l 0)),(q4_15,(.c (.bool false)))]) (.seq (.seq 
(.reg [⟨none, .call (.c (.fn 114 [])) [(.t q4_0)]⟩,⟨none, .not (.l 0)⟩,⟨(some ((.l 0),false)), .mov (.t q4_1)⟩,⟨(some ((.l 1),false)), .bin .lt (.l 0) k1⟩,⟨none, .pick (.l 2) (.c (.bool true)) (.l 0)⟩,⟨(some ((.l 0),false)), .mov (.t q4_1)⟩,⟨(some ((.l 1),false)), .bin .gt (.l 0) (.c (.int .i64 (.ofNat 1073741824)))⟩,⟨none, .pick (.l 2) (.c (.bool true)) (.l 0)⟩,⟨(some ((.l 0),false)), .mov (.t q4_2)⟩,⟨(some ((.l 1),false)), .call (.c (.fn 302 [])) [(.l 0)]⟩,⟨(some ((.l 2),false)), .not (.l 0)⟩,⟨none, .pick (.l 3) (.c (.bool true)) (.l 0)⟩] [(q4_12,(.l 0))]) (.cond (.t q4_12) (.seq 
(.reg [⟨none, .build [.nilsl,.nilsl,(.int .i64 (.ofNat 0)),(.int .i64 (.ofNat 0)),(.int .u32 (.ofNat 0)),(.int .u32 (.ofNat 0)),(.int .u32 (.ofNat 0)),(.int .u32 (.ofNat 0)),.nilsl,.nilsl] []⟩,⟨none, .store 10 (.t q4_3) (.l 0)⟩] [(q4_15,(.c (.bool false)))]) .ret) .skip)) (.seq 
(.reg [⟨none, .call (.c (.fn 305 [])) [(.t q4_4)]⟩,⟨none, .build [.nilsl,.nilsl,(.int .i64 (.ofNat 0)),(.int .i64 (.ofNat 0)),(.int .u32 (.ofNat 0)),(.int .u32 (.ofNat 0)),(.int .u32 (.ofNat 0)),(.int .u32 (.ofNat 0)),.nilsl,.nilsl,(.int .i64 (.ofNat 0)),.nilsl,.nilsl,.nilsl] [(10,1,(.t q4_1)),(12,1,(.l 0))]⟩,⟨none, .box (.l 0)⟩] [(q4_5,(.l 0))]) (.seq 
(.reg [⟨none, .call (.c (.fn 307 [])) [(.t q4_2)]⟩,⟨none, .mn (.l 0) (.c (.int .i64 (.ofNat 331)))⟩,⟨none, .call (.c (.fn 306 [])) [(.t q4_2),(.l 0)]⟩,⟨none, .ext (.l 0) 0⟩,⟨none, .ext (.l 1) 1⟩,⟨none, .nilc (.t q4_5)⟩,⟨none, .fa 11 (.l 0)⟩,⟨none, .store 1 (.l 0) (.l 3)⟩] []) (.seq 
(.reg [] [(q4_9,(.c .nilsl))]) (.seq (.seq 
(.reg [⟨none, .len (.t q4_0)⟩] [(q4_6,k0),(q4_7,(.l 0)),(q4_8,(.t q4_0))]) (.block 0 (.loop (.seq 
(.reg [⟨none, .bin .lt (.t q4_6) (.t q4_7)⟩] [(q4_13,(.l 0))]) (.seq (.cond (.t q4_13) .skip (.exit 0)) (.seq (.block 1 (.seq 
(.reg [⟨none, .ia 5 (.t q4_8) (.t q4_6)⟩,⟨none, .load 5 true (.l 0)⟩,⟨none, .box (.c (.agg [(.int .i64 (.ofNat 0)),(.int .i64 (.ofNat 0)),(.int .i64 (.ofNat 0)),(.int .i64 (.ofNat 0)),.nilsl]))⟩,⟨none, .store 5 (.l 0) (.l 1)⟩] [(q4_10,(.l 1))]) 
(.reg [⟨none, .load 5 true (.t q4_10)⟩,⟨none, .call (.c (.fn 308 [])) [(.t q4_5),(.l 0)]⟩,⟨none, .mks 1 6 [(.int .i64 (.ofNat 0)),(.int .i64 (.ofNat 0)),(.int .u32 (.ofNat 0)),(.int .u32 (.ofNat 0)),(.int .u32 (.ofNat 0)),(.int .u32 (.ofNat 0))] [(0,6,(.l 0))]⟩,⟨none, .app 6 (.t q4_9) (.l 0)⟩] [(q4_9,(.l 0))]))) 
(.reg [⟨none, .bin .add (.t q4_6) k1⟩] [(q4_6,(.l 0))]))))))) (.seq 
(.reg [⟨none, .call (.c (.fn 237 [])) [(.t q4_0),(.t q4_9)]⟩,⟨none, .call (.c (.fn 309 [])) [(.t q4_5),k4,(.l 0)]⟩,⟨none, .nilc (.t q4_5)⟩,⟨none, .fa 0 (.l 0)⟩,⟨none, .fa 2 (.l 0)⟩,⟨none, .store 6 (.l 0) (.l 3)⟩] []) (.seq 
(.reg [⟨none, .nilc (.t q4_5)⟩,⟨none, .fa 0 (.l 0)⟩,⟨none, .fa 0 (.l 0)⟩,⟨none, .load 1 false (.l 0)⟩,⟨none, .len (.l 0)⟩] [(q4_11,(.l 0))]) (.seq (.seq 
(.reg [⟨none, .bin .add (.t q4_11) k2⟩,⟨none, .nilc (.t q4_5)⟩,⟨none, .fa 11 (.l 0)⟩,⟨none, .load 1 false (.l 0)⟩,⟨none, .len (.l 0)⟩,⟨none, .bin .gt (.l 4) (.l 0)⟩] [(q4_14,(.l 0))]) (.cond (.t q4_14) (.seq 
(.reg [⟨none, .build [.nilsl,.nilsl,(.int .i64 (.ofNat 0)),(.int .i64 (.ofNat 0)),(.int .u32 (.ofNat 0)),(.int .u32 (.ofNat 0)),(.int .u32 (.ofNat 0)),(.int .u32 (.ofNat 0)),.nilsl,.nilsl] []⟩,⟨none, .store 10 (.t q4_3) (.l 0)⟩] [(q4_15,(.c (.bool false)))]) .ret) .skip)) (.seq 
(.reg [⟨none, .nilc (.t q4_5)⟩,⟨none, .fa 11 (.l 0)⟩,⟨none, .load 1 false (.l 0)⟩,⟨none, .slc 1 (.l 0) (some (.t q4_11)) none none⟩,⟨none, .slc 1 (.l 0) none (some k2) none⟩,⟨none, .call (.c (.fn 297 [])) [(.l 0)]⟩,⟨none, .nilc (.t q4_5)⟩,⟨none, .fa 0 (.l 0)⟩,⟨none, .fa 9 (.l 0)⟩,⟨none, .store 1 (.l 0) (.l 3)⟩] []) (.seq 
(.drw [(⟨none, .nilc (.t q4_5)⟩,[]),(⟨none, .fa 13 (.l 0)⟩,[]),(⟨none, .load 1 false (.l 0)⟩,[]),(⟨none, .nilc (.t q4_5)⟩,[]),(⟨none, .fa 0 (.l 0)⟩,[]),(⟨none, .fa 9 (.l 0)⟩,[]),(⟨none, .load 1 false (.l 0)⟩,[]),(⟨none, .app 1 (.l 4) (.l 0)⟩,[]),(⟨none, .call (.c (.fn 250 [])) [(.l 0)]⟩,[]),(⟨none, .nilc (.t q4_5)⟩,[]),(⟨none, .fa 0 (.l 0)⟩,[]),(⟨none, .fa 8 (.l 0)⟩,[]),(⟨none, .store 1 (.l 0) (.l 3)⟩,[])] []) (.seq 
(.reg [⟨none, .nilc (.t q4_5)⟩,⟨none, .fa 0 (.l 0)⟩,⟨none, .load 10 true (.l 0)⟩,⟨none, .store 10 (.t q4_3) (.l 0)⟩] [(q4_15,(.c (.bool true)))]) .ret)))))))))))), [(q4_3, some (10,true)),(q4_15, none)]⟩
def a260 : FN := ⟨full 4, [some q4_2,some q4_0], (.seq 
(.reg [⟨none, .box (.t q4_0)⟩] [(q4_1,(.l 0)),(q4_10,(.c .nilsl))]) (.seq 
(.reg [⟨none, .load 4 true (.t q4_1)⟩,⟨none, .build [.nilsl,.nilsl,.nilsl,.nilsl] [(0,4,(.l 0))]⟩,⟨none, .build [.nilsl,.nilsl,.nilsl,.nilsl,(.int .i64 (.ofNat 0))] [(0,4,(.l 0)),(4,1,(.t q4_2))]⟩,⟨none, .box (.c (.agg [.nilsl,.nilsl,.nilsl,.nilsl,(.int .i64 (.ofNat 0))]))⟩,⟨none, .store 5 (.l 0) (.l 1)⟩] [(q4_3,(.l 1))]) (.seq (.seq 
(.reg [⟨none, .load 5 true (.t q4_3)⟩,⟨none, .call (.c (.fn 301 [])) [(.l 0)]⟩,⟨none, .not (.l 0)⟩] [(q4_8,(.l 0))]) (.cond (.t q4_8) (.seq 
(.reg [] [(q4_10,(.c .nilsl))]) .ret) .skip)) (.seq 
(.reg [⟨none, .load 5 true (.t q4_3)⟩,⟨none, .call (.c (.fn 310 [])) [(.l 0)]⟩] [(q4_6,(.l 0))]) (.seq (.seq 
(.reg [⟨none, .fa 0 (.t q4_3)⟩,⟨none, .load 4 true (.l 0)⟩,⟨none, .call (.c (.fn 311 [])) [(.l 0)]⟩] [(q4_4,k0),(q4_5,(.l 0))]) (.block 0 (.loop (.seq 
(.reg [⟨none, .bin .lt (.t q4_4) k4⟩] [(q4_9,(.l 0))]) (.seq (.cond (.t q4_9) .skip (.exit 0)) (.seq (.block 1 (.seq 
(.reg [⟨none, .idxa 4 1 false (.t q4_5) (.t q4_4)⟩] [(q4_7,(.l 0))]) 
(.reg [⟨none, .call (.c (.fn 195 [])) [(.t q4_6),(.t q4_7)]⟩] [(q4_6,(.l 0))]))) 
(.reg [⟨none, .bin .add (.t q4_4) k1⟩] [(q4_4,(.l 0))]))))))) (.seq 
(.reg [] [(q4_10,(.t q4_6))]) .ret)))))), [(q4_10, none)]⟩
def a261 : FN := ⟨full 1, [some q1_0], (.seq 
(.reg [] [(q1_1,k0)]) (.seq 
(.reg [⟨none, .nilc (.t q1_0)⟩,⟨none, .fa 0 (.l 0)⟩,⟨none, .fa 0 (.l 0)⟩,⟨none, .fa 0 (.l 0)⟩,⟨none, .load 1 false (.l 0)⟩,⟨none, .len (.l 0)⟩,⟨none, .bin .sub (.l 0) (.c (.int .i64 (.ofNat 28)))⟩] [(q1_1,(.l 0))]) .ret)), [(q1_1, none)]⟩
def a262 : FN := ⟨full 3, [some q3_0,some q3_2], (.seq 
(.reg [⟨none, .box (.t q3_0)⟩,⟨none, .box (.c (.agg [.nilsl,.nilsl,.nilsl,.nilsl]))⟩] [(q3_1,(.l 1)),(q3_4,(.l 0))]) (.seq 
(.reg [⟨none, .fa 0 (.t q3_1)⟩,⟨none, .load 1 false (.l 0)⟩,⟨none, .call (.c (.fn 195 [])) [(.l 0),(.t q3_2)]⟩] [(q3_3,(.l 0))]) (.seq 
(.drw [(⟨none, .call (.c (.fn 312 [])) [(.t q3_2)]⟩,[]),(⟨none, .fa 1 (.t q3_1)⟩,[0]),(⟨none, .load 1 false (.l 0)⟩,[0]),(⟨none, .call (.c (.fn 195 [])) [(.l 0),(.t q3_2)]⟩,[]),(⟨none, .call (.c (.fn 195 [])) [(.l 0),(.t q3_3)]⟩,[]),(⟨none, .fa 3 (.t q3_1)⟩,[4, 3, 0]),(⟨none, .load 1 false (.l 0)⟩,[4, 3, 0]),(⟨none, .call (.c (.fn 312 [])) [(.l 0)]⟩,[]),(⟨none, .build [.nilsl,.nilsl,.nilsl,.nilsl] [(0,1,(.l 7)),(1,1,(.t q3_3)),(2,1,(.l 3)),(3,1,(.l 0))]⟩,[]),(⟨none, .store 4 (.t q3_4) (.l 0)⟩,[])] []) .ret))), [(q3_4, some (4,true))]⟩
def a264 : FN := ⟨full 4, [some q4_0,some q4_3], (.seq 
(.reg [⟨none, .box (.t q4_0)⟩,⟨none, .box (.c (.agg [.nilsl,.nilsl,(.int .i64 (.ofNat 0)),(.int .i64 (.ofNat 0)),(.bool false)]))⟩] [(q4_1,(.l 1)),(q4_2,(.l 0)),(q4_13,(.c (.bool false)))]) (.seq 
(.reg [⟨none, .load 5 true (.t q4_1)⟩,⟨none, .call (.c (.fn 313 [])) [(.l 0)]⟩,⟨none, .store 5 (.t q4_1) (.l 0)⟩] []) (.seq (.seq 
(.reg [⟨none, .fa 4 (.t q4_1)⟩,⟨none, .load 1 false (.l 0)⟩] [(q4_8,(.l 0))]) (.cond (.t q4_8) (.seq 
(.reg [⟨none, .load 5 true (.t q4_1)⟩,⟨none, .store 5 (.t q4_2) (.l 0)⟩] [(q4_13,(.c (.bool false)))]) .ret) .skip)) (.seq (.seq 
(.reg [⟨none, .len (.t q4_3)⟩] [(q4_4,k0),(q4_5,(.l 0)),(q4_6,(.t q4_3))]) (.block 0 (.loop (.seq 
(.reg [⟨none, .bin .lt (.t q4_4) (.t q4_5)⟩] [(q4_9,(.l 0))]) (.seq (.cond (.t q4_9) .skip (.exit 0)) (.seq (.block 1 (.seq 
(.reg [⟨none, .ia 2 (.t q4_6) (.t q4_4)⟩,⟨none, .load 2 true (.l 0)⟩,⟨none, .box (.c (.agg [(.int .i64 (.ofNat 0)),(.str [])]))⟩,⟨none, .store 2 (.l 0) (.l 1)⟩] [(q4_7,(.l 1))]) (.seq (.seq 
(.reg [⟨none, .load 5 true (.t q4_1)⟩,⟨none, .fa 0 (.t q4_7)⟩,⟨none, .load 1 false (.l 0)⟩,⟨none, .call (.c (.fn 103 [])) [(.l 2),(.l 0)]⟩,⟨none, .not (.l 0)⟩,⟨(some ((.l 0),false)), .fa 1 (.t q4_7)⟩,⟨(some ((.l 1),false)), .load 1 false (.l 0)⟩,⟨(some ((.l 2),false)), .lens (.l 0)⟩,⟨(some ((.l 3),false)), .bin .ne (.l 0) (.c (.int .i64 (.ofNat 256)))⟩,⟨none, .pick (.l 4) (.c (.bool true)) (.l 0)⟩] [(q4_10,(.l 0))]) (.cond (.t q4_10) (.seq 
(.reg [⟨none, .load 5 true (.t q4_1)⟩,⟨none, .store 5 (.t q4_2) (.l 0)⟩] [(q4_13,(.c (.bool false)))]) .ret) .skip)) (.seq 
(.reg [⟨none, .fa 1 (.t q4_1)⟩,⟨none, .load 1 false (.l 0)⟩,⟨none, .load 2 true (.t q4_7)⟩,⟨none, .mks 1 2 [(.int .i64 (.ofNat 0)),(.str [])] [(0,2,(.l 0))]⟩,⟨none, .app 2 (.l 2) (.l 0)⟩,⟨none, .fa 1 (.t q4_1)⟩,⟨none, .store 1 (.l 0) (.l 1)⟩] []) (.seq (.seq 
(.reg [⟨none, .fa 3 (.t q4_1)⟩,⟨none, .load 1 false (.l 0)⟩,⟨none, .bin .le (.l 0) k0⟩] [(q4_11,(.l 0))]) (.cond (.t q4_11) (.exit 1) .skip)) (.seq 
(.reg [⟨none, .fa 3 (.t q4_1)⟩,⟨none, .load 1 false (.l 0)⟩,⟨none, .bin .sub (.l 0) k1⟩,⟨none, .fa 3 (.t q4_1)⟩,⟨none, .store 1 (.l 0) (.l 1)⟩] []) (.seq 
(.reg [⟨none, .fa 3 (.t q4_1)⟩,⟨none, .load 1 false (.l 0)⟩,⟨none, .bin .eq (.l 0) k0⟩] [(q4_12,(.l 0))]) (.cond (.t q4_12) (.seq 
(.reg [⟨none, .fa 4 (.t q4_1)⟩,⟨none, .store 1 (.l 0) (.c (.bool true))⟩] []) (.seq 
(.reg [⟨none, .load 5 true (.t q4_1)⟩,⟨none, .store 5 (.t q4_2) (.l 0)⟩] [(q4_13,(.c (.bool false)))]) .ret)) .skip)))))))) 
(.reg [⟨none, .bin .add (.t q4_4) k1⟩] [(q4_4,(.l 0))]))))))) (.seq 
(.reg [⟨none, .load 5 true (.t q4_1)⟩,⟨none, .store 5 (.t q4_2) (.l 0)⟩] [(q4_13,(.c (.bool true)))]) .ret))))), [(q4_2, some (5,true)),(q4_13, none)]⟩
def a265 : FN := ⟨full 3, [some q3_0], (.seq 
(.reg [⟨none, .box (.t q3_0)⟩,⟨none, .box (.c (.agg [.nilsl,.nilsl,(.int .i64 (.ofNat 0)),(.int .i64 (.ofNat 0)),(.bool false)]))⟩] [(q3_1,(.l 1)),(q3_2,(.l 0)),(q3_5,(.c (.bool false)))]) (.seq 
(.reg [⟨none, .load 5 true (.t q3_1)⟩,⟨none, .call (.c (.fn 313 [])) [(.l 0)]⟩,⟨none, .store 5 (.t q3_1) (.l 0)⟩] []) (.seq (.block 0 (.seq 
(.reg [⟨none, .fa 4 (.t q3_1)⟩,⟨none, .load 1 false (.l 0)⟩] [(q3_3,(.l 0))]) (.cond (.t q3_3) (.seq 
(.reg [⟨none, .load 5 true (.t q3_1)⟩,⟨none, .store 5 (.t q3_2) (.l 0)⟩] [(q3_5,(.c (.bool false)))]) .ret) (.seq 
(.reg [⟨none, .fa 2 (.t q3_1)⟩,⟨none, .load 1 false (.l 0)⟩,⟨none, .bin .gt (.l 0) k0⟩] [(q3_4,(.l 0))]) (.cond (.t q3_4) (.seq 
(.reg [⟨none, .fa 2 (.t q3_1)⟩,⟨none, .load 1 false (.l 0)⟩,⟨none, .bin .sub (.l 0) k1⟩,⟨none, .fa 2 (.t q3_1)⟩,⟨none, .store 1 (.l 0) (.l 1)⟩] []) (.seq 
(.reg [⟨none, .load 5 true (.t q3_1)⟩,⟨none, .store 5 (.t q3_2) (.l 0)⟩] [(q3_5,(.c (.bool true)))]) .ret)) .skip))))) (.seq 
(.reg [⟨none, .call (.c (.fn 314 [])) [(.t q3_1),(.c (.fn 315 []))]⟩] []) (.seq 
(.reg [⟨none, .load 5 true (.t q3_1)⟩,⟨none, .store 5 (.t q3_2) (.l 0)⟩] [(q3_5,(.c (.bool true)))]) .ret))))), [(q3_2, some (5,true)),(q3_5, none)]⟩
def a266 : FN := ⟨full 2, [some q2_2,some q2_0], (.seq 
(.reg [⟨none, .box (.t q2_0)⟩,⟨none, .box (.c (.agg [(.int .i64 (.ofNat 0)),(.int .i64 (.ofNat 0)),(.int .u32 (.ofNat 0)),(.int .u32 (.ofNat 0)),(.int .u32 (.ofNat 0)),(.int .u32 (.ofNat 0))]))⟩] [(q2_1,(.l 1)),(q2_3,(.l 0))]) (.seq 
(.drw [(⟨none, .load 3 true (.t q2_1)⟩,[]),(⟨none, .call (.c (.fn 267 [])) [(.l 0)]⟩,[]),(⟨none, .fa 1 (.t q2_1)⟩,[1]),(⟨none, .load 1 false (.l 0)⟩,[1]),(⟨none, .call (.c (.fn 316 [])) [(.t q2_2),(.l 2),(.l 0)]⟩,[]),(⟨none, .store 6 (.t q2_3) (.l 0)⟩,[])] []) .ret)), [(q2_3, some (6,true))]⟩
def a267 : FN := ⟨full 2, [some q2_0], (.seq 
(.reg [⟨none, .box (.t q2_0)⟩] [(q2_1,(.l 0)),(q2_2,(.c (.str [])))]) (.seq 
(.reg [⟨none, .load 3 true (.t q2_1)⟩,⟨none, .build [(.int .i64 (.ofNat 0)),(.int .i64 (.ofNat 0)),(.str [])] [(0,3,(.l 0))]⟩,⟨none, .call (.c (.fn 295 [])) [(.l 0)]⟩] [(q2_2,(.l 0))]) .ret)), [(q2_2, none)]⟩
def a268 : FN := ⟨full 4, [some q4_1,some q4_0,some q4_3], (.seq 
(.reg [⟨none, .box (.t q4_0)⟩] [(q4_2,(.l 0)),(q4_8,(.c .nilsl))]) (.seq (.seq 
(.reg [⟨none, .call (.c (.fn 168 [])) [(.t q4_1)]⟩,⟨none, .not (.l 0)⟩,⟨(some ((.l 0),false)), .load 9 true (.t q4_2)⟩,⟨(some ((.l 1),false)), .call (.c (.fn 317 [])) [(.l 0)]⟩,⟨(some ((.l 2),false)), .not (.l 0)⟩,⟨none, .pick (.l 3) (.c (.bool true)) (.l 0)⟩,⟨(some ((.l 0),false)), .mov (.t q4_3)⟩,⟨(some ((.l 1),false)), .bin .lt (.l 0) k0⟩,⟨none, .pick (.l 2) (.c (.bool true)) (.l 0)⟩,⟨(some ((.l 0),false)), .mov (.t q4_3)⟩,⟨(some ((.l 1),false)), .bin .ge (.l 0) k2⟩,⟨none, .pick (.l 2) (.c (.bool true)) (.l 0)⟩] [(q4_6,(.l 0))]) (.cond (.t q4_6) (.seq 
(.reg [] [(q4_8,(.c .nilsl))]) .ret) .skip)) (.seq 
(.reg [] [(q4_5,(.c .nilsl))]) (.seq (.seq 
(.reg [] [(q4_4,(.t q4_3))]) (.block 0 (.loop (.seq (.seq 
(.reg [⟨none, .bin .lt (.t q4_4) k4⟩] [(q4_7,(.l 0))]) (.cond (.t q4_7) .skip (.exit 0))) (.seq (.block 1 
(.drw [(⟨none, .fa 2 (.t q4_2)⟩,[]),(⟨none, .load 1 false (.l 0)⟩,[]),(⟨none, .call (.c (.fn 45 [])) [(.t q4_1),(.t q4_4),(.l 0)]⟩,[]),(⟨none, .load 9 true (.t q4_2)⟩,[2]),(⟨none, .call (.c (.fn 318 [])) [(.l 0)]⟩,[]),(⟨none, .build [(.int .i64 (.ofNat 0)),(.str [])] [(0,1,(.l 2)),(1,1,(.l 0))]⟩,[]),(⟨none, .mks 1 2 [(.int .i64 (.ofNat 0)),(.str [])] [(0,2,(.l 0))]⟩,[]),(⟨none, .app 2 (.t q4_5) (.l 0)⟩,[])] [(q4_5,(.l 0))])) 
(.reg [⟨none, .bin .add (.t q4_4) k2⟩] [(q4_4,(.l 0))])))))) (.seq 
(.reg [] [(q4_8,(.t q4_5))]) .ret))))), [(q4_8, none)]⟩
def a269 : FN := ⟨full 4, [some q4_0], (.seq 
(.reg [⟨none, .box (.c (.agg [(.int .i64 (.ofNat 0)),(.int .i64 (.ofNat 0)),(.str [])]))⟩] [(q4_4,(.l 0)),(q4_8,(.c (.bool false)))]) (.seq 
(.reg [⟨none, .call (.c (.fn 202 [])) [(.c (.str [49,52,50])),(.t q4_0)]⟩,⟨none, .ext (.l 0) 0⟩,⟨none, .ext (.l 1) 1⟩,⟨none, .ext (.l 2) 2⟩] [(q4_1,(.l 0)),(q4_2,(.l 2)),(q4_3,(.l 1))]) (.seq (.seq 
(.reg [⟨none, .not (.t q4_1)⟩,⟨(some ((.l 0),false)), .mov (.t q4_2)⟩,⟨(some ((.l 1),false)), .ia 1 (.l 0) k2⟩,⟨(some ((.l 2),false)), .load 1 false (.l 0)⟩,⟨(some ((.l 3),false)), .mov (.t q4_3)⟩,⟨(some ((.l 4),false)), .lens (.l 0)⟩,⟨(some ((.l 5),false)), .bin .gt (.l 2) (.l 0)⟩,⟨none, .pick (.l 6) (.c (.bool true)) (.l 0)⟩] [(q4_6,(.l 0))]) (.cond (.t q4_6) (.seq 
(.reg [⟨none, .build [(.int .i64 (.ofNat 0)),(.int .i64 (.ofNat 0)),(.str [])] []⟩,⟨none, .store 3 (.t q4_4) (.l 0)⟩] [(q4_8,(.c (.bool false)))]) .ret) .skip)) (.seq 
(.drw [(⟨none, .ia 1 (.t q4_2) k0⟩,[]),(⟨none, .load 1 false (.l 0)⟩,[]),(⟨none, .ia 1 (.t q4_2) k1⟩,[]),(⟨none, .load 1 false (.l 0)⟩,[]),(⟨none, .ia 1 (.t q4_2) k2⟩,[]),(⟨none, .load 1 false (.l 0)⟩,[]),(⟨none, .slc 0 (.t q4_3) none (some (.l 0)) none⟩,[]),(⟨none, .build [(.int .i64 (.ofNat 0)),(.int .i64 (.ofNat 0)),(.str [])] [(0,1,(.l 5)),(1,1,(.l 3)),(2,1,(.l 0))]⟩,[]),(⟨none, .box (.c (.agg [(.int .i64 (.ofNat 0)),(.int .i64 (.ofNat 0)),(.str [])]))⟩,[]),(⟨none, .store 3 (.l 0) (.l 1)⟩,[])] [(q4_5,(.l 1))]) (.seq (.seq 
(.reg [⟨none, .lens (.t q4_0)⟩,⟨none, .bin .ne (.l 0) (.c (.int .i64 (.ofNat 256)))⟩,⟨(some ((.l 0),false)), .load 3 true (.t q4_5)⟩,⟨(some ((.l 1),false)), .call (.c (.fn 76 [])) [(.l 0)]⟩,⟨(some ((.l 2),false)), .mov (.t q4_0)⟩,⟨(some ((.l 3),false)), .bin .ne (.l 1) (.l 0)⟩,⟨none, .pick (.l 4) (.c (.bool true)) (.l 0)⟩] [(q4_7,(.l 0))]) (.cond (.t q4_7) (.seq 
(.reg [⟨none, .build [(.int .i64 (.ofNat 0)),(.int .i64 (.ofNat 0)),(.str [])] []⟩,⟨none, .store 3 (.t q4_4) (.l 0)⟩] [(q4_8,(.c (.bool false)))]) .ret) .skip)) (.seq 
(.reg [⟨none, .load 3 true (.t q4_5)⟩,⟨none, .store 3 (.t q4_4) (.l 0)⟩] [(q4_8,(.c (.bool true)))]) .ret)))))), [(q4_4, some (3,true)),(q4_8, none)]⟩
def a272 : FN := ⟨full 3, [some q3_1], (.seq 
(.reg [] [(q3_4,(.c (.bool false)))]) (.seq (.seq 
(.reg [] [(q3_0,k0)]) (.block 0 (.loop (.seq (.seq 
(.reg [⟨none, .len (.t q3_1)⟩,⟨none, .bin .lt (.t q3_0) (.l 0)⟩] [(q3_2,(.l 0))]) (.cond (.t q3_2) .skip (.exit 0))) (.seq (.block 1 (.seq 
(.reg [⟨none, .ia 5 (.t q3_1) (.t q3_0)⟩,⟨none, .fa 4 (.l 0)⟩,⟨none, .load 1 false (.l 0)⟩,⟨none, .bin .ne (.l 0) k0⟩] [(q3_3,(.l 0))]) (.cond (.t q3_3) (.seq 
(.reg [] [(q3_4,(.c (.bool true)))]) .ret) .skip))) 
(.reg [⟨none, .bin .add (.t q3_0) k1⟩] [(q3_0,(.l 0))])))))) (.seq 
(.reg [] [(q3_4,(.c (.bool false)))]) .ret))), [(q3_4, none)]⟩
def a273 : FN := ⟨full 3, [some q3_1,some q3_4], (.seq 
(.reg [] [(q3_7,(.c .nilsl))]) (.seq 
(.reg [] [(q3_2,(.c .nilsl))]) (.seq (.seq 
(.reg [] [(q3_0,k0)]) (.block 0 (.loop (.seq (.seq 
(.reg [⟨none, .len (.t q3_1)⟩,⟨none, .bin .lt (.t q3_0) (.l 0)⟩] [(q3_5,(.l 0))]) (.cond (.t q3_5) .skip (.exit 0))) (.seq (.block 1 
(.drw [(⟨none, .ia 2 (.t q3_1) (.t q3_0)⟩,[]),(⟨none, .fa 0 (.l 0)⟩,[]),(⟨none, .load 1 false (.l 0)⟩,[]),(⟨none, .call (.c (.fn 319 [])) [(.t q3_2),(.l 0)]⟩,[]),(⟨none, .ia 2 (.t q3_1) (.t q3_0)⟩,[3]),(⟨none, .fa 1 (.l 0)⟩,[3]),(⟨none, .load 1 false (.l 0)⟩,[3]),(⟨none, .call (.c (.fn 319 [])) [(.l 3),(.l 0)]⟩,[])] [(q3_2,(.l 0))])) 
(.reg [⟨none, .bin .add (.t q3_0) k1⟩] [(q3_0,(.l 0))])))))) (.seq (.seq 
(.reg [] [(q3_3,k0)]) (.block 2 (.loop (.seq (.seq 
(.reg [⟨none, .len (.t q3_4)⟩,⟨none, .bin .lt (.t q3_3) (.l 0)⟩] [(q3_6,(.l 0))]) (.cond (.t q3_6) .skip (.exit 2))) (.seq (.block 3 
(.drw [(⟨none, .ia 2 (.t q3_4) (.t q3_3)⟩,[]),(⟨none, .fa 0 (.l 0)⟩,[]),(⟨none, .load 1 false (.l 0)⟩,[]),(⟨none, .call (.c (.fn 319 [])) [(.t q3_2),(.l 0)]⟩,[]),(⟨none, .ia 2 (.t q3_4) (.t q3_3)⟩,[3]),(⟨none, .fa 1 (.l 0)⟩,[3]),(⟨none, .load 1 false (.l 0)⟩,[3]),(⟨none, .call (.c (.fn 319 [])) [(.l 3),(.l 0)]⟩,[])] [(q3_2,(.l 0))])) 
(.reg [⟨none, .bin .add (.t q3_3) k1⟩] [(q3_3,(.l 0))])))))) (.seq 
(.reg [] [(q3_7,(.t q3_2))]) .ret))))), [(q3_7, none)]⟩
def a274 : FN := ⟨full 5, [some q5_0,some q5_2], (.seq 
(.reg [] [(q5_20,(.c (.str [])))]) (.seq (.seq 
(.reg [⟨none, .len (.t q5_0)⟩] [(q5_1,(.l 0))]) (.block 0 (.seq 
(.reg [⟨none, .bin .eq (.t q5_1) k0⟩] [(q5_13,(.l 0))]) (.cond (.t q5_13) (.seq 
(.reg [] [(q5_20,(.c (.str [])))]) .ret) (.seq 
(.reg [⟨none, .bin .eq (.t q5_1) k1⟩] [(q5_14,(.l 0))]) (.cond (.t q5_14) (.seq 
(.reg [⟨none, .ia 1 (.t q5_0) k0⟩,⟨none, .load 1 false (.l 0)⟩] [(q5_20,(.l 0))]) .ret) .skip)))))) (.seq 
(.reg [] [(q5_3,k0)]) (.seq (.seq 
(.reg [⟨none, .lens (.t q5_2)⟩,⟨none, .bin .gt (.l 0) k0⟩] [(q5_15,(.l 0))]) (.cond (.t q5_15) (.seq (.seq 
(.reg [⟨none, .lens (.t q5_2)⟩,⟨none, .len (.t q5_0)⟩,⟨none, .bin .sub (.l 0) k1⟩,⟨none, .bin .quo (.c (.int .i64 (.ofNat 9223372036854775807))) (.l 0)⟩,⟨none, .bin .ge (.l 3) (.l 0)⟩] [(q5_16,(.l 0))]) (.cond (.t q5_16) 
(.reg [⟨none, .bad⟩,⟨none, .bad⟩] []) .skip)) 
(.reg [⟨none, .lens (.t q5_2)⟩,⟨none, .len (.t q5_0)⟩,⟨none, .bin .sub (.l 0) k1⟩,⟨none, .bin .mul (.l 2) (.l 0)⟩,⟨none, .bin .add (.t q5_3) (.l 0)⟩] [(q5_3,(.l 0))])) .skip)) (.seq (.seq 
(.reg [⟨none, .len (.t q5_0)⟩] [(q5_4,k0),(q5_5,(.l 0)),(q5_6,(.t q5_0))]) (.block 1 (.loop (.seq 
(.reg [⟨none, .bin .lt (.t q5_4) (.t q5_5)⟩] [(q5_17,(.l 0))]) (.seq (.cond (.t q5_17) .skip (.exit 1)) (.seq (.block 2 (.seq 
(.reg [⟨none, .ia 1 (.t q5_6) (.t q5_4)⟩,⟨none, .load 1 false (.l 0)⟩] [(q5_7,(.l 0))]) (.seq (.seq 
(.reg [⟨none, .lens (.t q5_7)⟩,⟨none, .bin .sub (.c (.int .i64 (.ofNat 9223372036854775807))) (.t q5_3)⟩,⟨none, .bin .gt (.l 1) (.l 0)⟩] [(q5_18,(.l 0))]) (.cond (.t q5_18) 
(.reg [⟨none, .bad⟩,⟨none, .bad⟩] []) .skip)) 
(.reg [⟨none, .lens (.t q5_7)⟩,⟨none, .bin .add (.t q5_3) (.l 0)⟩] [(q5_3,(.l 0))])))) 
(.reg [⟨none, .bin .add (.t q5_4) k1⟩] [(q5_4,(.l 0))]))))))) (.seq 
(.reg [⟨none, .box (.c (.agg [.nilptr,.nilsl]))⟩] [(q5_8,(.l 0))]) (.seq 
(.reg [⟨none, .call (.c (.fn 277 [])) [(.t q5_8),(.t q5_3)]⟩] []) (.seq 
(.reg [⟨none, .ia 1 (.t q5_0) k0⟩,⟨none, .load 1 false (.l 0)⟩,⟨none, .call (.c (.fn 278 [])) [(.t q5_8),(.l 0)]⟩] []) (.seq (.seq 
(.reg [⟨none, .slc 1 (.t q5_0) (some k1) none none⟩,⟨none, .len (.l 0)⟩] [(q5_9,k0),(q5_10,(.l 0)),(q5_11,(.l 1))]) (.block 3 (.loop (.seq 
(.reg [⟨none, .bin .lt (.t q5_9) (.t q5_10)⟩] [(q5_19,(.l 0))]) (.seq (.cond (.t q5_19) .skip (.exit 3)) (.seq (.block 4 (.seq 
(.reg [⟨none, .ia 1 (.t q5_11) (.t q5_9)⟩,⟨none, .load 1 false (.l 0)⟩] [(q5_12,(.l 0))]) (.seq 
(.reg [⟨none, .call (.c (.fn 278 [])) [(.t q5_8),(.t q5_2)]⟩] []) 
(.reg [⟨none, .call (.c (.fn 278 [])) [(.t q5_8),(.t q5_12)]⟩] [])))) 
(.reg [⟨none, .bin .add (.t q5_9) k1⟩] [(q5_9,(.l 0))]))))))) (.seq 
(.reg [⟨none, .call (.c (.fn 280 [])) [(.t q5_8)]⟩] [(q5_20,(.l 0))]) .ret)))))))))), [(q5_20, none)]⟩
def a282 : FN := ⟨full 2, [some q2_0,some q2_1], (.seq 
(.reg [] [(q2_2,(.c (.bool false)))]) (.seq 
(.reg [⟨none, .bin .ge (.t q2_0) k0⟩,⟨(some ((.l 0),true)), .mov (.t q2_0)⟩,⟨(some ((.l 1),true)), .mov (.t q2_1)⟩,⟨(some ((.l 2),true)), .bin .le (.l 1) (.l 0)⟩,⟨none, .pick (.l 3) (.l 0) (.c (.bool false))⟩] [(q2_2,(.l 0))]) .ret)), [(q2_2, none)]⟩
def a283 : FN := ⟨full 2, [some q2_0,some q2_2], (.seq 
(.reg [⟨none, .box (.t q2_0)⟩] [(q2_1,(.l 0)),(q2_3,(.c (.bool false)))]) (.seq 
(.reg [⟨none, .fa 0 (.t q2_1)⟩,⟨none, .fa 0 (.l 0)⟩,⟨none, .load 1 false (.l 0)⟩,⟨none, .bin .gt (.l 0) (.t q2_2)⟩,⟨(some ((.l 0),true)), .fa 0 (.t q2_1)⟩,⟨(some ((.l 1),true)), .fa 0 (.l 0)⟩,⟨(some ((.l 2),true)), .load 1 false (.l 0)⟩,⟨(some ((.l 3),true)), .bin .le (.l 0) (.c (.int .i64 (.ofNat 65535)))⟩,⟨none, .pick (.l 4) (.l 0) (.c (.bool false))⟩,⟨(some ((.l 0),true)), .fa 0 (.t q2_1)⟩,⟨(some ((.l 1),true)), .fa 1 (.l 0)⟩,⟨(some ((.l 2),true)), .load 1 false (.l 0)⟩,⟨(some ((.l 3),true)), .bin .eq (.l 0) k1⟩,⟨(some ((.l 4),true)), .mov (.l 0)⟩,⟨(some ((.l 0),false)), .fa 0 (.t q2_1)⟩,⟨(some ((.l 1),false)), .fa 1 (.l 0)⟩,⟨(some ((.l 2),false)), .load 1 false (.l 0)⟩,⟨(some ((.l 3),false)), .bin .eq (.l 0) k2⟩,⟨(some ((.l 9),true)), .pick (.l 4) (.c (.bool true)) (.l 0)⟩,⟨none, .pick (.l 10) (.l 0) (.c (.bool false))⟩,⟨(some ((.l 0),true)), .fa 0 (.t q2_1)⟩,⟨(some ((.l 1),true)), .fa 2 (.l 0)⟩,⟨(some ((.l 2),true)), .load 1 false (.l 0)⟩,⟨(some ((.l 3),true)), .call (.c (.fn 282 [])) [(.l 0),(.c (.int .i64 (.ofNat 65535)))]⟩,⟨none, .pick (.l 4) (.l 0) (.c (.bool false))⟩,⟨(some ((.l 0),true)), .fa 0 (.t q2_1)⟩,⟨(some ((.l 1),true)), .fa 3 (.l 0)⟩,⟨(some ((.l 2),true)), .load 1 false (.l 0)⟩,⟨(some ((.l 3),true)), .call (.c (.fn 282 [])) [(.l 0),(.c (.int .i64 (.ofNat 255)))]⟩,⟨none, .pick (.l 4) (.l 0) (.c (.bool false))⟩,⟨(some ((.l 0),true)), .fa 5 (.t q2_1)⟩,⟨(some ((.l 1),true)), .load 6 true (.l 0)⟩,⟨(some ((.l 2),true)), .call (.c (.fn 172 [])) [(.l 0)]⟩,⟨none, .pick (.l 3) (.l 0) (.c (.bool false))⟩,⟨(some ((.l 0),true)), .fa 5 (.t q2_1)⟩,⟨(some ((.l 1),true)), .load 6 true (.l 0)⟩,⟨(some ((.l 2),true)), .build [(.int .i64 (.ofNat 0)),(.int .i64 (.ofNat 0)),(.int .u32 (.ofNat 0)),(.int .u32 (.ofNat 0)),(.int .u32 (.ofNat 0)),(.int .u32 (.ofNat 0))] []⟩,⟨(some ((.l 3),true)), .eqa [1, 1, 1, 1, 1, 1] true (.l 1) (.l 0)⟩,⟨none, .pick (.l 4) (.l 0) (.c (.bool false))⟩] [(q2_3,(.l 0))]) .ret)), [(q2_3, none)]⟩
def a284 : FN := ⟨full 2, [some q2_0], (.seq 
(.reg [⟨none, .box (.t q2_0)⟩] [(q2_1,(.l 0)),(q2_2,(.c (.str [])))]) (.seq 
(.drw [(⟨none, .fa 0 (.t q2_1)⟩,[]),(⟨none, .fa 0 (.l 0)⟩,[]),(⟨none, .load 1 false (.l 0)⟩,[]),(⟨none, .fa 0 (.t q2_1)⟩,[]),(⟨none, .fa 1 (.l 0)⟩,[]),(⟨none, .load 1 false (.l 0)⟩,[]),(⟨none, .fa 0 (.t q2_1)⟩,[]),(⟨none, .fa 2 (.l 0)⟩,[]),(⟨none, .load 1 false (.l 0)⟩,[]),(⟨none, .fa 0 (.t q2_1)⟩,[]),(⟨none, .fa 3 (.l 0)⟩,[]),(⟨none, .load 1 false (.l 0)⟩,[]),(⟨none, .mks 4 1 [(.int .i64 (.ofNat 0))] [(0,1,(.l 9)),(1,1,(.l 6)),(2,1,(.l 3)),(3,1,(.l 0))]⟩,[]),(⟨none, .call (.c (.fn 175 [])) [(.c (.str [50,49,50,49])),(.l 0)]⟩,[]),(⟨none, .fa 5 (.t q2_1)⟩,[13]),(⟨none, .load 6 true (.l 0)⟩,[13]),(⟨none, .mks 1 6 [(.int .i64 (.ofNat 0)),(.int .i64 (.ofNat 0)),(.int .u32 (.ofNat 0)),(.int .u32 (.ofNat 0)),(.int .u32 (.ofNat 0)),(.int .u32 (.ofNat 0))] [(0,6,(.l 0))]⟩,[13]),(⟨none, .call (.c (.fn 176 [])) [(.l 0)]⟩,[]),(⟨none, .bin .add (.l 4) (.l 0)⟩,[])] [(q2_2,(.l 0))]) .ret)), [(q2_2, none)]⟩
def a285 : FN := ⟨full 1, [some q1_0], (.seq 
(.reg [] [(q1_1,(.c .nilsl))]) (.seq 
(.reg [⟨none, .len (.t q1_0)⟩,⟨none, .len (.t q1_0)⟩,⟨none, .slc 6 (.t q1_0) none (some (.l 1)) (some (.l 0))⟩] [(q1_1,(.l 0))]) .ret)), [(q1_1, none)]⟩
def a286 : FN := ⟨full 4, [some q4_0], (.seq 
(.reg [⟨none, .box (.c (.agg [(.int .i64 (.ofNat 0)),(.int .i64 (.ofNat 0)),(.str []),(.str []),(.int .i64 (.ofNat 0))]))⟩] [(q4_1,(.c (.bool false))),(q4_4,(.l 0)),(q4_6,(.c .nilsl)),(q4_10,k0)]) (.seq 
(.reg [⟨none, .call (.c (.fn 105 [])) [(.c (.str [49,49,49])),(.t q4_0)]⟩,⟨none, .ext (.l 0) 0⟩,⟨none, .ext (.l 1) 1⟩,⟨none, .ext (.l 2) 2⟩] [(q4_1,(.l 0)),(q4_2,(.l 1)),(q4_3,(.l 2))]) (.seq (.seq 
(.reg [⟨none, .not (.t q4_1)⟩,⟨(some ((.l 0),false)), .mov (.t q4_2)⟩,⟨(some ((.l 1),false)), .lens (.l 0)⟩,⟨(some ((.l 2),false)), .mov (.t q4_3)⟩,⟨(some ((.l 3),false)), .ia 1 (.l 0) k2⟩,⟨(some ((.l 4),false)), .load 1 false (.l 0)⟩,⟨(some ((.l 5),false)), .bin .lt (.l 3) (.l 0)⟩,⟨none, .pick (.l 6) (.c (.bool true)) (.l 0)⟩] [(q4_7,(.l 0))]) (.cond (.t q4_7) (.seq 
(.reg [⟨none, .build [(.int .i64 (.ofNat 0)),(.int .i64 (.ofNat 0)),(.str []),(.str []),(.int .i64 (.ofNat 0))] []⟩,⟨none, .store 5 (.t q4_4) (.l 0)⟩] [(q4_1,(.c (.bool false))),(q4_6,(.c .nilsl)),(q4_10,k0)]) .ret) .skip)) (.seq 
(.drw [(⟨none, .ia 1 (.t q4_3) k0⟩,[]),(⟨none, .load 1 false (.l 0)⟩,[]),(⟨none, .ia 1 (.t q4_3) k1⟩,[]),(⟨none, .load 1 false (.l 0)⟩,[]),(⟨none, .ia 1 (.t q4_3) k2⟩,[]),(⟨none, .load 1 false (.l 0)⟩,[]),(⟨none, .slc 0 (.t q4_2) none (some (.l 0)) none⟩,[]),(⟨none, .build [(.int .i64 (.ofNat 0)),(.int .i64 (.ofNat 0)),(.str []),(.str []),(.int .i64 (.ofNat 0))] [(0,1,(.l 5)),(1,1,(.l 3)),(2,1,(.l 0))]⟩,[]),(⟨none, .store 5 (.t q4_4) (.l 0)⟩,[])] []) (.seq 
(.reg [⟨none, .ia 1 (.t q4_3) k2⟩,⟨none, .load 1 false (.l 0)⟩,⟨none, .slc 0 (.t q4_2) (some (.l 0)) none none⟩,⟨none, .call (.c (.fn 105 [])) [(.c (.str [50])),(.l 0)]⟩,⟨none, .ext (.l 0) 0⟩,⟨none, .ext (.l 1) 1⟩,⟨none, .ext (.l 2) 2⟩] [(q4_1,(.l 0)),(q4_2,(.l 1)),(q4_5,(.l 2))]) (.seq (.seq 
(.reg [⟨none, .not (.t q4_1)⟩] [(q4_8,(.l 0))]) (.cond (.t q4_8) (.seq 
(.reg [⟨none, .build [(.int .i64 (.ofNat 0)),(.int .i64 (.ofNat 0)),(.str []),(.str []),(.int .i64 (.ofNat 0))] []⟩,⟨none, .store 5 (.t q4_4) (.l 0)⟩] [(q4_1,(.c (.bool false))),(q4_6,(.c .nilsl)),(q4_10,k0)]) .ret) .skip)) (.seq 
(.reg [⟨none, .call (.c (.fn 106 [])) [(.t q4_2),k4]⟩,⟨none, .ext (.l 0) 0⟩,⟨none, .ext (.l 1) 1⟩,⟨none, .ext (.l 2) 2⟩] [(q4_1,(.l 0)),(q4_6,(.l 2))]) (.seq (.seq 
(.drw [(⟨none, .not (.t q4_1)⟩,[]),(⟨(some ((.l 0),false)), .load 5 true (.t q4_4)⟩,[]),(⟨(some ((.l 1),false)), .mov (.t q4_5)⟩,[]),(⟨(some ((.l 2),false)), .ia 1 (.l 0) k0⟩,[]),(⟨(some ((.l 3),false)), .load 1 false (.l 0)⟩,[]),(⟨(some ((.l 4),false)), .mov (.t q4_6)⟩,[]),(⟨(some ((.l 5),false)), .call (.c (.fn 325 [])) [(.l 4),(.l 1),(.l 0)]⟩,[]),(⟨(some ((.l 6),false)), .mov (.t q4_0)⟩,[6]),(⟨(some ((.l 7),false)), .bin .ne (.l 1) (.l 0)⟩,[]),(⟨none, .pick (.l 8) (.c (.bool true)) (.l 0)⟩,[])] [(q4_9,(.l 0))]) (.cond (.t q4_9) (.seq 
(.reg [⟨none, .build [(.int .i64 (.ofNat 0)),(.int .i64 (.ofNat 0)),(.str []),(.str []),(.int .i64 (.ofNat 0))] []⟩,⟨none, .store 5 (.t q4_4) (.l 0)⟩] [(q4_1,(.c (.bool false))),(q4_6,(.c .nilsl)),(q4_10,k0)]) .ret) .skip)) (.seq 
(.drw [(⟨none, .load 5 true (.t q4_4)⟩,[]),(⟨none, .store 5 (.t q4_4) (.l 0)⟩,[]),(⟨none, .ia 1 (.t q4_5) k0⟩,[1]),(⟨none, .load 1 false (.l 0)⟩,[1])] [(q4_1,(.c (.bool true))),(q4_6,(.t q4_6)),(q4_10,(.l 0))]) .ret))))))))), [(q4_4, some (5,true)),(q4_10, none),(q4_6, none),(q4_1, none)]⟩
def a287 : FN := ⟨full 2, [some q2_0,some q2_1], (.seq 
(.reg [] [(q2_2,(.c (.bool false)))]) (.seq 
(.reg [⟨none, .call (.c (.fn 326 [])) [(.t q2_0),(.t q2_1)]⟩,⟨none, .bin .ge (.l 0) k0⟩] [(q2_2,(.l 0))]) .ret)), [(q2_2, none)]⟩
def a288 : FN := ⟨full 2, [some q2_0], (.seq 
(.reg [⟨none, .box (.t q2_0)⟩] [(q2_1,(.l 0)),(q2_2,(.c (.bool false)))]) (.seq 
(.reg [⟨none, .load 6 true (.t q2_1)⟩,⟨none, .build [(.int .i64 (.ofNat 0)),(.int .i64 (.ofNat 0)),(.int .u32 (.ofNat 0)),(.int .u32 (.ofNat 0)),(.int .u32 (.ofNat 0)),(.int .u32 (.ofNat 0))] []⟩,⟨none, .eqa [1, 1, 1, 1, 1, 1] true (.l 1) (.l 0)⟩] [(q2_2,(.l 0))]) .ret)), [(q2_2, none)]⟩
def a290 : FN := ⟨full 4, [some q4_4,some q4_6,some q4_0], (.seq 
(.reg [] [(q4_11,k0),(q4_12,(.c (.str [])))]) (.seq (.seq 
(.reg [⟨none, .len (.t q4_0)⟩] [(q4_1,k0),(q4_2,(.l 0)),(q4_3,(.t q4_0))]) (.block 0 (.loop (.seq 
(.reg [⟨none, .bin .lt (.t q4_1) (.t q4_2)⟩] [(q4_13,(.l 0))]) (.seq (.cond (.t q4_13) .skip (.exit 0)) (.seq (.block 1 (.seq 
(.reg [⟨none, .ia 6 (.t q4_3) (.t q4_1)⟩,⟨none, .load 6 true (.l 0)⟩,⟨none, .box (.c (.agg [(.int .i64 (.ofNat 0)),(.int .i64 (.ofNat 0)),(.int .u32 (.ofNat 0)),(.int .u32 (.ofNat 0)),(.int .u32 (.ofNat 0)),(.int .u32 (.ofNat 0))]))⟩,⟨none, .store 6 (.l 0) (.l 1)⟩] [(q4_5,(.l 1)),(q4_7,(.t q4_1))]) (.seq 
(.drw [(⟨none, .nilc (.t q4_4)⟩,[]),(⟨none, .fa 0 (.l 0)⟩,[]),(⟨none, .load 5 true (.l 0)⟩,[]),(⟨none, .load 6 true (.t q4_5)⟩,[]),(⟨none, .call (.c (.fn 115 [])) [(.l 1),(.l 0),k1]⟩,[]),(⟨none, .ext (.l 0) 0⟩,[]),(⟨none, .ext (.l 1) 1⟩,[])] [(q4_8,(.l 0)),(q4_9,(.l 1))]) (.seq 
(.reg [⟨none, .bin .mul (.t q4_7) (.c (.int .i64 (.ofNat 32)))⟩,⟨none, .bin .sub (.t q4_6) (.l 0)⟩,⟨none, .mx (.l 0) k0⟩,⟨none, .mn (.l 0) (.c (.int .i64 (.ofNat 32)))⟩] [(q4_10,(.l 0))]) (.seq (.block 2 (.seq 
(.reg [⟨none, .load 6 true (.t q4_5)⟩,⟨none, .build [(.int .i64 (.ofNat 0)),(.int .i64 (.ofNat 0)),(.int .u32 (.ofNat 0)),(.int .u32 (.ofNat 0)),(.int .u32 (.ofNat 0)),(.int .u32 (.ofNat 0))] []⟩,⟨none, .eqa [1, 1, 1, 1, 1, 1] false (.l 1) (.l 0)⟩] [(q4_14,(.l 0))]) (.cond (.t q4_14) 
(.reg [⟨none, .call (.c (.fn 328 [])) [(.c (.int .i64 (.ofNat 32)))]⟩] [(q4_9,(.l 0))]) (.seq (.seq 
(.reg [⟨none, .not (.t q4_8)⟩] [(q4_15,(.l 0))]) (.cond (.t q4_15) .skip (.seq 
(.reg [⟨none, .lens (.t q4_9)⟩,⟨none, .bin .ne (.l 0) (.c (.int .i64 (.ofNat 32)))⟩] [(q4_15,(.l 0))]) (.cond (.t q4_15) .skip (.seq 
(.reg [⟨none, .call (.c (.fn 328 [])) [(.c (.int .i64 (.ofNat 32)))]⟩,⟨none, .bin .eq (.t q4_9) (.l 0)⟩] [(q4_15,(.l 0))]) (.cond (.t q4_15) .skip 
(.drw [(⟨none, .bin .sub (.c (.int .i64 (.ofNat 32))) (.t q4_10)⟩,[]),(⟨none, .call (.c (.fn 328 [])) [(.l 0)]⟩,[]),(⟨none, .slc 0 (.t q4_9) (some (.t q4_10)) none none⟩,[1]),(⟨none, .bin .ne (.l 0) (.l 1)⟩,[])] [(q4_15,(.l 0))]))))))) (.cond (.t q4_15) 
(.drw [(⟨none, .call (.c (.fn 328 [])) [(.c (.int .i64 (.ofNat 32)))]⟩,[]),(⟨none, .bin .shl k1 (.t q4_7)⟩,[0]),(⟨none, .bin .or (.t q4_11) (.l 0)⟩,[0])] [(q4_9,(.l 2)),(q4_11,(.l 0))]) .skip))))) 
(.reg [⟨none, .bin .add (.t q4_12) (.t q4_9)⟩] [(q4_12,(.l 0))])))))) 
(.reg [⟨none, .bin .add (.t q4_1) k1⟩] [(q4_1,(.l 0))]))))))) (.seq 
(.reg [⟨none, .slc 0 (.t q4_12) none (some (.t q4_6)) none⟩] [(q4_11,(.t q4_11)),(q4_12,(.l 0))]) .ret))), [(q4_12, none),(q4_11, none)]⟩
def a291 : FN := ⟨full 4, [some q4_0], (.seq 
(.reg [⟨none, .box (.t q4_0)⟩,⟨none, .box (.c (.agg [.nilsl]))⟩] [(q4_1,(.l 1)),(q4_8,(.l 0))]) (.seq 
(.reg [⟨none, .fa 0 (.t q4_1)⟩,⟨none, .load 1 false (.l 0)⟩,⟨none, .call (.c (.fn 258 [])) [(.l 0)]⟩,⟨none, .build [.nilsl] [(0,1,(.l 0))]⟩,⟨none, .box (.c (.agg [.nilsl]))⟩,⟨none, .store 1 (.l 0) (.l 1)⟩] [(q4_2,(.l 1))]) (.seq (.seq 
(.reg [⟨none, .fa 0 (.t q4_2)⟩,⟨none, .load 1 false (.l 0)⟩,⟨none, .len (.l 0)⟩] [(q4_3,k0),(q4_4,(.l 0)),(q4_5,(.l 1))]) (.block 0 (.loop (.seq 
(.reg [⟨none, .bin .lt (.t q4_3) (.t q4_4)⟩] [(q4_9,(.l 0))]) (.seq (.cond (.t q4_9) .skip (.exit 0)) (.seq (.block 1 (.seq 
(.reg [⟨none, .ia 5 (.t q4_5) (.t q4_3)⟩,⟨none, .load 5 true (.l 0)⟩,⟨none, .box (.c (.agg [(.int .i64 (.ofNat 0)),(.int .i64 (.ofNat 0)),(.str []),(.str []),(.int .i64 (.ofNat 0))]))⟩,⟨none, .store 5 (.l 0) (.l 1)⟩] [(q4_6,(.l 1)),(q4_7,(.t q4_3))]) (.block 2 (.seq 
(.reg [⟨none, .fa 0 (.t q4_6)⟩,⟨none, .load 1 false (.l 0)⟩,⟨none, .bin .eq (.l 0) k1⟩,⟨(some ((.l 0),true)), .fa 4 (.t q4_6)⟩,⟨(some ((.l 1),true)), .load 1 false (.l 0)⟩,⟨(some ((.l 2),true)), .bin .gt (.l 0) k0⟩,⟨none, .pick (.l 3) (.l 0) (.c (.bool false))⟩,⟨(some ((.l 0),true)), .fa 4 (.t q4_6)⟩,⟨(some ((.l 1),true)), .load 1 false (.l 0)⟩,⟨(some ((.l 2),true)), .bin .le (.l 0) (.c (.int .i64 (.ofNat 15)))⟩,⟨none, .pick (.l 3) (.l 0) (.c (.bool false))⟩] [(q4_10,(.l 0))]) (.cond (.t q4_10) 
(.reg [⟨none, .fa 0 (.t q4_2)⟩,⟨none, .load 1 false (.l 0)⟩,⟨none, .ia 5 (.l 0) (.t q4_7)⟩,⟨none, .fa 4 (.l 0)⟩,⟨none, .store 1 (.l 0) k0⟩] []) (.seq 
(.reg [⟨none, .load 5 true (.t q4_6)⟩,⟨none, .build [(.int .i64 (.ofNat 0)),(.int .i64 (.ofNat 0)),(.str []),(.str []),(.int .i64 (.ofNat 0))] [(0,1,k3)]⟩,⟨none, .eqa [1, 1, 2, 2, 1] false (.l 1) (.l 0)⟩,⟨(some ((.l 0),true)), .mov (.t q4_7)⟩,⟨(some ((.l 1),true)), .bin .gt (.l 0) k0⟩,⟨none, .pick (.l 2) (.l 0) (.c (.bool false))⟩] [(q4_11,(.l 0))]) (.cond (.t q4_11) 
(.drw [(⟨none, .load 1 true (.t q4_2)⟩,[]),(⟨none, .call (.c (.fn 329 [])) [(.l 0)]⟩,[]),(⟨none, .fa 0 (.t q4_2)⟩,[1]),(⟨none, .load 1 false (.l 0)⟩,[1]),(⟨none, .build [(.int .i64 (.ofNat 0)),(.int .i64 (.ofNat 0)),(.str []),(.str []),(.int .i64 (.ofNat 0))] [(0,1,k2),(2,1,(.l 2))]⟩,[]),(⟨none, .ia 5 (.l 1) (.t q4_7)⟩,[]),(⟨none, .store 5 (.l 0) (.l 1)⟩,[])] []) .skip))))))) 
(.reg [⟨none, .bin .add (.t q4_3) k1⟩] [(q4_3,(.l 0))]))))))) (.seq 
(.reg [⟨none, .load 1 true (.t q4_2)⟩,⟨none, .store 1 (.t q4_8) (.l 0)⟩] []) .ret)))), [(q4_8, some (1,true))]⟩
def a292 : FN := ⟨full 5, [some q5_0], (.seq 
(.reg [⟨none, .box (.t q5_0)⟩] [(q5_1,(.l 0)),(q5_16,(.c (.bool false)))]) (.seq (.seq 
(.reg [⟨none, .fa 0 (.t q5_1)⟩,⟨none, .load 1 false (.l 0)⟩,⟨none, .len (.l 0)⟩,⟨none, .bin .ne (.l 0) k8⟩,⟨(some ((.l 0),false)), .fa 0 (.t q5_1)⟩,⟨(some ((.l 1),false)), .load 1 false (.l 0)⟩,⟨(some ((.l 2),false)), .ia 5 (.l 0) k0⟩,⟨(some ((.l 3),false)), .load 5 true (.l 0)⟩,⟨(some ((.l 4),false)), .build [(.int .i64 (.ofNat 0)),(.int .i64 (.ofNat 0)),(.str []),(.str []),(.int .i64 (.ofNat 0))] [(0,1,k2)]⟩,⟨(some ((.l 5),false)), .eqa [1, 1, 2, 2, 1] true (.l 1) (.l 0)⟩,⟨none, .pick (.l 6) (.c (.bool true)) (.l 0)⟩] [(q5_11,(.l 0))]) (.cond (.t q5_11) (.seq 
(.reg [] [(q5_16,(.c (.bool false)))]) .ret) .skip)) (.seq (.seq 
(.reg [⟨none, .fa 0 (.t q5_1)⟩,⟨none, .load 1 false (.l 0)⟩,⟨none, .slc 5 (.l 0) (some k1) none none⟩,⟨none, .len (.l 0)⟩] [(q5_2,k0),(q5_3,(.l 0)),(q5_4,(.l 1))]) (.block 0 (.loop (.seq 
(.reg [⟨none, .bin .lt (.t q5_2) (.t q5_3)⟩] [(q5_12,(.l 0))]) (.seq (.cond (.t q5_12) .skip (.exit 0)) (.seq (.block 1 (.seq 
(.reg [⟨none, .ia 5 (.t q5_4) (.t q5_2)⟩,⟨none, .load 5 true (.l 0)⟩,⟨none, .box (.c (.agg [(.int .i64 (.ofNat 0)),(.int .i64 (.ofNat 0)),(.str []),(.str []),(.int .i64 (.ofNat 0))]))⟩,⟨none, .store 5 (.l 0) (.l 1)⟩] [(q5_5,(.l 1))]) (.seq 
(.reg [⟨none, .load 5 true (.t q5_5)⟩,⟨none, .build [(.int .i64 (.ofNat 0)),(.int .i64 (.ofNat 0)),(.str []),(.str []),(.int .i64 (.ofNat 0))] []⟩,⟨none, .eqa [1, 1, 2, 2, 1] true (.l 1) (.l 0)⟩,⟨(some ((.l 0),true)), .load 1 true (.t q5_1)⟩,⟨(some ((.l 1),true)), .load 5 true (.t q5_5)⟩,⟨(some ((.l 2),true)), .call (.c (.fn 330 [])) [(.l 1),(.l 0)]⟩,⟨(some ((.l 3),true)), .not (.l 0)⟩,⟨none, .pick (.l 4) (.l 0) (.c (.bool false))⟩] [(q5_13,(.l 0))]) (.cond (.t q5_13) (.seq 
(.reg [] [(q5_16,(.c (.bool false)))]) .ret) .skip)))) 
(.reg [⟨none, .bin .add (.t q5_2) k1⟩] [(q5_2,(.l 0))]))))))) (.seq (.seq 
(.reg [⟨none, .fa 0 (.t q5_1)⟩,⟨none, .load 1 false (.l 0)⟩,⟨none, .len (.l 0)⟩] [(q5_6,k0),(q5_7,(.l 0)),(q5_8,(.l 1))]) (.block 2 (.loop (.seq 
(.reg [⟨none, .bin .lt (.t q5_6) (.t q5_7)⟩] [(q5_14,(.l 0))]) (.seq (.cond (.t q5_14) .skip (.exit 2)) (.seq (.block 3 (.seq 
(.reg [⟨none, .ia 5 (.t q5_8) (.t q5_6)⟩,⟨none, .load 5 true (.l 0)⟩,⟨none, .box (.c (.agg [(.int .i64 (.ofNat 0)),(.int .i64 (.ofNat 0)),(.str []),(.str []),(.int .i64 (.ofNat 0))]))⟩,⟨none, .store 5 (.l 0) (.l 1)⟩] [(q5_9,(.t q5_6)),(q5_10,(.l 1))]) (.seq 
(.reg [⟨none, .bin .gt (.t q5_9) k0⟩,⟨(some ((.l 0),true)), .fa 0 (.t q5_10)⟩,⟨(some ((.l 1),true)), .load 1 false (.l 0)⟩,⟨(some ((.l 2),true)), .bin .ne (.l 0) k0⟩,⟨none, .pick (.l 3) (.l 0) (.c (.bool false))⟩,⟨(some ((.l 0),true)), .load 1 true (.t q5_1)⟩,⟨(some ((.l 1),true)), .mov (.t q5_9)⟩,⟨(some ((.l 2),true)), .call (.c (.fn 331 [])) [(.l 1),(.l 0)]⟩,⟨(some ((.l 3),true)), .not (.l 0)⟩,⟨(some ((.l 4),true)), .mov (.l 0)⟩,⟨(some ((.l 0),false)), .load 1 true (.t q5_1)⟩,⟨(some ((.l 1),false)), .mov (.t q5_9)⟩,⟨(some ((.l 2),false)), .call (.c (.fn 332 [])) [(.l 1),(.l 0)]⟩,⟨(some ((.l 8),true)), .pick (.l 3) (.c (.bool true)) (.l 0)⟩,⟨none, .pick (.l 9) (.l 0) (.c (.bool false))⟩] [(q5_15,(.l 0))]) (.cond (.t q5_15) (.seq 
(.reg [] [(q5_16,(.c (.bool false)))]) .ret) .skip)))) 
(.reg [⟨none, .bin .add (.t q5_6) k1⟩] [(q5_6,(.l 0))]))))))) (.seq 
(.reg [] [(q5_16,(.c (.bool true)))]) .ret))))), [(q5_16, none)]⟩
def a294 : FN := ⟨full 2, [some q2_0], (.seq 
(.reg [⟨none, .box (.t q2_0)⟩] [(q2_1,(.l 0)),(q2_2,(.c (.bool false)))]) (.seq 
(.reg [⟨none, .fa 0 (.t q2_1)⟩,⟨none, .fa 0 (.l 0)⟩,⟨none, .load 1 false (.l 0)⟩,⟨none, .bin .ge (.l 0) k1⟩,⟨(some ((.l 0),true)), .fa 0 (.t q2_1)⟩,⟨(some ((.l 1),true)), .fa 0 (.l 0)⟩,⟨(some ((.l 2),true)), .load 1 false (.l 0)⟩,⟨(some ((.l 3),true)), .bin .le (.l 0) k6⟩,⟨none, .pick (.l 4) (.l 0) (.c (.bool false))⟩,⟨(some ((.l 0),true)), .fa 0 (.t q2_1)⟩,⟨(some ((.l 1),true)), .fa 1 (.l 0)⟩,⟨(some ((.l 2),true)), .load 1 false (.l 0)⟩,⟨(some ((.l 3),true)), .bin .ge (.l 0) k1⟩,⟨none, .pick (.l 4) (.l 0) (.c (.bool false))⟩,⟨(some ((.l 0),true)), .fa 0 (.t q2_1)⟩,⟨(some ((.l 1),true)), .fa 1 (.l 0)⟩,⟨(some ((.l 2),true)), .load 1 false (.l 0)⟩,⟨(some ((.l 3),true)), .bin .le (.l 0) (.c (.int .i64 (.ofNat 1073741824)))⟩,⟨none, .pick (.l 4) (.l 0) (.c (.bool false))⟩,⟨(some ((.l 0),true)), .fa 0 (.t q2_1)⟩,⟨(some ((.l 1),true)), .fa 2 (.l 0)⟩,⟨(some ((.l 2),true)), .load 1 false (.l 0)⟩,⟨(some ((.l 3),true)), .lens (.l 0)⟩,⟨(some ((.l 4),true)), .bin .le (.l 0) (.c (.int .i64 (.ofNat 249)))⟩,⟨none, .pick (.l 5) (.l 0) (.c (.bool false))⟩] [(q2_2,(.l 0))]) .ret)), [(q2_2, none)]⟩
def a295 : FN := ⟨full 3, [some q3_0], (.seq 
(.reg [⟨none, .box (.t q3_0)⟩] [(q3_1,(.l 0)),(q3_4,(.c (.str [])))]) (.seq (.seq 
(.reg [⟨none, .load 3 true (.t q3_1)⟩,⟨none, .call (.c (.fn 294 [])) [(.l 0)]⟩,⟨none, .not (.l 0)⟩] [(q3_3,(.l 0))]) (.cond (.t q3_3) (.seq 
(.reg [] [(q3_4,(.c (.str [])))]) .ret) .skip)) (.seq 
(.drw [(⟨none, .fa 0 (.t q3_1)⟩,[]),(⟨none, .fa 0 (.l 0)⟩,[]),(⟨none, .load 1 false (.l 0)⟩,[]),(⟨none, .fa 0 (.t q3_1)⟩,[]),(⟨none, .fa 1 (.l 0)⟩,[]),(⟨none, .load 1 false (.l 0)⟩,[]),(⟨none, .fa 0 (.t q3_1)⟩,[]),(⟨none, .fa 2 (.l 0)⟩,[]),(⟨none, .load 1 false (.l 0)⟩,[]),(⟨none, .lens (.l 0)⟩,[]),(⟨none, .mks 3 1 [(.int .i64 (.ofNat 0))] [(0,1,(.l 7)),(1,1,(.l 4)),(2,1,(.l 0))]⟩,[]),(⟨none, .call (.c (.fn 175 [])) [(.c (.str [49,52,50])),(.l 0)]⟩,[]),(⟨none, .fa 0 (.t q3_1)⟩,[11]),(⟨none, .fa 2 (.l 0)⟩,[11]),(⟨none, .load 1 false (.l 0)⟩,[11]),(⟨none, .bin .add (.l 3) (.l 0)⟩,[])] [(q3_2,(.l 0))]) (.seq 
(.reg [⟨none, .lens (.t q3_2)⟩,⟨none, .bin .sub (.c (.int .i64 (.ofNat 256))) (.l 0)⟩,⟨none, .call (.c (.fn 229 [])) [(.c (.str [0])),(.l 0)]⟩,⟨none, .bin .add (.t q3_2) (.l 0)⟩] [(q3_4,(.l 0))]) .ret)))), [(q3_4, none)]⟩
def a296 : FN := ⟨full 2, [some q2_0,some q2_1], (.seq 
(.reg [⟨none, .box (.t q2_0)⟩] [(q2_2,(.l 0)),(q2_3,(.c (.bool false)))]) (.seq 
(.drw [(⟨none, .mks 1 1 [(.str [])] [(0,1,(.t q2_1))]⟩,[]),(⟨none, .call (.c (.fn 228 [])) [(.l 0)]⟩,[]),(⟨none, .fa 2 (.t q2_2)⟩,[1]),(⟨none, .load 4 true (.l 0)⟩,[1]),(⟨none, .eqa [1, 1, 1, 1] false (.l 0) (.l 2)⟩,[])] [(q2_3,(.l 0))]) .ret)), [(q2_3, none)]⟩
def a297 : FN := ⟨full 2, [some q2_0], (.seq 
(.reg [] [(q2_2,(.c .nilsl))]) (.seq (.seq 
(.reg [⟨none, .eqs false (.t q2_0) (.c .nilsl)⟩] [(q2_1,(.l 0))]) (.cond (.t q2_1) (.seq 
(.reg [] [(q2_2,(.c .nilsl))]) .ret) .skip)) (.seq 
(.reg [⟨none, .mks 0 1 [(.int .i64 (.ofNat 0))] []⟩,⟨none, .app 1 (.l 0) (.t q2_0)⟩] [(q2_2,(.l 0))]) .ret))), [(q2_2, none)]⟩
def a298 : FN := ⟨full 1, [some q1_0], (.seq 
(.reg [⟨none, .len (.t q1_0)⟩] [(q1_1,(.l 0))]) 
(.reg [⟨none, .conv .u64 (.t q1_1)⟩,⟨none, .call (.c (.fn 111 [])) [(.l 0)]⟩,⟨none, .call (.c (.fn 335 [])) [(.t q1_0),k0,(.t q1_1),(.l 0)]⟩] [])), []⟩
def a299 : FN := ⟨full 4, [some q4_0], (.seq 
(.reg [] [(q4_9,(.c .nilsl))]) (.seq (.seq 
(.reg [⟨none, .len (.t q4_0)⟩,⟨none, .bin .lt (.l 0) k2⟩] [(q4_4,(.l 0))]) (.cond (.t q4_4) (.seq 
(.reg [] [(q4_9,(.t q4_0))]) .ret) .skip)) (.seq (.seq 
(.reg [] [(q4_1,k1)]) (.block 0 (.loop (.seq (.seq 
(.reg [⟨none, .len (.t q4_0)⟩,⟨none, .bin .lt (.t q4_1) (.l 0)⟩] [(q4_5,(.l 0))]) (.cond (.t q4_5) .skip (.exit 0))) (.seq (.block 1 (.seq 
(.drw [(⟨none, .ia 1 (.t q4_0) (.t q4_1)⟩,[]),(⟨none, .load 1 false (.l 0)⟩,[]),(⟨none, .bin .sub (.t q4_1) k1⟩,[]),(⟨none, .ia 1 (.t q4_0) (.l 0)⟩,[]),(⟨none, .load 1 false (.l 0)⟩,[]),(⟨none, .bin .eq (.l 3) (.l 0)⟩,[])] [(q4_6,(.l 0))]) (.cond (.t q4_6) (.seq 
(.reg [⟨none, .slc 1 (.t q4_0) (some (.t q4_1)) none none⟩] [(q4_3,(.l 0))]) (.seq (.seq 
(.reg [] [(q4_2,k1)]) (.block 2 (.loop (.seq (.seq 
(.reg [⟨none, .len (.t q4_3)⟩,⟨none, .bin .lt (.t q4_2) (.l 0)⟩] [(q4_7,(.l 0))]) (.cond (.t q4_7) .skip (.exit 2))) (.seq (.block 3 (.seq 
(.drw [(⟨none, .ia 1 (.t q4_3) (.t q4_2)⟩,[]),(⟨none, .load 1 false (.l 0)⟩,[]),(⟨none, .bin .sub (.t q4_2) k1⟩,[]),(⟨none, .ia 1 (.t q4_3) (.l 0)⟩,[]),(⟨none, .load 1 false (.l 0)⟩,[]),(⟨none, .bin .ne (.l 3) (.l 0)⟩,[])] [(q4_8,(.l 0))]) (.cond (.t q4_8) (.seq 
(.reg [⟨none, .ia 1 (.t q4_3) (.t q4_2)⟩,⟨none, .load 1 false (.l 0)⟩,⟨none, .ia 1 (.t q4_0) (.t q4_1)⟩,⟨none, .store 1 (.l 0) (.l 1)⟩] []) 
(.reg [⟨none, .bin .add (.t q4_1) k1⟩] [(q4_1,(.l 0))])) .skip))) 
(.reg [⟨none, .bin .add (.t q4_2) k1⟩] [(q4_2,(.l 0))])))))) (.seq 
(.reg [⟨none, .slc 1 (.t q4_0) (some (.t q4_1)) none none⟩,⟨none, .clr 1 [(.int .i64 (.ofNat 0))] (.l 0)⟩] []) (.seq 
(.reg [⟨none, .slc 1 (.t q4_0) none (some (.t q4_1)) none⟩] [(q4_9,(.l 0))]) .ret)))) .skip))) 
(.reg [⟨none, .bin .add (.t q4_1) k1⟩] [(q4_1,(.l 0))])))))) (.seq 
(.reg [] [(q4_9,(.t q4_0))]) .ret)))), [(q4_9, none)]⟩
def a300 : FN := ⟨full 3, [some q3_1,some q3_0], (.seq 
(.reg [⟨none, .box (.t q3_0)⟩] [(q3_3,(.l 0)),(q3_5,(.c .nilsl))]) (.seq (.seq 
(.reg [⟨none, .len (.t q3_1)⟩] [(q3_2,(.l 0))]) (.seq 
(.drw [(⟨none, .bin .gt (.t q3_2) k0⟩,[]),(⟨(some ((.l 0),true)), .mov (.t q3_1)⟩,[]),(⟨(some ((.l 1),true)), .mov (.t q3_2)⟩,[]),(⟨(some ((.l 2),true)), .bin .sub (.l 0) k1⟩,[]),(⟨(some ((.l 3),true)), .ia 2 (.l 2) (.l 0)⟩,[]),(⟨(some ((.l 4),true)), .fa 1 (.l 0)⟩,[]),(⟨(some ((.l 5),true)), .load 1 false (.l 0)⟩,[]),(⟨(some ((.l 6),true)), .fa 0 (.t q3_3)⟩,[]),(⟨(some ((.l 7),true)), .load 1 false (.l 0)⟩,[]),(⟨(some ((.l 8),true)), .bin .eq (.l 2) (.l 0)⟩,[]),(⟨none, .pick (.l 9) (.l 0) (.c (.bool false))⟩,[])] [(q3_4,(.l 0))]) (.cond (.t q3_4) (.seq 
(.reg [⟨none, .bin .sub (.t q3_2) k1⟩,⟨none, .fa 1 (.t q3_3)⟩,⟨none, .load 1 false (.l 0)⟩,⟨none, .ia 2 (.t q3_1) (.l 2)⟩,⟨none, .fa 1 (.l 0)⟩,⟨none, .store 1 (.l 0) (.l 2)⟩] []) (.seq 
(.reg [] [(q3_5,(.t q3_1))]) .ret)) .skip))) (.seq 
(.reg [⟨none, .load 2 true (.t q3_3)⟩,⟨none, .mks 1 2 [(.int .i64 (.ofNat 0)),(.int .i64 (.ofNat 0))] [(0,2,(.l 0))]⟩,⟨none, .app 2 (.t q3_1) (.l 0)⟩] [(q3_5,(.l 0))]) .ret))), [(q3_5, none)]⟩
def a301 : FN := ⟨full 4, [some q4_0], (.seq 
(.reg [⟨none, .box (.t q4_0)⟩] [(q4_1,(.l 0)),(q4_8,(.c (.bool false)))]) (.seq (.seq 
(.reg [⟨none, .fa 4 (.t q4_1)⟩,⟨none, .load 1 false (.l 0)⟩,⟨none, .bin .lt (.l 0) (.c (.int .i64 (.ofNat 40)))⟩,⟨(some ((.l 0),false)), .fa 4 (.t q4_1)⟩,⟨(some ((.l 1),false)), .load 1 false (.l 0)⟩,⟨(some ((.l 2),false)), .bin .gt (.l 0) (.c (.int .i64 (.ofNat 240)))⟩,⟨none, .pick (.l 3) (.c (.bool true)) (.l 0)⟩] [(q4_5,(.l 0))]) (.cond (.t q4_5) (.seq 
(.reg [] [(q4_8,(.c (.bool false)))]) .ret) .skip)) (.seq (.seq 
(.reg [⟨none, .fa 0 (.t q4_1)⟩,⟨none, .load 4 true (.l 0)⟩,⟨none, .call (.c (.fn 311 [])) [(.l 0)]⟩] [(q4_2,k0),(q4_3,(.l 0))]) (.block 0 (.loop (.seq 
(.reg [⟨none, .bin .lt (.t q4_2) k4⟩] [(q4_6,(.l 0))]) (.seq (.cond (.t q4_6) .skip (.exit 0)) (.seq (.block 1 (.seq 
(.reg [⟨none, .idxa 4 1 false (.t q4_3) (.t q4_2)⟩] [(q4_4,(.l 0))]) (.seq 
(.reg [⟨none, .call (.c (.fn 302 [])) [(.t q4_4)]⟩,⟨none, .not (.l 0)⟩,⟨(some ((.l 0),false)), .mov (.t q4_4)⟩,⟨(some ((.l 1),false)), .load 5 true (.t q4_1)⟩,⟨(some ((.l 2),false)), .call (.c (.fn 310 [])) [(.l 0)]⟩,⟨(some ((.l 3),false)), .call (.c (.fn 195 [])) [(.l 2),(.l 0)]⟩,⟨(some ((.l 4),false)), .len (.l 0)⟩,⟨(some ((.l 5),false)), .bin .gt (.l 0) k0⟩,⟨none, .pick (.l 6) (.c (.bool true)) (.l 0)⟩] [(q4_7,(.l 0))]) (.cond (.t q4_7) (.seq 
(.reg [] [(q4_8,(.c (.bool false)))]) .ret) .skip)))) 
(.reg [⟨none, .bin .add (.t q4_2) k1⟩] [(q4_2,(.l 0))]))))))) (.seq 
(.drw [(⟨none, .fa 0 (.t q4_1)⟩,[]),(⟨none, .fa 0 (.l 0)⟩,[]),(⟨none, .fa 0 (.l 0)⟩,[]),(⟨none, .load 1 false (.l 0)⟩,[]),(⟨none, .fa 0 (.t q4_1)⟩,[]),(⟨none, .fa 0 (.l 0)⟩,[]),(⟨none, .fa 1 (.l 0)⟩,[]),(⟨none, .load 1 false (.l 0)⟩,[]),(⟨none, .call (.c (.fn 336 [])) [(.l 4),(.l 0)]⟩,[]),(⟨none, .len (.l 0)⟩,[]),(⟨none, .bin .eq (.l 0) k0⟩,[]),(⟨(some ((.l 0),true)), .fa 0 (.t q4_1)⟩,[]),(⟨(some ((.l 1),true)), .fa 0 (.l 0)⟩,[]),(⟨(some ((.l 2),true)), .fa 0 (.l 0)⟩,[]),(⟨(some ((.l 3),true)), .load 1 false (.l 0)⟩,[]),(⟨(some ((.l 4),true)), .fa 0 (.t q4_1)⟩,[]),(⟨(some ((.l 5),true)), .fa 0 (.l 0)⟩,[]),(⟨(some ((.l 6),true)), .fa 1 (.l 0)⟩,[]),(⟨(some ((.l 7),true)), .load 1 false (.l 0)⟩,[]),(⟨(some ((.l 8),true)), .call (.c (.fn 194 [])) [(.l 4),(.l 0)]⟩,[]),(⟨(some ((.l 9),true)), .fa 0 (.t q4_1)⟩,[19]),(⟨(some ((.l 10),true)), .fa 0 (.l 0)⟩,[19]),(⟨(some ((.l 11),true)), .fa 2 (.l 0)⟩,[19]),(⟨(some ((.l 12),true)), .load 1 false (.l 0)⟩,[19]),(⟨(some ((.l 13),true)), .call (.c (.fn 336 [])) [(.l 4),(.l 0)]⟩,[]),(⟨(some ((.l 14),true)), .len (.l 0)⟩,[]),(⟨(some ((.l 15),true)), .bin .eq (.l 0) k0⟩,[]),(⟨none, .pick (.l 16) (.l 0) (.c (.bool false))⟩,[])] [(q4_8,(.l 0))]) .ret)))), [(q4_8, none)]⟩
def a302 : FN := ⟨full 4, [some q4_0], (.seq 
(.reg [] [(q4_8,(.c (.bool false)))]) (.seq 
(.reg [] [(q4_5,(.c (.int .i64 (.negSucc 0))))]) (.seq (.seq 
(.reg [⟨none, .len (.t q4_0)⟩] [(q4_1,k0),(q4_2,(.l 0)),(q4_3,(.t q4_0))]) (.block 0 (.loop (.seq 
(.reg [⟨none, .bin .lt (.t q4_1) (.t q4_2)⟩] [(q4_6,(.l 0))]) (.seq (.cond (.t q4_6) .skip (.exit 0)) (.seq (.block 1 (.seq 
(.reg [⟨none, .ia 2 (.t q4_3) (.t q4_1)⟩,⟨none, .load 2 true (.l 0)⟩,⟨none, .box (.c (.agg [(.int .i64 (.ofNat 0)),(.int .i64 (.ofNat 0))]))⟩,⟨none, .store 2 (.l 0) (.l 1)⟩] [(q4_4,(.l 1))]) (.seq (.seq 
(.reg [⟨none, .fa 0 (.t q4_4)⟩,⟨none, .load 1 false (.l 0)⟩,⟨none, .bin .le (.l 0) (.t q4_5)⟩,⟨(some ((.l 0),false)), .fa 0 (.t q4_4)⟩,⟨(some ((.l 1),false)), .load 1 false (.l 0)⟩,⟨(some ((.l 2),false)), .fa 1 (.t q4_4)⟩,⟨(some ((.l 3),false)), .load 1 false (.l 0)⟩,⟨(some ((.l 4),false)), .bin .ge (.l 2) (.l 0)⟩,⟨none, .pick (.l 5) (.c (.bool true)) (.l 0)⟩,⟨(some ((.l 0),false)), .fa 1 (.t q4_4)⟩,⟨(some ((.l 1),false)), .load 1 false (.l 0)⟩,⟨(some ((.l 2),false)), .bin .gt (.l 0) (.c (.int .i64 (.ofNat 1073741824)))⟩,⟨none, .pick (.l 3) (.c (.bool true)) (.l 0)⟩] [(q4_7,(.l 0))]) (.cond (.t q4_7) (.seq 
(.reg [] [(q4_8,(.c (.bool false)))]) .ret) .skip)) 
(.reg [⟨none, .fa 1 (.t q4_4)⟩,⟨none, .load 1 false (.l 0)⟩] [(q4_5,(.l 0))])))) 
(.reg [⟨none, .bin .add (.t q4_1) k1⟩] [(q4_1,(.l 0))]))))))) (.seq 
(.reg [] [(q4_8,(.c (.bool true)))]) .ret)))), [(q4_8, none)]⟩
def a303 : FN := ⟨full 2, [some q2_1,some q2_0], (.seq 
(.reg [⟨none, .box (.t q2_0)⟩] [(q2_2,(.l 0)),(q2_3,(.c (.bool false)))]) (.seq 
(.reg [⟨none, .mkf 338 [(.t q2_2)]⟩,⟨none, .call (.c (.fn 337 [])) [(.t q2_1),(.l 0)]⟩] [(q2_3,(.l 0))]) .ret)), [(q2_3, none)]⟩
def a304 : FN := ⟨full 4, [some q4_0], (.seq 
(.reg [⟨none, .box (.t q4_0)⟩] [(q4_1,(.l 0)),(q4_8,(.c .nilsl))]) (.seq 
(.reg [] [(q4_5,(.c .nilsl))]) (.seq (.seq 
(.reg [⟨none, .fa 0 (.t q4_1)⟩,⟨none, .load 1 false (.l 0)⟩,⟨none, .fa 1 (.t q4_1)⟩,⟨none, .load 1 false (.l 0)⟩,⟨none, .mks 2 1 [.nilsl] [(0,1,(.l 2)),(1,1,(.l 0))]⟩,⟨none, .call (.c (.fn 340 [])) [(.l 0)]⟩,⟨none, .len (.l 0)⟩] [(q4_2,k0),(q4_3,(.l 0)),(q4_4,(.l 1))]) (.block 0 (.loop (.seq 
(.reg [⟨none, .bin .lt (.t q4_2) (.t q4_3)⟩] [(q4_7,(.l 0))]) (.seq (.cond (.t q4_7) .skip (.exit 0)) (.seq (.block 1 (.seq 
(.reg [⟨none, .ia 2 (.t q4_4) (.t q4_2)⟩,⟨none, .load 2 true (.l 0)⟩,⟨none, .box (.c (.agg [(.int .i64 (.ofNat 0)),(.int .i64 (.ofNat 0))]))⟩,⟨none, .store 2 (.l 0) (.l 1)⟩] [(q4_6,(.l 1))]) 
(.reg [⟨none, .fa 0 (.t q4_6)⟩,⟨none, .load 1 false (.l 0)⟩,⟨none, .fa 1 (.t q4_6)⟩,⟨none, .load 1 false (.l 0)⟩,⟨none, .mks 2 1 [(.int .i64 (.ofNat 0))] [(0,1,(.l 2)),(1,1,(.l 0))]⟩,⟨none, .app 1 (.t q4_5) (.l 0)⟩] [(q4_5,(.l 0))]))) 
(.reg [⟨none, .bin .add (.t q4_2) k1⟩] [(q4_2,(.l 0))]))))))) (.seq 
(.reg [⟨none, .call (.c (.fn 298 [])) [(.t q4_5)]⟩] []) (.seq 
(.reg [⟨none, .call (.c (.fn 299 [])) [(.t q4_5)]⟩] [(q4_8,(.l 0))]) .ret))))), [(q4_8, none)]⟩
def a305 : FN := ⟨full 4, [some q4_0], (.seq 
(.reg [] [(q4_14,(.c .nilsl))]) (.seq 
(.reg [] [(q4_9,(.c .nilsl))]) (.seq (.seq 
(.reg [⟨none, .len (.t q4_0)⟩] [(q4_1,k0),(q4_2,(.l 0)),(q4_3,(.t q4_0))]) (.block 0 (.loop (.seq 
(.reg [⟨none, .bin .lt (.t q4_1) (.t q4_2)⟩] [(q4_11,(.l 0))]) (.seq (.cond (.t q4_11) .skip (.exit 0)) (.seq (.block 1 (.seq 
(.reg [⟨none, .ia 30 (.t q4_3) (.t q4_1)⟩,⟨none, .load 30 true (.l 0)⟩,⟨none, .box (.c (.agg [(.int .i64 (.ofNat 0)),(.int .i64 (.ofNat 0)),(.int .i64 (.ofNat 0)),(.int .i64 (.ofNat 0)),(.int .i64 (.ofNat 0)),(.int .u32 (.ofNat 0)),(.int .u32 (.ofNat 0)),(.int .u32 (.ofNat 0)),(.int .u32 (.ofNat 0)),(.int .i64 (.ofNat 0)),(.int .i64 (.ofNat 0)),(.int .u32 (.ofNat 0)),(.int .u32 (.ofNat 0)),(.int .u32 (.ofNat 0)),(.int .u32 (.ofNat 0)),(.int .i64 (.ofNat 0)),(.int .i64 (.ofNat 0)),(.int .u32 (.ofNat 0)),(.int .u32 (.ofNat 0)),(.int .u32 (.ofNat 0)),(.int .u32 (.ofNat 0)),(.int .i64 (.ofNat 0)),.nilsl,.nilsl,.nilsl,.nilsl,.nilsl,.nilsl,.nilsl,.nilsl]))⟩,⟨none, .store 30 (.l 0) (.l 1)⟩] [(q4_4,(.l 1))]) (.seq 
(.reg [⟨none, .fa 26 (.t q4_4)⟩,⟨none, .load 1 false (.l 0)⟩,⟨none, .len (.l 0)⟩] [(q4_5,k0),(q4_6,(.l 0)),(q4_7,(.l 1))]) (.block 2 (.loop (.seq 
(.reg [⟨none, .bin .lt (.t q4_5) (.t q4_6)⟩] [(q4_12,(.l 0))]) (.seq (.cond (.t q4_12) .skip (.exit 2)) (.seq (.block 3 (.seq 
(.reg [⟨none, .ia 5 (.t q4_7) (.t q4_5)⟩,⟨none, .load 5 true (.l 0)⟩,⟨none, .box (.c (.agg [(.int .i64 (.ofNat 0)),(.int .i64 (.ofNat 0)),(.int .i64 (.ofNat 0)),(.int .i64 (.ofNat 0)),.nilsl]))⟩,⟨none, .store 5 (.l 0) (.l 1)⟩] [(q4_8,(.t q4_5)),(q4_10,(.l 1))]) (.seq 
(.reg [⟨none, .fa 27 (.t q4_4)⟩,⟨none, .load 1 false (.l 0)⟩,⟨none, .len (.l 0)⟩,⟨none, .bin .lt (.t q4_8) (.l 0)⟩,⟨(some ((.l 0),true)), .mov (.t q4_8)⟩,⟨(some ((.l 1),true)), .fa 28 (.t q4_4)⟩,⟨(some ((.l 2),true)), .load 1 false (.l 0)⟩,⟨(some ((.l 3),true)), .len (.l 0)⟩,⟨(some ((.l 4),true)), .bin .lt (.l 3) (.l 0)⟩,⟨none, .pick (.l 5) (.l 0) (.c (.bool false))⟩,⟨(some ((.l 0),true)), .mov (.t q4_8)⟩,⟨(some ((.l 1),true)), .fa 29 (.t q4_4)⟩,⟨(some ((.l 2),true)), .load 1 false (.l 0)⟩,⟨(some ((.l 3),true)), .len (.l 0)⟩,⟨(some ((.l 4),true)), .bin .lt (.l 3) (.l 0)⟩,⟨none, .pick (.l 5) (.l 0) (.c (.bool false))⟩] [(q4_13,(.l 0))]) (.cond (.t q4_13) 
(.drw [(⟨none, .load 5 true (.t q4_10)⟩,[]),(⟨none, .fa 27 (.t q4_4)⟩,[]),(⟨none, .load 1 false (.l 0)⟩,[]),(⟨none, .ia 6 (.l 0) (.t q4_8)⟩,[]),(⟨none, .load 6 true (.l 0)⟩,[]),(⟨none, .fa 28 (.t q4_4)⟩,[]),(⟨none, .load 1 false (.l 0)⟩,[]),(⟨none, .ia 1 (.l 0) (.t q4_8)⟩,[]),(⟨none, .load 1 false (.l 0)⟩,[]),(⟨none, .fa 29 (.t q4_4)⟩,[]),(⟨none, .load 1 false (.l 0)⟩,[]),(⟨none, .ia 1 (.l 0) (.t q4_8)⟩,[]),(⟨none, .load 1 false (.l 0)⟩,[]),(⟨none, .build [(.int .i64 (.ofNat 0)),(.int .i64 (.ofNat 0)),(.int .i64 (.ofNat 0)),(.int .i64 (.ofNat 0)),.nilsl,(.int .i64 (.ofNat 0)),(.int .i64 (.ofNat 0)),(.int .u32 (.ofNat 0)),(.int .u32 (.ofNat 0)),(.int .u32 (.ofNat 0)),(.int .u32 (.ofNat 0)),.nilsl,.nilsl] [(0,5,(.l 12)),(5,6,(.l 8)),(11,1,(.l 4)),(12,1,(.l 0))]⟩,[]),(⟨none, .mks 1 13 [(.int .i64 (.ofNat 0)),(.int .i64 (.ofNat 0)),(.int .i64 (.ofNat 0)),(.int .i64 (.ofNat 0)),.nilsl,(.int .i64 (.ofNat 0)),(.int .i64 (.ofNat 0)),(.int .u32 (.ofNat 0)),(.int .u32 (.ofNat 0)),(.int .u32 (.ofNat 0)),(.int .u32 (.ofNat 0)),.nilsl,.nilsl] [(0,13,(.l 0))]⟩,[]),(⟨none, .app 13 (.t q4_9) (.l 0)⟩,[])] [(q4_9,(.l 0))]) .skip)))) 
(.reg [⟨none, .bin .add (.t q4_5) k1⟩] [(q4_5,(.l 0))]))))))))) 
(.reg [⟨none, .bin .add (.t q4_1) k1⟩] [(q4_1,(.l 0))]))))))) (.seq 
(.reg [] [(q4_14,(.t q4_9))]) .ret)))), [(q4_14, none)]⟩
def a306 : FN := ⟨full 4, [some q4_1,some q4_0], (.seq 
(.reg [] [(q4_11,(.c .nilsl)),(q4_12,(.c (.bool false)))]) (.seq (.seq 
(.reg [⟨none, .bin .lt (.t q4_0) k0⟩,⟨(some ((.l 0),false)), .mov (.t q4_0)⟩,⟨(some ((.l 1),false)), .mov (.t q4_1)⟩,⟨(some ((.l 2),false)), .call (.c (.fn 307 [])) [(.l 0)]⟩,⟨(some ((.l 3),false)), .bin .gt (.l 2) (.l 0)⟩,⟨none, .pick (.l 4) (.c (.bool true)) (.l 0)⟩] [(q4_8,(.l 0))]) (.cond (.t q4_8) (.seq 
(.reg [] [(q4_11,(.c .nilsl)),(q4_12,(.c (.bool false)))]) .ret) .skip)) (.seq 
(.reg [] [(q4_7,(.c .nilsl))]) (.seq (.seq 
(.reg [⟨none, .len (.t q4_1)⟩] [(q4_2,k0),(q4_3,(.l 0)),(q4_4,(.t q4_1))]) (.block 0 (.loop (.seq 
(.reg [⟨none, .bin .lt (.t q4_2) (.t q4_3)⟩] [(q4_9,(.l 0))]) (.seq (.cond (.t q4_9) .skip (.exit 0)) (.seq (.block 1 (.seq 
(.reg [⟨none, .ia 2 (.t q4_4) (.t q4_2)⟩,⟨none, .load 2 true (.l 0)⟩,⟨none, .box (.c (.agg [(.int .i64 (.ofNat 0)),(.int .i64 (.ofNat 0))]))⟩,⟨none, .store 2 (.l 0) (.l 1)⟩] [(q4_5,(.l 1))]) (.seq 
(.reg [⟨none, .fa 0 (.t q4_5)⟩,⟨none, .load 1 false (.l 0)⟩] [(q4_6,(.l 0))]) (.block 2 (.loop (.seq (.seq 
(.reg [⟨none, .fa 1 (.t q4_5)⟩,⟨none, .load 1 false (.l 0)⟩,⟨none, .bin .lt (.t q4_6) (.l 0)⟩,⟨(some ((.l 0),true)), .mov (.t q4_7)⟩,⟨(some ((.l 1),true)), .len (.l 0)⟩,⟨(some ((.l 2),true)), .mov (.t q4_0)⟩,⟨(some ((.l 3),true)), .bin .lt (.l 1) (.l 0)⟩,⟨none, .pick (.l 4) (.l 0) (.c (.bool false))⟩] [(q4_10,(.l 0))]) (.cond (.t q4_10) .skip (.exit 2))) (.seq (.block 3 
(.reg [⟨none, .mks 1 1 [(.int .i64 (.ofNat 0))] [(0,1,(.t q4_6))]⟩,⟨none, .app 1 (.t q4_7) (.l 0)⟩] [(q4_7,(.l 0))])) 
(.reg [⟨none, .bin .add (.t q4_6) k1⟩] [(q4_6,(.l 0))])))))))) 
(.reg [⟨none, .bin .add (.t q4_2) k1⟩] [(q4_2,(.l 0))]))))))) (.seq 
(.reg [] [(q4_11,(.t q4_7)),(q4_12,(.c (.bool true)))]) .ret))))), [(q4_11, none),(q4_12, none)]⟩
def a307 : FN := ⟨full 3, [some q3_0], (.seq 
(.reg [] [(q3_7,k0)]) (.seq 
(.reg [] [(q3_4,k0)]) (.seq (.seq 
(.reg [⟨none, .len (.t q3_0)⟩] [(q3_1,k0),(q3_2,(.l 0)),(q3_3,(.t q3_0))]) (.block 0 (.loop (.seq 
(.reg [⟨none, .bin .lt (.t q3_1) (.t q3_2)⟩] [(q3_6,(.l 0))]) (.seq (.cond (.t q3_6) .skip (.exit 0)) (.seq (.block 1 (.seq 
(.reg [⟨none, .ia 2 (.t q3_3) (.t q3_1)⟩,⟨none, .load 2 true (.l 0)⟩,⟨none, .box (.c (.agg [(.int .i64 (.ofNat 0)),(.int .i64 (.ofNat 0))]))⟩,⟨none, .store 2 (.l 0) (.l 1)⟩] [(q3_5,(.l 1))]) 
(.reg [⟨none, .fa 1 (.t q3_5)⟩,⟨none, .load 1 false (.l 0)⟩,⟨none, .fa 0 (.t q3_5)⟩,⟨none, .load 1 false (.l 0)⟩,⟨none, .bin .sub (.l 2) (.l 0)⟩,⟨none, .bin .add (.t q3_4) (.l 0)⟩] [(q3_4,(.l 0))]))) 
(.reg [⟨none, .bin .add (.t q3_1) k1⟩] [(q3_1,(.l 0))]))))))) (.seq 
(.reg [] [(q3_7,(.t q3_4))]) .ret)))), [(q3_7, none)]⟩
def a308 : FN := ⟨full 4, [some q4_5,some q4_0], (.seq 
(.reg [⟨none, .box (.t q4_0)⟩,⟨none, .box (.c (.agg [(.int .i64 (.ofNat 0)),(.int .i64 (.ofNat 0)),(.int .u32 (.ofNat 0)),(.int .u32 (.ofNat 0)),(.int .u32 (.ofNat 0)),(.int .u32 (.ofNat 0))]))⟩] [(q4_1,(.l 1)),(q4_11,(.l 0))]) (.seq 
(.reg [⟨none, .load 5 true (.t q4_1)⟩,⟨none, .build [(.int .i64 (.ofNat 0)),(.int .i64 (.ofNat 0)),(.int .i64 (.ofNat 0)),(.int .i64 (.ofNat 0)),.nilsl,(.int .i64 (.ofNat 0)),(.int .i64 (.ofNat 0)),(.int .u32 (.ofNat 0)),(.int .u32 (.ofNat 0)),(.int .u32 (.ofNat 0)),(.int .u32 (.ofNat 0)),.nilsl,.nilsl] [(0,5,(.l 0))]⟩,⟨none, .box (.c (.agg [(.int .i64 (.ofNat 0)),(.int .i64 (.ofNat 0)),(.int .i64 (.ofNat 0)),(.int .i64 (.ofNat 0)),.nilsl,(.int .i64 (.ofNat 0)),(.int .i64 (.ofNat 0)),(.int .u32 (.ofNat 0)),(.int .u32 (.ofNat 0)),(.int .u32 (.ofNat 0)),(.int .u32 (.ofNat 0)),.nilsl,.nilsl]))⟩,⟨none, .store 13 (.l 0) (.l 1)⟩] [(q4_8,(.l 1))]) (.seq (.seq 
(.reg [⟨none, .fa 4 (.t q4_1)⟩,⟨none, .load 1 false (.l 0)⟩,⟨none, .len (.l 0)⟩] [(q4_2,k0),(q4_3,(.l 0)),(q4_4,(.l 1))]) (.block 0 (.loop (.seq 
(.reg [⟨none, .bin .lt (.t q4_2) (.t q4_3)⟩] [(q4_12,(.l 0))]) (.seq (.cond (.t q4_12) .skip (.exit 0)) (.seq (.block 1 (.seq 
(.reg [⟨none, .ia 5 (.t q4_4) (.t q4_2)⟩,⟨none, .load 5 true (.l 0)⟩,⟨none, .box (.c (.agg [(.int .i64 (.ofNat 0)),(.int .i64 (.ofNat 0)),(.str []),(.str []),(.int .i64 (.ofNat 0))]))⟩,⟨none, .store 5 (.l 0) (.l 1)⟩] [(q4_6,(.t q4_2)),(q4_7,(.l 1))]) (.seq 
(.reg [⟨none, .load 5 true (.t q4_7)⟩,⟨none, .call (.c (.fn 341 [])) [(.t q4_5),(.t q4_6),(.l 0)]⟩,⟨none, .ext (.l 0) 0⟩,⟨none, .ext (.l 1) 1⟩,⟨none, .box (.c (.agg [(.int .i64 (.ofNat 0)),(.int .i64 (.ofNat 0)),(.int .u32 (.ofNat 0)),(.int .u32 (.ofNat 0)),(.int .u32 (.ofNat 0)),(.int .u32 (.ofNat 0))]))⟩,⟨none, .store 6 (.l 0) (.l 2)⟩] [(q4_9,(.l 1)),(q4_10,(.l 2))]) 
(.drw [(⟨none, .fa 11 (.t q4_8)⟩,[]),(⟨none, .load 1 false (.l 0)⟩,[]),(⟨none, .load 6 true (.t q4_9)⟩,[]),(⟨none, .mks 1 6 [(.int .i64 (.ofNat 0)),(.int .i64 (.ofNat 0)),(.int .u32 (.ofNat 0)),(.int .u32 (.ofNat 0)),(.int .u32 (.ofNat 0)),(.int .u32 (.ofNat 0))] [(0,6,(.l 0))]⟩,[]),(⟨none, .app 6 (.l 2) (.l 0)⟩,[]),(⟨none, .fa 12 (.t q4_8)⟩,[4]),(⟨none, .load 1 false (.l 0)⟩,[4]),(⟨none, .app 6 (.l 0) (.t q4_10)⟩,[]),(⟨none, .fa 11 (.t q4_8)⟩,[7]),(⟨none, .store 1 (.l 0) (.l 4)⟩,[]),(⟨none, .fa 12 (.t q4_8)⟩,[]),(⟨none, .store 1 (.l 0) (.l 3)⟩,[])] [])))) 
(.reg [⟨none, .bin .add (.t q4_2) k1⟩] [(q4_2,(.l 0))]))))))) (.seq 
(.reg [⟨none, .fa 11 (.t q4_8)⟩,⟨none, .load 1 false (.l 0)⟩,⟨none, .call (.c (.fn 342 [])) [(.t q4_5),(.l 0)]⟩,⟨none, .fa 5 (.t q4_8)⟩,⟨none, .store 6 (.l 0) (.l 1)⟩] []) (.seq 
(.drw [(⟨none, .nilc (.t q4_5)⟩,[]),(⟨none, .fa 12 (.l 0)⟩,[]),(⟨none, .load 1 false (.l 0)⟩,[]),(⟨none, .load 13 true (.t q4_8)⟩,[]),(⟨none, .mks 1 13 [(.int .i64 (.ofNat 0)),(.int .i64 (.ofNat 0)),(.int .i64 (.ofNat 0)),(.int .i64 (.ofNat 0)),.nilsl,(.int .i64 (.ofNat 0)),(.int .i64 (.ofNat 0)),(.int .u32 (.ofNat 0)),(.int .u32 (.ofNat 0)),(.int .u32 (.ofNat 0)),(.int .u32 (.ofNat 0)),.nilsl,.nilsl] [(0,13,(.l 0))]⟩,[]),(⟨none, .app 13 (.l 2) (.l 0)⟩,[]),(⟨none, .nilc (.t q4_5)⟩,[]),(⟨none, .fa 12 (.l 0)⟩,[]),(⟨none, .store 1 (.l 0) (.l 2)⟩,[])] []) (.seq 
(.reg [⟨none, .fa 5 (.t q4_8)⟩,⟨none, .load 6 true (.l 0)⟩,⟨none, .store 6 (.t q4_11) (.l 0)⟩] []) .ret)))))), [(q4_11, some (6,true))]⟩
def a309 : FN := ⟨full 3, [some q3_1,some q3_0,some q3_2], (.seq 
(.reg [⟨none, .box (.c (.agg [(.int .i64 (.ofNat 0)),(.int .i64 (.ofNat 0)),(.int .u32 (.ofNat 0)),(.int .u32 (.ofNat 0)),(.int .u32 (.ofNat 0)),(.int .u32 (.ofNat 0))]))⟩] [(q3_5,(.l 0))]) (.seq 
(.reg [⟨none, .nilc (.t q3_1)⟩,⟨none, .fa 10 (.l 0)⟩,⟨none, .load 1 false (.l 0)⟩,⟨none, .build [(.int .i64 (.ofNat 0)),(.int .i64 (.ofNat 0)),(.str [])] [(0,1,(.t q3_0)),(1,1,(.l 0)),(2,1,(.t q3_2))]⟩,⟨none, .box (.c (.agg [(.int .i64 (.ofNat 0)),(.int .i64 (.ofNat 0)),(.str [])]))⟩,⟨none, .store 3 (.l 0) (.l 1)⟩] [(q3_3,(.l 1))]) (.seq 
(.reg [] [(q3_4,k0)]) (.seq (.seq 
(.drw [(⟨none, .nilc (.t q3_1)⟩,[]),(⟨none, .fa 0 (.l 0)⟩,[]),(⟨none, .fa 0 (.l 0)⟩,[]),(⟨none, .load 1 false (.l 0)⟩,[]),(⟨none, .len (.l 0)⟩,[]),(⟨none, .nilc (.t q3_1)⟩,[]),(⟨none, .fa 11 (.l 0)⟩,[]),(⟨none, .load 1 false (.l 0)⟩,[]),(⟨none, .len (.l 0)⟩,[]),(⟨none, .bin .lt (.l 4) (.l 0)⟩,[])] [(q3_6,(.l 0))]) (.cond (.t q3_6) 
(.drw [(⟨none, .nilc (.t q3_1)⟩,[]),(⟨none, .fa 11 (.l 0)⟩,[]),(⟨none, .load 1 false (.l 0)⟩,[]),(⟨none, .nilc (.t q3_1)⟩,[]),(⟨none, .fa 0 (.l 0)⟩,[]),(⟨none, .fa 0 (.l 0)⟩,[]),(⟨none, .load 1 false (.l 0)⟩,[]),(⟨none, .len (.l 0)⟩,[]),(⟨none, .ia 1 (.l 5) (.l 0)⟩,[]),(⟨none, .load 1 false (.l 0)⟩,[])] [(q3_4,(.l 0))]) .skip)) (.seq 
(.drw [(⟨none, .nilc (.t q3_1)⟩,[]),(⟨none, .fa 0 (.l 0)⟩,[]),(⟨none, .fa 0 (.l 0)⟩,[]),(⟨none, .load 1 false (.l 0)⟩,[]),(⟨none, .load 3 true (.t q3_3)⟩,[]),(⟨none, .mks 1 3 [(.int .i64 (.ofNat 0)),(.int .i64 (.ofNat 0)),(.str [])] [(0,3,(.l 0))]⟩,[]),(⟨none, .app 3 (.l 2) (.l 0)⟩,[]),(⟨none, .nilc (.t q3_1)⟩,[6]),(⟨none, .fa 0 (.l 0)⟩,[6]),(⟨none, .fa 1 (.l 0)⟩,[6]),(⟨none, .load 1 false (.l 0)⟩,[6]),(⟨none, .mks 1 1 [(.int .i64 (.ofNat 0))] [(0,1,(.t q3_4))]⟩,[6]),(⟨none, .app 1 (.l 1) (.l 0)⟩,[]),(⟨none, .nilc (.t q3_1)⟩,[]),(⟨none, .fa 0 (.l 0)⟩,[]),(⟨none, .fa 0 (.l 0)⟩,[]),(⟨none, .store 1 (.l 0) (.l 9)⟩,[]),(⟨none, .nilc (.t q3_1)⟩,[]),(⟨none, .fa 0 (.l 0)⟩,[]),(⟨none, .fa 1 (.l 0)⟩,[]),(⟨none, .store 1 (.l 0) (.l 7)⟩,[])] []) (.seq 
(.reg [⟨none, .load 3 true (.t q3_3)⟩,⟨none, .call (.c (.fn 266 [])) [(.t q3_4),(.l 0)]⟩,⟨none, .call (.c (.fn 343 [])) [(.t q3_1),(.l 0)]⟩,⟨none, .store 6 (.t q3_5) (.l 0)⟩] []) .ret)))))), [(q3_5, some (6,true))]⟩
def a310 : FN := ⟨full 2, [some q2_0], (.seq 
(.reg [⟨none, .box (.t q2_0)⟩] [(q2_1,(.l 0)),(q2_2,(.c .nilsl))]) (.seq 
(.reg [⟨none, .fa 4 (.t q2_1)⟩,⟨none, .load 1 false (.l 0)⟩,⟨none, .bin .add (.c (.int .i64 (.ofNat 14))) (.l 0)⟩,⟨none, .build [(.int .i64 (.ofNat 0)),(.int .i64 (.ofNat 0))] [(0,1,(.c (.int .i64 (.ofNat 14)))),(1,1,(.l 0))]⟩,⟨none, .mks 1 2 [(.int .i64 (.ofNat 0)),(.int .i64 (.ofNat 0))] [(0,2,(.l 0))]⟩] [(q2_2,(.l 0))]) .ret)), [(q2_2, none)]⟩
def a311 : FN := ⟨full 2, [some q2_0], (.seq 
(.reg [⟨none, .box (.t q2_0)⟩,⟨none, .box (.c (.agg [.nilsl,.nilsl,.nilsl,.nilsl]))⟩] [(q2_1,(.l 1)),(q2_2,(.l 0))]) (.seq 
(.reg [⟨none, .fa 0 (.t q2_1)⟩,⟨none, .fa 0 (.l 0)⟩,⟨none, .load 1 false (.l 0)⟩,⟨none, .fa 0 (.t q2_1)⟩,⟨none, .fa 1 (.l 0)⟩,⟨none, .load 1 false (.l 0)⟩,⟨none, .fa 0 (.t q2_1)⟩,⟨none, .fa 2 (.l 0)⟩,⟨none, .load 1 false (.l 0)⟩,⟨none, .fa 0 (.t q2_1)⟩,⟨none, .fa 3 (.l 0)⟩,⟨none, .load 1 false (.l 0)⟩,⟨none, .build [.nilsl,.nilsl,.nilsl,.nilsl] [(0,1,(.l 9)),(1,1,(.l 6)),(2,1,(.l 3)),(3,1,(.l 0))]⟩,⟨none, .store 4 (.t q2_2) (.l 0)⟩] []) .ret)), [(q2_2, some (4,true))]⟩
def a312 : FN := ⟨full 1, [some q1_0], (.seq 
(.reg [] [(q1_1,(.c .nilsl))]) (.seq 
(.reg [⟨none, .app 2 (.c .nilsl) (.t q1_0)⟩] [(q1_1,(.l 0))]) .ret)), [(q1_1, none)]⟩
def a313 : FN := ⟨full 2, [some q2_0], (.seq 
(.reg [⟨none, .box (.t q2_0)⟩,⟨none, .box (.c (.agg [.nilsl,.nilsl,(.int .i64 (.ofNat 0)),(.int .i64 (.ofNat 0)),(.bool false)]))⟩] [(q2_1,(.l 1)),(q2_2,(.l 0))]) (.seq 
(.drw [(⟨none, .fa 0 (.t q2_1)⟩,[]),(⟨none, .load 1 false (.l 0)⟩,[]),(⟨none, .call (.c (.fn 51 [])) [(.l 0)]⟩,[]),(⟨none, .fa 1 (.t q2_1)⟩,[2]),(⟨none, .load 1 false (.l 0)⟩,[2]),(⟨none, .call (.c (.fn 52 [])) [(.l 0)]⟩,[]),(⟨none, .fa 0 (.t q2_1)⟩,[5]),(⟨none, .store 1 (.l 0) (.l 4)⟩,[]),(⟨none, .fa 1 (.t q2_1)⟩,[]),(⟨none, .store 1 (.l 0) (.l 3)⟩,[])] []) (.seq 
(.reg [⟨none, .load 5 true (.t q2_1)⟩,⟨none, .store 5 (.t q2_2) (.l 0)⟩] []) .ret))), [(q2_2, some (5,true))]⟩
def a314 : FN := ⟨full 4, [some q4_0,some q4_5], (.seq (.seq 
(.reg [⟨none, .nilc (.t q4_0)⟩,⟨none, .fa 1 (.l 0)⟩,⟨none, .load 1 false (.l 0)⟩,⟨none, .len (.l 0)⟩] [(q4_1,k0),(q4_2,(.l 0)),(q4_3,(.l 1))]) (.block 0 (.loop (.seq 
(.reg [⟨none, .bin .lt (.t q4_1) (.t q4_2)⟩] [(q4_7,(.l 0))]) (.seq (.cond (.t q4_7) .skip (.exit 0)) (.seq (.block 1 (.seq 
(.reg [⟨none, .ia 2 (.t q4_3) (.t q4_1)⟩,⟨none, .load 2 true (.l 0)⟩,⟨none, .box (.c (.agg [(.int .i64 (.ofNat 0)),(.str [])]))⟩,⟨none, .store 2 (.l 0) (.l 1)⟩] [(q4_4,(.l 1)),(q4_6,(.t q4_1))]) (.seq 
(.drw [(⟨none, .nilc (.t q4_0)⟩,[]),(⟨none, .load 5 true (.l 0)⟩,[]),(⟨none, .fa 0 (.t q4_4)⟩,[]),(⟨none, .load 1 false (.l 0)⟩,[]),(⟨none, .call (.c (.fn 103 [])) [(.l 2),(.l 0)]⟩,[])] [(q4_8,(.l 0))]) (.cond (.t q4_8) 
(.drw [(⟨none, .call (.t q4_5) [(.t q4_6)]⟩,[]),(⟨none, .nilc (.t q4_0)⟩,[0]),(⟨none, .fa 0 (.l 0)⟩,[0]),(⟨none, .load 1 false (.l 0)⟩,[0]),(⟨none, .fa 0 (.t q4_4)⟩,[0]),(⟨none, .load 1 false (.l 0)⟩,[0]),(⟨none, .ia 1 (.l 2) (.l 0)⟩,[0]),(⟨none, .load 1 false (.l 0)⟩,[0]),(⟨none, .fa 1 (.t q4_4)⟩,[0]),(⟨none, .load 1 false (.l 0)⟩,[0]),(⟨none, .call (.c (.fn 344 [])) [(.l 2),(.l 0),(.l 9)]⟩,[]),(⟨none, .nilc (.t q4_0)⟩,[10, 0]),(⟨none, .fa 0 (.l 0)⟩,[10, 0]),(⟨none, .load 1 false (.l 0)⟩,[10, 0]),(⟨none, .fa 0 (.t q4_4)⟩,[10, 0]),(⟨none, .load 1 false (.l 0)⟩,[10, 0]),(⟨none, .ia 1 (.l 2) (.l 0)⟩,[]),(⟨none, .store 1 (.l 0) (.l 6)⟩,[])] []) .skip)))) 
(.reg [⟨none, .bin .add (.t q4_1) k1⟩] [(q4_1,(.l 0))]))))))) 
(.reg [⟨none, .nilc (.t q4_0)⟩,⟨none, .fa 1 (.l 0)⟩,⟨none, .store 1 (.l 0) (.c .nilsl)⟩] [])), []⟩
def a315 : FN := ⟨full 0, [none], (.seq 
(.reg [] [(q0_0,k0)]) (.seq 
(.reg [] [(q0_0,k3)]) .ret)), [(q0_0, none)]⟩
def a316 : FN := ⟨full 2, [some q2_0,some q2_2,some q2_1], (.seq 
(.reg [⟨none, .box (.c (.agg [(.int .i64 (.ofNat 0)),(.int .i64 (.ofNat 0)),(.int .u32 (.ofNat 0)),(.int .u32 (.ofNat 0)),(.int .u32 (.ofNat 0)),(.int .u32 (.ofNat 0))]))⟩] [(q2_3,(.l 0))]) (.seq 
(.reg [⟨none, .mks 1 1 [(.str [])] [(0,1,(.t q2_2))]⟩,⟨none, .call (.c (.fn 228 [])) [(.l 0)]⟩,⟨none, .build [(.int .i64 (.ofNat 0)),(.int .i64 (.ofNat 0)),(.int .u32 (.ofNat 0)),(.int .u32 (.ofNat 0)),(.int .u32 (.ofNat 0)),(.int .u32 (.ofNat 0))] [(0,1,(.t q2_0)),(1,1,(.t q2_1)),(2,4,(.l 0))]⟩,⟨none, .store 6 (.t q2_3) (.l 0)⟩] []) .ret)), [(q2_3, some (6,true))]⟩
def a317 : FN := ⟨full 2, [some q2_0], (.seq 
(.reg [⟨none, .box (.t q2_0)⟩] [(q2_1,(.l 0)),(q2_2,(.c (.bool false)))]) (.seq 
(.reg [⟨none, .load 9 true (.t q2_1)⟩,⟨none, .build [(.int .i64 (.ofNat 0)),(.int .i64 (.ofNat 0)),(.int .i64 (.ofNat 0)),(.int .i64 (.ofNat 0)),(.int .i64 (.ofNat 0)),(.int .u32 (.ofNat 0)),(.int .u32 (.ofNat 0)),(.int .u32 (.ofNat 0)),(.int .u32 (.ofNat 0))] [(0,9,(.l 0))]⟩,⟨none, .call (.c (.fn 107 [])) [(.l 0)]⟩] [(q2_2,(.l 0))]) .ret)), [(q2_2, none)]⟩
def a318 : FN := ⟨full 2, [some q2_0], (.seq 
(.reg [⟨none, .box (.t q2_0)⟩] [(q2_1,(.l 0)),(q2_2,(.c (.str [])))]) (.seq 
(.reg [⟨none, .load 9 true (.t q2_1)⟩,⟨none, .build [(.int .i64 (.ofNat 0)),(.int .i64 (.ofNat 0)),(.int .i64 (.ofNat 0)),(.int .i64 (.ofNat 0)),(.int .i64 (.ofNat 0)),(.int .u32 (.ofNat 0)),(.int .u32 (.ofNat 0)),(.int .u32 (.ofNat 0)),(.int .u32 (.ofNat 0))] [(0,9,(.l 0))]⟩,⟨none, .call (.c (.fn 108 [])) [(.l 0)]⟩] [(q2_2,(.l 0))]) .ret)), [(q2_2, none)]⟩
def a319 : FN := ⟨full 3, [some q3_1,some q3_2], (.seq 
(.reg [] [(q3_6,(.c .nilsl))]) (.seq (.seq 
(.reg [] [(q3_0,k0)]) (.block 0 (.loop (.seq (.seq 
(.reg [⟨none, .len (.t q3_1)⟩,⟨none, .bin .lt (.t q3_0) (.l 0)⟩] [(q3_3,(.l 0))]) (.cond (.t q3_3) .skip (.exit 0))) (.seq (.block 1 (.seq (.seq 
(.reg [⟨none, .ia 1 (.t q3_1) (.t q3_0)⟩,⟨none, .load 1 false (.l 0)⟩,⟨none, .bin .eq (.l 0) (.t q3_2)⟩] [(q3_4,(.l 0))]) (.cond (.t q3_4) (.seq 
(.reg [] [(q3_6,(.t q3_1))]) .ret) .skip)) (.seq 
(.reg [⟨none, .ia 1 (.t q3_1) (.t q3_0)⟩,⟨none, .load 1 false (.l 0)⟩,⟨none, .bin .gt (.l 0) (.t q3_2)⟩] [(q3_5,(.l 0))]) (.cond (.t q3_5) (.seq 
(.drw [(⟨none, .mks 0 1 [(.int .i64 (.ofNat 0))] []⟩,[]),(⟨none, .slc 1 (.t q3_1) none (some (.t q3_0)) none⟩,[]),(⟨none, .app 1 (.l 1) (.l 0)⟩,[]),(⟨none, .mks 1 1 [(.int .i64 (.ofNat 0))] [(0,1,(.t q3_2))]⟩,[2]),(⟨none, .app 1 (.l 1) (.l 0)⟩,[]),(⟨none, .slc 1 (.t q3_1) (some (.t q3_0)) none none⟩,[4, 2]),(⟨none, .app 1 (.l 1) (.l 0)⟩,[])] [(q3_6,(.l 0))]) .ret) .skip)))) 
(.reg [⟨none, .bin .add (.t q3_0) k1⟩] [(q3_0,(.l 0))])))))) (.seq 
(.reg [⟨none, .mks 1 1 [(.int .i64 (.ofNat 0))] [(0,1,(.t q3_2))]⟩,⟨none, .app 1 (.t q3_1) (.l 0)⟩] [(q3_6,(.l 0))]) .ret))), [(q3_6, none)]⟩
def a325 : FN := ⟨full 3, [some q3_0,some q3_2,some q3_3], (.seq 
(.reg [⟨none, .box (.t q3_0)⟩] [(q3_1,(.l 0)),(q3_6,(.c (.str [])))]) (.seq (.block 0 (.seq (.seq 
(.reg [⟨none, .fa 0 (.t q3_1)⟩,⟨none, .load 1 false (.l 0)⟩,⟨none, .bin .ne (.l 0) k1⟩,⟨(some ((.l 0),true)), .fa 0 (.t q3_1)⟩,⟨(some ((.l 1),true)), .load 1 false (.l 0)⟩,⟨(some ((.l 2),true)), .bin .ne (.l 0) k2⟩,⟨none, .pick (.l 3) (.l 0) (.c (.bool false))⟩] [(q3_4,(.l 0))]) (.cond (.t q3_4) .skip (.seq 
(.reg [⟨none, .fa 1 (.t q3_1)⟩,⟨none, .load 1 false (.l 0)⟩,⟨none, .bin .lt (.l 0) k0⟩] [(q3_4,(.l 0))]) (.cond (.t q3_4) .skip (.seq 
(.reg [⟨none, .fa 1 (.t q3_1)⟩,⟨none, .load 1 false (.l 0)⟩,⟨none, .bin .ge (.l 0) k8⟩] [(q3_4,(.l 0))]) (.cond (.t q3_4) .skip 
(.reg [⟨none, .fa 2 (.t q3_1)⟩,⟨none, .load 1 false (.l 0)⟩,⟨none, .lens (.l 0)⟩,⟨none, .bin .gt (.l 0) k8⟩] [(q3_4,(.l 0))]))))))) (.cond (.t q3_4) (.seq 
(.reg [] [(q3_6,(.c (.str [])))]) .ret) (.seq (.seq 
(.reg [⟨none, .bin .lt (.t q3_2) k0⟩] [(q3_5,(.l 0))]) (.cond (.t q3_5) .skip (.seq 
(.reg [⟨none, .bin .gt (.t q3_2) (.c (.int .i64 (.ofNat 128)))⟩] [(q3_5,(.l 0))]) (.cond (.t q3_5) .skip (.seq 
(.reg [⟨none, .len (.t q3_3)⟩,⟨none, .bin .ne (.l 0) k4⟩] [(q3_5,(.l 0))]) (.cond (.t q3_5) .skip 
(.reg [⟨none, .call (.c (.fn 176 [])) [(.t q3_3)]⟩,⟨none, .bin .eq (.l 0) (.c (.str []))⟩] [(q3_5,(.l 0))]))))))) (.cond (.t q3_5) (.seq 
(.reg [] [(q3_6,(.c (.str [])))]) .ret) .skip))))) (.seq 
(.drw [(⟨none, .fa 0 (.t q3_1)⟩,[]),(⟨none, .load 1 false (.l 0)⟩,[]),(⟨none, .fa 1 (.t q3_1)⟩,[]),(⟨none, .load 1 false (.l 0)⟩,[]),(⟨none, .fa 2 (.t q3_1)⟩,[]),(⟨none, .load 1 false (.l 0)⟩,[]),(⟨none, .lens (.l 0)⟩,[]),(⟨none, .mks 3 1 [(.int .i64 (.ofNat 0))] [(0,1,(.l 5)),(1,1,(.l 3)),(2,1,(.l 0))]⟩,[]),(⟨none, .call (.c (.fn 175 [])) [(.c (.str [49,49,49])),(.l 0)]⟩,[]),(⟨none, .mks 1 1 [(.int .i64 (.ofNat 0))] [(0,1,(.t q3_2))]⟩,[8]),(⟨none, .call (.c (.fn 175 [])) [(.c (.str [50])),(.l 0)]⟩,[]),(⟨none, .call (.c (.fn 176 [])) [(.t q3_3)]⟩,[]),(⟨none, .fa 2 (.t q3_1)⟩,[11, 10, 8]),(⟨none, .load 1 false (.l 0)⟩,[11, 10, 8]),(⟨none, .bin .add (.l 5) (.l 0)⟩,[11, 10]),(⟨none, .bin .add (.l 0) (.l 4)⟩,[11]),(⟨none, .bin .add (.l 0) (.l 4)⟩,[])] [(q3_6,(.l 0))]) .ret))), [(q3_6, none)]⟩
def a326 : FN := ⟨full 3, [some q3_0,some q3_3], (.seq 
(.reg [] [(q3_7,k0)]) (.seq (.seq 
(.reg [⟨none, .len (.t q3_0)⟩] [(q3_1,k0),(q3_2,(.l 0))]) (.block 0 (.loop (.seq 
(.reg [⟨none, .bin .lt (.t q3_1) (.t q3_2)⟩] [(q3_5,(.l 0))]) (.seq (.cond (.t q3_5) .skip (.exit 0)) (.seq (.block 1 (.seq 
(.reg [] [(q3_4,(.t q3_1))]) (.seq 
(.reg [⟨none, .ia 6 (.t q3_0) (.t q3_4)⟩,⟨none, .load 6 true (.l 0)⟩,⟨none, .call (.t q3_3) [(.l 0)]⟩] [(q3_6,(.l 0))]) (.cond (.t q3_6) (.seq 
(.reg [] [(q3_7,(.t q3_4))]) .ret) .skip)))) 
(.reg [⟨none, .bin .add (.t q3_1) k1⟩] [(q3_1,(.l 0))]))))))) (.seq 
(.reg [] [(q3_7,(.c (.int .i64 (.negSucc 0))))]) .ret))), [(q3_7, none)]⟩
def a328 : FN := ⟨full 1, [some q1_0], (.seq 
(.reg [] [(q1_1,(.c (.str [])))]) (.seq 
(.reg [⟨none, .mx (.t q1_0) k0⟩,⟨none, .call (.c (.fn 229 [])) [(.c (.str [0])),(.l 0)]⟩] [(q1_1,(.l 0))]) .ret)), [(q1_1, none)]⟩
def a335 : FN := ⟨full 5, [some q5_3,some q5_1,some q5_0,some q5_4], (.seq 
(.reg [] [(q5_5,(.c (.bool true)))]) (.seq 
(.reg [] [(q5_8,(.c (.bool true)))]) (.block 0 (.loop (.block 1 (.seq 
(.reg [⟨none, .bin .sub (.t q5_0) (.t q5_1)⟩] [(q5_2,(.l 0))]) (.seq (.seq 
(.reg [⟨none, .bin .le (.t q5_2) (.c (.int .i64 (.ofNat 12)))⟩] [(q5_15,(.l 0))]) (.cond (.t q5_15) (.seq 
(.reg [⟨none, .call (.c (.fn 352 [])) [(.t q5_3),(.t q5_1),(.t q5_0)]⟩] []) .ret) .skip)) (.seq (.seq 
(.reg [⟨none, .bin .eq (.t q5_4) k0⟩] [(q5_16,(.l 0))]) (.cond (.t q5_16) (.seq 
(.reg [⟨none, .call (.c (.fn 353 [])) [(.t q5_3),(.t q5_1),(.t q5_0)]⟩] []) .ret) .skip)) (.seq (.seq 
(.reg [⟨none, .not (.t q5_5)⟩] [(q5_17,(.l 0))]) (.cond (.t q5_17) (.seq 
(.reg [⟨none, .call (.c (.fn 354 [])) [(.t q5_3),(.t q5_1),(.t q5_0)]⟩] []) 
(.reg [⟨none, .bin .sub (.t q5_4) k1⟩] [(q5_4,(.l 0))])) .skip)) (.seq 
(.reg [⟨none, .call (.c (.fn 355 [])) [(.t q5_3),(.t q5_1),(.t q5_0)]⟩,⟨none, .ext (.l 0) 0⟩,⟨none, .ext (.l 1) 1⟩] [(q5_6,(.l 0)),(q5_7,(.l 1))]) (.seq (.seq 
(.reg [⟨none, .bin .eq (.t q5_6) k2⟩] [(q5_18,(.l 0))]) (.cond (.t q5_18) (.seq 
(.reg [⟨none, .call (.c (.fn 356 [])) [(.t q5_3),(.t q5_1),(.t q5_0)]⟩] []) (.seq 
(.reg [⟨none, .bin .sub (.t q5_0) k1⟩,⟨none, .bin .sub (.t q5_7) (.t q5_1)⟩,⟨none, .bin .sub (.l 1) (.l 0)⟩] [(q5_7,(.l 0))]) 
(.reg [] [(q5_6,k1)]))) .skip)) (.seq (.seq 
(.reg [⟨(some ((.t q5_5),true)), .mov (.t q5_8)⟩,⟨none, .pick (.t q5_5) (.l 0) (.c (.bool false))⟩,⟨(some ((.l 0),true)), .mov (.t q5_6)⟩,⟨(some ((.l 1),true)), .bin .eq (.l 0) k1⟩,⟨none, .pick (.l 2) (.l 0) (.c (.bool false))⟩] [(q5_19,(.l 0))]) (.cond (.t q5_19) (.seq 
(.reg [⟨none, .call (.c (.fn 357 [])) [(.t q5_3),(.t q5_1),(.t q5_0)]⟩] [(q5_20,(.l 0))]) (.cond (.t q5_20) .ret .skip)) .skip)) (.seq (.seq 
(.drw [(⟨none, .bin .gt (.t q5_1) k0⟩,[]),(⟨(some ((.l 0),true)), .mov (.t q5_3)⟩,[]),(⟨(some ((.l 1),true)), .mov (.t q5_1)⟩,[]),(⟨(some ((.l 2),true)), .bin .sub (.l 0) k1⟩,[]),(⟨(some ((.l 3),true)), .ia 1 (.l 2) (.l 0)⟩,[]),(⟨(some ((.l 4),true)), .load 1 false (.l 0)⟩,[]),(⟨(some ((.l 5),true)), .mov (.t q5_3)⟩,[]),(⟨(some ((.l 6),true)), .mov (.t q5_7)⟩,[]),(⟨(some ((.l 7),true)), .ia 1 (.l 1) (.l 0)⟩,[]),(⟨(some ((.l 8),true)), .load 1 false (.l 0)⟩,[]),(⟨(some ((.l 9),true)), .call (.c (.fn 358 [])) [(.l 4),(.l 0)]⟩,[]),(⟨(some ((.l 10),true)), .not (.l 0)⟩,[]),(⟨none, .pick (.l 11) (.l 0) (.c (.bool false))⟩,[])] [(q5_21,(.l 0))]) (.cond (.t q5_21) (.seq 
(.reg [⟨none, .call (.c (.fn 359 [])) [(.t q5_3),(.t q5_1),(.t q5_0),(.t q5_7)]⟩] [(q5_9,(.l 0))]) (.seq 
(.reg [] [(q5_1,(.t q5_9))]) (.exit 1))) .skip)) (.seq 
(.reg [⟨none, .call (.c (.fn 360 [])) [(.t q5_3),(.t q5_1),(.t q5_0),(.t q5_7)]⟩,⟨none, .ext (.l 0) 0⟩,⟨none, .ext (.l 1) 1⟩] [(q5_10,(.l 0)),(q5_11,(.l 1))]) (.seq 
(.reg [] [(q5_8,(.t q5_10))]) (.seq 
(.reg [⟨none, .bin .sub (.t q5_11) (.t q5_1)⟩,⟨none, .bin .sub (.t q5_0) (.t q5_11)⟩] [(q5_12,(.l 1)),(q5_13,(.l 0))]) (.seq 
(.reg [⟨none, .bin .quo (.t q5_2) k8⟩] [(q5_14,(.l 0))]) (.seq 
(.reg [⟨none, .bin .lt (.t q5_12) (.t q5_13)⟩] [(q5_22,(.l 0))]) (.cond (.t q5_22) (.seq 
(.reg [⟨none, .bin .ge (.t q5_12) (.t q5_14)⟩] [(q5_5,(.l 0))]) (.seq 
(.reg [⟨none, .call (.c (.fn 335 [])) [(.t q5_3),(.t q5_1),(.t q5_11),(.t q5_4)]⟩] []) 
(.reg [⟨none, .bin .add (.t q5_11) k1⟩] [(q5_1,(.l 0))]))) (.seq 
(.reg [⟨none, .bin .ge (.t q5_13) (.t q5_14)⟩] [(q5_5,(.l 0))]) (.seq 
(.reg [⟨none, .bin .add (.t q5_11) k1⟩,⟨none, .call (.c (.fn 335 [])) [(.t q5_3),(.l 0),(.t q5_0),(.t q5_4)]⟩] []) 
(.reg [] [(q5_0,(.t q5_11))])))))))))))))))))))))), []⟩
def a336 : FN := ⟨full 2, [some q2_0,some q2_1], (.seq 
(.reg [] [(q2_2,(.c .nilsl))]) (.seq 
(.reg [⟨none, .build [.nilsl,.nilsl] [(0,1,(.t q2_0)),(1,1,(.t q2_1))]⟩,⟨none, .call (.c (.fn 253 [])) [(.l 0),(.c (.fn 361 []))]⟩] [(q2_2,(.l 0))]) .ret)), [(q2_2, none)]⟩
def a337 : FN := ⟨full 2, [some q2_0,some q2_1], (.seq 
(.reg [] [(q2_2,(.c (.bool false)))]) (.seq 
(.reg [⟨none, .call (.c (.fn 362 [])) [(.t q2_0),(.t q2_1)]⟩,⟨none, .bin .ge (.l 0) k0⟩] [(q2_2,(.l 0))]) .ret)), [(q2_2, none)]⟩
def a338 : FN := ⟨full 2, [some q2_0,some q2_2], (.seq 
(.reg [⟨none, .box (.t q2_0)⟩] [(q2_1,(.l 0)),(q2_3,(.c (.bool false)))]) (.seq 
(.reg [⟨none, .load 2 true (.t q2_1)⟩,⟨none, .build [(.int .i64 (.ofNat 0)),(.int .i64 (.ofNat 0))] [(0,2,(.l 0))]⟩,⟨none, .load 1 false (.t q2_2)⟩,⟨none, .call (.c (.fn 339 [])) [(.l 1),(.l 0)]⟩] [(q2_3,(.l 0))]) .ret)), [(q2_3, none)]⟩
def a339 : FN := ⟨full 2, [some q2_0,some q2_2], (.seq 
(.reg [⟨none, .box (.t q2_0)⟩] [(q2_1,(.l 0)),(q2_3,(.c (.bool false)))]) (.seq 
(.reg [⟨none, .fa 0 (.t q2_1)⟩,⟨none, .fa 0 (.l 0)⟩,⟨none, .load 1 false (.l 0)⟩,⟨none, .bin .le (.l 0) (.t q2_2)⟩,⟨(some ((.l 0),true)), .mov (.t q2_2)⟩,⟨(some ((.l 1),true)), .fa 0 (.t q2_1)⟩,⟨(some ((.l 2),true)), .fa 1 (.l 0)⟩,⟨(some ((.l 3),true)), .load 1 false (.l 0)⟩,⟨(some ((.l 4),true)), .bin .lt (.l 3) (.l 0)⟩,⟨none, .pick (.l 5) (.l 0) (.c (.bool false))⟩] [(q2_3,(.l 0))]) .ret)), [(q2_3, none)]⟩
def a340 : FN := ⟨full 4, [some q4_0], (.seq 
(.reg [] [(q4_14,(.c .nilsl))]) (.seq 
(.reg [] [(q4_4,k0)]) (.seq (.seq 
(.reg [⟨none, .len (.t q4_0)⟩] [(q4_1,k0),(q4_2,(.l 0)),(q4_3,(.t q4_0))]) (.block 0 (.loop (.seq 
(.reg [⟨none, .bin .lt (.t q4_1) (.t q4_2)⟩] [(q4_11,(.l 0))]) (.seq (.cond (.t q4_11) .skip (.exit 0)) (.seq (.block 1 (.seq 
(.reg [⟨none, .ia 1 (.t q4_3) (.t q4_1)⟩,⟨none, .load 1 false (.l 0)⟩] [(q4_5,(.l 0))]) (.seq 
(.reg [⟨none, .len (.t q4_5)⟩,⟨none, .bin .add (.t q4_4) (.l 0)⟩] [(q4_4,(.l 0))]) (.seq 
(.reg [⟨none, .bin .lt (.t q4_4) k0⟩] [(q4_12,(.l 0))]) (.cond (.t q4_12) 
(.reg [⟨none, .bad⟩,⟨none, .bad⟩] []) .skip))))) 
(.reg [⟨none, .bin .add (.t q4_1) k1⟩] [(q4_1,(.l 0))]))))))) (.seq 
(.reg [⟨none, .call (.c (.fn 363 [])) [(.c .nilsl),(.t q4_4)]⟩] [(q4_9,(.l 0))]) (.seq (.seq 
(.reg [⟨none, .len (.t q4_0)⟩] [(q4_6,k0),(q4_7,(.l 0)),(q4_8,(.t q4_0))]) (.block 2 (.loop (.seq 
(.reg [⟨none, .bin .lt (.t q4_6) (.t q4_7)⟩] [(q4_13,(.l 0))]) (.seq (.cond (.t q4_13) .skip (.exit 2)) (.seq (.block 3 (.seq 
(.reg [⟨none, .ia 1 (.t q4_8) (.t q4_6)⟩,⟨none, .load 1 false (.l 0)⟩] [(q4_10,(.l 0))]) 
(.reg [⟨none, .app 2 (.t q4_9) (.t q4_10)⟩] [(q4_9,(.l 0))]))) 
(.reg [⟨none, .bin .add (.t q4_6) k1⟩] [(q4_6,(.l 0))]))))))) (.seq 
(.reg [] [(q4_14,(.t q4_9))]) .ret)))))), [(q4_14, none)]⟩
def a341 : FN := ⟨full 5, [some q5_7,some q5_8,some q5_0], (.seq 
(.reg [⟨none, .box (.t q5_0)⟩,⟨none, .box (.c (.agg [(.int .i64 (.ofNat 0)),(.int .i64 (.ofNat 0)),(.int .u32 (.ofNat 0)),(.int .u32 (.ofNat 0)),(.int .u32 (.ofNat 0)),(.int .u32 (.ofNat 0))]))⟩] [(q5_1,(.l 1)),(q5_3,(.l 0)),(q5_19,(.c .nilsl))]) (.seq 
(.reg [⟨none, .mksl 6 32 [(.int .i64 (.ofNat 0)),(.int .i64 (.ofNat 0)),(.int .u32 (.ofNat 0)),(.int .u32 (.ofNat 0)),(.int .u32 (.ofNat 0)),(.int .u32 (.ofNat 0))] k4 k4⟩] [(q5_2,(.l 0))]) (.seq (.seq 
(.reg [⟨none, .fa 0 (.t q5_1)⟩,⟨none, .load 1 false (.l 0)⟩,⟨none, .bin .eq (.l 0) k0⟩] [(q5_14,(.l 0))]) (.cond (.t q5_14) (.seq 
(.reg [⟨none, .build [(.int .i64 (.ofNat 0)),(.int .i64 (.ofNat 0)),(.int .u32 (.ofNat 0)),(.int .u32 (.ofNat 0)),(.int .u32 (.ofNat 0)),(.int .u32 (.ofNat 0))] []⟩,⟨none, .store 6 (.t q5_3) (.l 0)⟩] [(q5_19,(.t q5_2))]) .ret) .skip)) (.seq (.seq 
(.reg [⟨none, .len (.t q5_2)⟩] [(q5_4,k0),(q5_5,(.l 0))]) (.block 0 (.loop (.seq 
(.reg [⟨none, .bin .lt (.t q5_4) (.t q5_5)⟩] [(q5_15,(.l 0))]) (.seq (.cond (.t q5_15) .skip (.exit 0)) (.seq (.block 1 (.seq 
(.reg [] [(q5_6,(.t q5_4))]) 
(.reg [⟨none, .fa 3 (.t q5_1)⟩,⟨none, .load 1 false (.l 0)⟩,⟨none, .call (.c (.fn 365 [])) [(.l 0),(.t q5_6)]⟩,⟨none, .call (.c (.fn 364 [])) [(.t q5_7),(.t q5_8),(.t q5_6),(.l 0)]⟩,⟨none, .ia 6 (.t q5_2) (.t q5_6)⟩,⟨none, .store 6 (.l 0) (.l 1)⟩] []))) 
(.reg [⟨none, .bin .add (.t q5_4) k1⟩] [(q5_4,(.l 0))]))))))) (.seq (.seq 
(.reg [⟨none, .nilc (.t q5_7)⟩,⟨none, .fa 12 (.l 0)⟩,⟨none, .load 1 false (.l 0)⟩,⟨none, .len (.l 0)⟩] [(q5_9,k0),(q5_10,(.l 0)),(q5_11,(.l 1))]) (.block 2 (.loop (.seq 
(.reg [⟨none, .bin .lt (.t q5_9) (.t q5_10)⟩] [(q5_16,(.l 0))]) (.seq (.cond (.t q5_16) .skip (.exit 2)) (.seq (.block 3 (.seq 
(.reg [⟨none, .ia 13 (.t q5_11) (.t q5_9)⟩,⟨none, .load 13 true (.l 0)⟩,⟨none, .box (.c (.agg [(.int .i64 (.ofNat 0)),(.int .i64 (.ofNat 0)),(.int .i64 (.ofNat 0)),(.int .i64 (.ofNat 0)),.nilsl,(.int .i64 (.ofNat 0)),(.int .i64 (.ofNat 0)),(.int .u32 (.ofNat 0)),(.int .u32 (.ofNat 0)),(.int .u32 (.ofNat 0)),(.int .u32 (.ofNat 0)),.nilsl,.nilsl]))⟩,⟨none, .store 13 (.l 0) (.l 1)⟩] [(q5_12,(.l 1))]) (.seq (.seq 
(.reg [⟨none, .load 13 true (.t q5_12)⟩,⟨none, .call (.c (.fn 367 [])) [(.l 0),(.t q5_8)]⟩,⟨none, .call (.c (.fn 366 [])) [(.l 0),(.t q5_2)]⟩,⟨none, .not (.l 0)⟩,⟨(some ((.l 0),false)), .mov (.t q5_8)⟩,⟨(some ((.l 1),false)), .fa 11 (.t q5_12)⟩,⟨(some ((.l 2),false)), .load 1 false (.l 0)⟩,⟨(some ((.l 3),false)), .len (.l 0)⟩,⟨(some ((.l 4),false)), .bin .ge (.l 3) (.l 0)⟩,⟨none, .pick (.l 5) (.c (.bool true)) (.l 0)⟩] [(q5_17,(.l 0))]) (.cond (.t q5_17) (.exit 3) .skip)) (.seq 
(.reg [⟨none, .fa 0 (.t q5_12)⟩,⟨none, .fa 4 (.l 0)⟩,⟨none, .load 1 false (.l 0)⟩,⟨none, .ia 5 (.l 0) (.t q5_8)⟩,⟨none, .load 5 true (.l 0)⟩,⟨none, .box (.c (.agg [(.int .i64 (.ofNat 0)),(.int .i64 (.ofNat 0)),(.str []),(.str []),(.int .i64 (.ofNat 0))]))⟩,⟨none, .store 5 (.l 0) (.l 1)⟩] [(q5_13,(.l 1))]) (.seq 
(.reg [⟨none, .fa 0 (.t q5_13)⟩,⟨none, .load 1 false (.l 0)⟩,⟨none, .fa 0 (.t q5_1)⟩,⟨none, .load 1 false (.l 0)⟩,⟨none, .bin .eq (.l 2) (.l 0)⟩,⟨(some ((.l 0),true)), .fa 1 (.t q5_13)⟩,⟨(some ((.l 1),true)), .load 1 false (.l 0)⟩,⟨(some ((.l 2),true)), .fa 1 (.t q5_1)⟩,⟨(some ((.l 3),true)), .load 1 false (.l 0)⟩,⟨(some ((.l 4),true)), .bin .eq (.l 2) (.l 0)⟩,⟨none, .pick (.l 5) (.l 0) (.c (.bool false))⟩,⟨(some ((.l 0),true)), .fa 2 (.t q5_13)⟩,⟨(some ((.l 1),true)), .load 1 false (.l 0)⟩,⟨(some ((.l 2),true)), .fa 2 (.t q5_1)⟩,⟨(some ((.l 3),true)), .load 1 false (.l 0)⟩,⟨(some ((.l 4),true)), .bin .eq (.l 2) (.l 0)⟩,⟨none, .pick (.l 5) (.l 0) (.c (.bool false))⟩,⟨(some ((.l 0),true)), .fa 3 (.t q5_13)⟩,⟨(some ((.l 1),true)), .load 1 false (.l 0)⟩,⟨(some ((.l 2),true)), .lens (.l 0)⟩,⟨(some ((.l 3),true)), .fa 3 (.t q5_1)⟩,⟨(some ((.l 4),true)), .load 1 false (.l 0)⟩,⟨(some ((.l 5),true)), .lens (.l 0)⟩,⟨(some ((.l 6),true)), .bin .eq (.l 3) (.l 0)⟩,⟨none, .pick (.l 7) (.l 0) (.c (.bool false))⟩] [(q5_18,(.l 0))]) (.cond (.t q5_18) (.seq 
(.reg [⟨none, .fa 11 (.t q5_12)⟩,⟨none, .load 1 false (.l 0)⟩,⟨none, .ia 6 (.l 0) (.t q5_8)⟩,⟨none, .load 6 true (.l 0)⟩,⟨none, .call (.c (.fn 343 [])) [(.t q5_7),(.l 0)]⟩,⟨none, .store 6 (.t q5_3) (.l 0)⟩] [(q5_19,(.t q5_2))]) .ret) .skip)))))) 
(.reg [⟨none, .bin .add (.t q5_9) k1⟩] [(q5_9,(.l 0))]))))))) (.seq 
(.reg [⟨none, .load 5 true (.t q5_1)⟩,⟨none, .fa 3 (.t q5_1)⟩,⟨none, .load 1 false (.l 0)⟩,⟨none, .lens (.l 0)⟩,⟨none, .call (.c (.fn 325 [])) [(.l 3),(.l 0),(.t q5_2)]⟩,⟨none, .call (.c (.fn 309 [])) [(.t q5_7),k2,(.l 0)]⟩,⟨none, .store 6 (.t q5_3) (.l 0)⟩] [(q5_19,(.t q5_2))]) .ret)))))), [(q5_3, some (6,true)),(q5_19, none)]⟩
def a342 : FN := ⟨full 4, [some q4_0,some q4_5], (.seq 
(.reg [⟨none, .box (.c (.agg [(.int .i64 (.ofNat 0)),(.int .i64 (.ofNat 0)),(.int .u32 (.ofNat 0)),(.int .u32 (.ofNat 0)),(.int .u32 (.ofNat 0)),(.int .u32 (.ofNat 0))]))⟩] [(q4_6,(.l 0))]) (.seq (.seq 
(.reg [⟨none, .nilc (.t q4_0)⟩,⟨none, .fa 12 (.l 0)⟩,⟨none, .load 1 false (.l 0)⟩,⟨none, .len (.l 0)⟩] [(q4_1,k0),(q4_2,(.l 0)),(q4_3,(.l 1))]) (.block 0 (.loop (.seq 
(.reg [⟨none, .bin .lt (.t q4_1) (.t q4_2)⟩] [(q4_7,(.l 0))]) (.seq (.cond (.t q4_7) .skip (.exit 0)) (.seq (.block 1 (.seq 
(.reg [⟨none, .ia 13 (.t q4_3) (.t q4_1)⟩,⟨none, .load 13 true (.l 0)⟩,⟨none, .box (.c (.agg [(.int .i64 (.ofNat 0)),(.int .i64 (.ofNat 0)),(.int .i64 (.ofNat 0)),(.int .i64 (.ofNat 0)),.nilsl,(.int .i64 (.ofNat 0)),(.int .i64 (.ofNat 0)),(.int .u32 (.ofNat 0)),(.int .u32 (.ofNat 0)),(.int .u32 (.ofNat 0)),(.int .u32 (.ofNat 0)),.nilsl,.nilsl]))⟩,⟨none, .store 13 (.l 0) (.l 1)⟩] [(q4_4,(.l 1))]) (.seq 
(.reg [⟨none, .fa 11 (.t q4_4)⟩,⟨none, .load 1 false (.l 0)⟩,⟨none, .call (.c (.fn 366 [])) [(.l 0),(.t q4_5)]⟩] [(q4_8,(.l 0))]) (.cond (.t q4_8) (.seq 
(.reg [⟨none, .fa 5 (.t q4_4)⟩,⟨none, .load 6 true (.l 0)⟩,⟨none, .call (.c (.fn 343 [])) [(.t q4_0),(.l 0)]⟩,⟨none, .store 6 (.t q4_6) (.l 0)⟩] []) .ret) .skip)))) 
(.reg [⟨none, .bin .add (.t q4_1) k1⟩] [(q4_1,(.l 0))]))))))) (.seq 
(.reg [⟨none, .call (.c (.fn 368 [])) [(.t q4_5)]⟩,⟨none, .call (.c (.fn 309 [])) [(.t q4_0),k3,(.l 0)]⟩,⟨none, .store 6 (.t q4_6) (.l 0)⟩] []) .ret))), [(q4_6, some (6,true))]⟩
def a343 : FN := ⟨full 2, [some q2_1,some q2_0], (.seq 
(.reg [⟨none, .box (.t q2_0)⟩,⟨none, .box (.c (.agg [(.int .i64 (.ofNat 0)),(.int .i64 (.ofNat 0)),(.int .u32 (.ofNat 0)),(.int .u32 (.ofNat 0)),(.int .u32 (.ofNat 0)),(.int .u32 (.ofNat 0))]))⟩] [(q2_2,(.l 1)),(q2_3,(.l 0))]) (.seq 
(.drw [(⟨none, .nilc (.t q2_1)⟩,[]),(⟨none, .fa 13 (.l 0)⟩,[]),(⟨none, .load 1 false (.l 0)⟩,[]),(⟨none, .fa 0 (.t q2_2)⟩,[]),(⟨none, .load 1 false (.l 0)⟩,[]),(⟨none, .mks 1 1 [(.int .i64 (.ofNat 0))] [(0,1,(.l 0))]⟩,[]),(⟨none, .app 1 (.l 3) (.l 0)⟩,[]),(⟨none, .nilc (.t q2_1)⟩,[]),(⟨none, .fa 13 (.l 0)⟩,[]),(⟨none, .store 1 (.l 0) (.l 2)⟩,[])] []) (.seq 
(.reg [⟨none, .load 6 true (.t q2_2)⟩,⟨none, .store 6 (.t q2_3) (.l 0)⟩] []) .ret))), [(q2_3, some (6,true))]⟩
def a344 : FN := ⟨full 3, [some q3_0,some q3_1,some q3_2], (.seq 
(.reg [] [(q3_6,(.c (.str [])))]) (.seq 
(.reg [⟨none, .build [(.str []),(.str [])] [(0,1,(.t q3_0)),(1,1,(.t q3_1))]⟩,⟨none, .box (.c (.agg [(.str []),(.str [])]))⟩,⟨none, .store 2 (.l 0) (.l 1)⟩] [(q3_3,(.l 1))]) (.seq 
(.drw [(⟨none, .bin .and (.t q3_2) k1⟩,[]),(⟨none, .iap 2 1 (.t q3_3) (.l 0)⟩,[]),(⟨none, .load 1 false (.l 0)⟩,[]),(⟨none, .bin .shr (.t q3_2) (.c (.int .u64 (.ofNat 1)))⟩,[]),(⟨none, .bin .and (.l 0) k1⟩,[]),(⟨none, .iap 2 1 (.t q3_3) (.l 0)⟩,[]),(⟨none, .load 1 false (.l 0)⟩,[])] [(q3_4,(.l 4)),(q3_5,(.l 0))]) (.seq 
(.drw [(⟨none, .lens (.t q3_4)⟩,[]),(⟨none, .mn (.c (.int .i64 (.ofNat 128))) (.l 0)⟩,[]),(⟨none, .slc 0 (.t q3_4) none (some (.l 0)) none⟩,[]),(⟨none, .lens (.t q3_5)⟩,[]),(⟨none, .mn (.c (.int .i64 (.ofNat 128))) (.l 0)⟩,[]),(⟨none, .slc 0 (.t q3_5) (some (.l 0)) none none⟩,[]),(⟨none, .bin .add (.l 3) (.l 0)⟩,[])] [(q3_6,(.l 0))]) .ret)))), [(q3_6, none)]⟩
def a352 : FN := ⟨full 3, [some q3_4,some q3_0,some q3_2], (.seq 
(.reg [⟨none, .bin .add (.t q3_0) k1⟩] [(q3_1,(.l 0))]) (.block 0 (.loop (.seq (.seq 
(.reg [⟨none, .bin .lt (.t q3_1) (.t q3_2)⟩] [(q3_5,(.l 0))]) (.cond (.t q3_5) .skip (.exit 0))) (.seq (.block 1 (.seq 
(.reg [] [(q3_3,(.t q3_1))]) (.block 2 (.loop (.seq (.seq 
(.drw [(⟨none, .bin .gt (.t q3_3) (.t q3_0)⟩,[]),(⟨(some ((.l 0),true)), .mov (.t q3_4)⟩,[]),(⟨(some ((.l 1),true)), .mov (.t q3_3)⟩,[]),(⟨(some ((.l 2),true)), .ia 1 (.l 1) (.l 0)⟩,[]),(⟨(some ((.l 3),true)), .load 1 false (.l 0)⟩,[]),(⟨(some ((.l 4),true)), .mov (.t q3_4)⟩,[]),(⟨(some ((.l 5),true)), .mov (.t q3_3)⟩,[]),(⟨(some ((.l 6),true)), .bin .sub (.l 0) k1⟩,[]),(⟨(some ((.l 7),true)), .ia 1 (.l 2) (.l 0)⟩,[]),(⟨(some ((.l 8),true)), .load 1 false (.l 0)⟩,[]),(⟨(some ((.l 9),true)), .call (.c (.fn 358 [])) [(.l 5),(.l 0)]⟩,[]),(⟨none, .pick (.l 10) (.l 0) (.c (.bool false))⟩,[])] [(q3_6,(.l 0))]) (.cond (.t q3_6) .skip (.exit 2))) (.seq (.block 3 
(.drw [(⟨none, .bin .sub (.t q3_3) k1⟩,[]),(⟨none, .ia 1 (.t q3_4) (.l 0)⟩,[]),(⟨none, .load 1 false (.l 0)⟩,[]),(⟨none, .ia 1 (.t q3_4) (.t q3_3)⟩,[]),(⟨none, .load 1 false (.l 0)⟩,[]),(⟨none, .ia 1 (.t q3_4) (.t q3_3)⟩,[]),(⟨none, .store 1 (.l 0) (.l 3)⟩,[]),(⟨none, .bin .sub (.t q3_3) k1⟩,[6]),(⟨none, .ia 1 (.t q3_4) (.l 0)⟩,[]),(⟨none, .store 1 (.l 0) (.l 4)⟩,[])] [])) 
(.reg [⟨none, .bin .sub (.t q3_3) k1⟩] [(q3_3,(.l 0))]))))))) 
(.reg [⟨none, .bin .add (.t q3_1) k1⟩] [(q3_1,(.l 0))])))))), []⟩
def a358 : FN := ⟨full 2, [some q2_0,some q2_1], (.seq 
(.reg [] [(q2_2,(.c (.bool false)))]) (.seq 
(.reg [⟨none, .call (.c (.fn 375 [])) [(.t q2_0)]⟩,⟨(some ((.l 0),true)), .mov (.t q2_1)⟩,⟨(some ((.l 1),true)), .call (.c (.fn 375 [])) [(.l 0)]⟩,⟨(some ((.l 2),true)), .not (.l 0)⟩,⟨none, .pick (.l 3) (.l 0) (.c (.bool false))⟩,⟨(some ((.l 0),false)), .mov (.t q2_0)⟩,⟨(some ((.l 1),false)), .mov (.t q2_1)⟩,⟨(some ((.l 2),false)), .bin .lt (.l 1) (.l 0)⟩,⟨none, .pick (.l 3) (.c (.bool true)) (.l 0)⟩] [(q2_2,(.l 0))]) .ret)), [(q2_2, none)]⟩
def a361 : FN := ⟨full 2, [some q2_0,some q2_1], (.seq 
(.reg [] [(q2_2,(.c (.bool false)))]) (.seq 
(.reg [⟨(some ((.t q2_0),true)), .mov (.t q2_1)⟩,⟨none, .pick (.t q2_0) (.l 0) (.c (.bool false))⟩] [(q2_2,(.l 0))]) .ret)), [(q2_2, none)]⟩
def a362 : FN := ⟨full 3, [some q3_0,some q3_3], (.seq 
(.reg [] [(q3_7,k0)]) (.seq (.seq 
(.reg [⟨none, .len (.t q3_0)⟩] [(q3_1,k0),(q3_2,(.l 0))]) (.block 0 (.loop (.seq 
(.reg [⟨none, .bin .lt (.t q3_1) (.t q3_2)⟩] [(q3_5,(.l 0))]) (.seq (.cond (.t q3_5) .skip (.exit 0)) (.seq (.block 1 (.seq 
(.reg [] [(q3_4,(.t q3_1))]) (.seq 
(.reg [⟨none, .ia 2 (.t q3_0) (.t q3_4)⟩,⟨none, .load 2 true (.l 0)⟩,⟨none, .call (.t q3_3) [(.l 0)]⟩] [(q3_6,(.l 0))]) (.cond (.t q3_6) (.seq 
(.reg [] [(q3_7,(.t q3_4))]) .ret) .skip)))) 
(.reg [⟨none, .bin .add (.t q3_1) k1⟩] [(q3_1,(.l 0))]))))))) (.seq 
(.reg [] [(q3_7,(.c (.int .i64 (.negSucc 0))))]) .ret))), [(q3_7, none)]⟩
def a363 : FN := ⟨full 3, [some q3_1,some q3_0], (.seq 
(.reg [] [(q3_4,(.c .nilsl))]) (.seq (.seq 
(.reg [⟨none, .bin .lt (.t q3_0) k0⟩] [(q3_2,(.l 0))]) (.cond (.t q3_2) 
(.reg [⟨none, .bad⟩,⟨none, .bad⟩] []) .skip)) (.seq (.seq 
(.reg [⟨none, .cap (.t q3_1)⟩,⟨none, .len (.t q3_1)⟩,⟨none, .bin .sub (.l 1) (.l 0)⟩,⟨none, .bin .sub (.t q3_0) (.l 0)⟩] [(q3_0,(.l 0))]) (.seq 
(.reg [⟨none, .bin .gt (.t q3_0) k0⟩] [(q3_3,(.l 0))]) (.cond (.t q3_3) 
(.reg [⟨none, .cap (.t q3_1)⟩,⟨none, .slc 2 (.t q3_1) none (some (.l 0)) none⟩,⟨none, .appz 2 [(.int .i64 (.ofNat 0)),(.int .i64 (.ofNat 0))] (.l 0) (.t q3_0)⟩,⟨none, .len (.t q3_1)⟩,⟨none, .slc 2 (.l 1) none (some (.l 0)) none⟩] [(q3_1,(.l 0))]) .skip))) (.seq 
(.reg [] [(q3_4,(.t q3_1))]) .ret)))), [(q3_4, none)]⟩
def a364 : FN := ⟨full 4, [some q4_2,some q4_7,some q4_9,some q4_0], (.seq 
(.reg [⟨none, .box (.c (.agg [(.int .i64 (.ofNat 0)),(.int .i64 (.ofNat 0)),(.int .u32 (.ofNat 0)),(.int .u32 (.ofNat 0)),(.int .u32 (.ofNat 0)),(.int .u32 (.ofNat 0))]))⟩] [(q4_1,(.l 0))]) (.seq (.seq 
(.reg [⟨none, .bin .eq (.t q4_0) (.c (.str []))⟩] [(q4_10,(.l 0))]) (.cond (.t q4_10) (.seq 
(.reg [⟨none, .build [(.int .i64 (.ofNat 0)),(.int .i64 (.ofNat 0)),(.int .u32 (.ofNat 0)),(.int .u32 (.ofNat 0)),(.int .u32 (.ofNat 0)),(.int .u32 (.ofNat 0))] []⟩,⟨none, .store 6 (.t q4_1) (.l 0)⟩] []) .ret) .skip)) (.seq (.seq 
(.reg [⟨none, .nilc (.t q4_2)⟩,⟨none, .fa 12 (.l 0)⟩,⟨none, .load 1 false (.l 0)⟩,⟨none, .len (.l 0)⟩] [(q4_3,k0),(q4_4,(.l 0)),(q4_5,(.l 1))]) (.block 0 (.loop (.seq 
(.reg [⟨none, .bin .lt (.t q4_3) (.t q4_4)⟩] [(q4_11,(.l 0))]) (.seq (.cond (.t q4_11) .skip (.exit 0)) (.seq (.block 1 (.seq 
(.reg [⟨none, .ia 13 (.t q4_5) (.t q4_3)⟩,⟨none, .load 13 true (.l 0)⟩,⟨none, .box (.c (.agg [(.int .i64 (.ofNat 0)),(.int .i64 (.ofNat 0)),(.int .i64 (.ofNat 0)),(.int .i64 (.ofNat 0)),.nilsl,(.int .i64 (.ofNat 0)),(.int .i64 (.ofNat 0)),(.int .u32 (.ofNat 0)),(.int .u32 (.ofNat 0)),(.int .u32 (.ofNat 0)),(.int .u32 (.ofNat 0)),.nilsl,.nilsl]))⟩,⟨none, .store 13 (.l 0) (.l 1)⟩] [(q4_6,(.l 1))]) (.seq 
(.reg [⟨none, .load 13 true (.t q4_6)⟩,⟨none, .call (.c (.fn 367 [])) [(.l 0),(.t q4_7)]⟩] [(q4_8,(.l 0))]) (.seq 
(.reg [⟨none, .eqs true (.t q4_8) (.c .nilsl)⟩,⟨(some ((.l 0),true)), .fa 0 (.t q4_6)⟩,⟨(some ((.l 1),true)), .fa 4 (.l 0)⟩,⟨(some ((.l 2),true)), .load 1 false (.l 0)⟩,⟨(some ((.l 3),true)), .mov (.t q4_7)⟩,⟨(some ((.l 4),true)), .ia 5 (.l 1) (.l 0)⟩,⟨(some ((.l 5),true)), .fa 3 (.l 0)⟩,⟨(some ((.l 6),true)), .load 1 false (.l 0)⟩,⟨(some ((.l 7),true)), .mov (.t q4_9)⟩,⟨(some ((.l 8),true)), .call (.c (.fn 365 [])) [(.l 1),(.l 0)]⟩,⟨(some ((.l 9),true)), .mov (.t q4_0)⟩,⟨(some ((.l 10),true)), .bin .eq (.l 1) (.l 0)⟩,⟨none, .pick (.l 11) (.l 0) (.c (.bool false))⟩] [(q4_12,(.l 0))]) (.cond (.t q4_12) (.seq 
(.reg [⟨none, .ia 6 (.t q4_8) (.t q4_9)⟩,⟨none, .load 6 true (.l 0)⟩,⟨none, .call (.c (.fn 343 [])) [(.t q4_2),(.l 0)]⟩,⟨none, .store 6 (.t q4_1) (.l 0)⟩] []) .ret) .skip))))) 
(.reg [⟨none, .bin .add (.t q4_3) k1⟩] [(q4_3,(.l 0))]))))))) (.seq 
(.reg [⟨none, .call (.c (.fn 309 [])) [(.t q4_2),k1,(.t q4_0)]⟩,⟨none, .store 6 (.t q4_1) (.l 0)⟩] []) .ret)))), [(q4_1, some (6,true))]⟩
def a365 : FN := ⟨full 3, [some q3_1,some q3_0], (.seq 
(.reg [] [(q3_5,(.c (.str [])))]) (.seq (.seq 
(.reg [⟨none, .bin .lt (.t q3_0) k0⟩,⟨(some ((.l 0),false)), .mov (.t q3_0)⟩,⟨(some ((.l 1),false)), .bin .ge (.l 0) k4⟩,⟨none, .pick (.l 2) (.c (.bool true)) (.l 0)⟩,⟨(some ((.l 0),false)), .mov (.t q3_1)⟩,⟨(some ((.l 1),false)), .lens (.l 0)⟩,⟨(some ((.l 2),false)), .bin .gt (.l 0) (.c (.int .i64 (.ofNat 128)))⟩,⟨none, .pick (.l 3) (.c (.bool true)) (.l 0)⟩] [(q3_3,(.l 0))]) (.cond (.t q3_3) (.seq 
(.reg [] [(q3_5,(.c (.str [])))]) .ret) .skip)) (.seq 
(.reg [⟨none, .lens (.t q3_1)⟩,⟨none, .bin .sub (.c (.int .i64 (.ofNat 128))) (.l 0)⟩,⟨none, .call (.c (.fn 376 [])) [(.l 0)]⟩,⟨none, .bin .add (.t q3_1) (.l 0)⟩] [(q3_1,(.l 0))]) (.seq (.seq 
(.reg [⟨none, .bin .mul (.t q3_0) (.c (.int .i64 (.ofNat 32)))⟩,⟨none, .slc 0 (.t q3_1) (some (.l 0)) none none⟩,⟨none, .slc 0 (.l 0) none (some (.c (.int .i64 (.ofNat 32)))) none⟩] [(q3_2,(.l 0))]) (.seq 
(.reg [⟨none, .call (.c (.fn 376 [])) [(.c (.int .i64 (.ofNat 32)))]⟩,⟨none, .bin .ne (.t q3_2) (.l 0)⟩] [(q3_4,(.l 0))]) (.cond (.t q3_4) (.seq 
(.reg [] [(q3_5,(.t q3_2))]) .ret) .skip))) (.seq 
(.reg [] [(q3_5,(.c (.str [])))]) .ret))))), [(q3_5, none)]⟩
def a366 : FN := ⟨full 4, [some q4_0,some q4_1], (.seq 
(.reg [] [(q4_8,(.c (.bool false)))]) (.seq (.seq 
(.reg [⟨none, .len (.t q4_0)⟩,⟨none, .len (.t q4_1)⟩,⟨none, .bin .ne (.l 1) (.l 0)⟩] [(q4_5,(.l 0))]) (.cond (.t q4_5) (.seq 
(.reg [] [(q4_8,(.c (.bool false)))]) .ret) .skip)) (.seq (.seq 
(.reg [⟨none, .len (.t q4_0)⟩] [(q4_2,k0),(q4_3,(.l 0))]) (.block 0 (.loop (.seq 
(.reg [⟨none, .bin .lt (.t q4_2) (.t q4_3)⟩] [(q4_6,(.l 0))]) (.seq (.cond (.t q4_6) .skip (.exit 0)) (.seq (.block 1 (.seq 
(.reg [] [(q4_4,(.t q4_2))]) (.seq 
(.drw [(⟨none, .ia 6 (.t q4_0) (.t q4_4)⟩,[]),(⟨none, .load 6 true (.l 0)⟩,[]),(⟨none, .ia 6 (.t q4_1) (.t q4_4)⟩,[]),(⟨none, .load 6 true (.l 0)⟩,[]),(⟨none, .eqa [1, 1, 1, 1, 1, 1] true (.l 2) (.l 0)⟩,[])] [(q4_7,(.l 0))]) (.cond (.t q4_7) (.seq 
(.reg [] [(q4_8,(.c (.bool false)))]) .ret) .skip)))) 
(.reg [⟨none, .bin .add (.t q4_2) k1⟩] [(q4_2,(.l 0))]))))))) (.seq 
(.reg [] [(q4_8,(.c (.bool true)))]) .ret)))), [(q4_8, none)]⟩
def a367 : FN := ⟨full 3, [some q3_0,some q3_1], (.seq 
(.reg [⟨none, .box (.t q3_0)⟩] [(q3_2,(.l 0)),(q3_4,(.c .nilsl))]) (.seq (.seq 
(.reg [⟨none, .fa 0 (.t q3_2)⟩,⟨none, .fa 4 (.l 0)⟩,⟨none, .load 1 false (.l 0)⟩,⟨none, .len (.l 0)⟩,⟨none, .bin .ge (.t q3_1) (.l 0)⟩,⟨(some ((.l 0),false)), .fa 12 (.t q3_2)⟩,⟨(some ((.l 1),false)), .load 1 false (.l 0)⟩,⟨(some ((.l 2),false)), .len (.l 0)⟩,⟨(some ((.l 3),false)), .mov (.t q3_1)⟩,⟨(some ((.l 4),false)), .bin .add (.l 0) k1⟩,⟨(some ((.l 5),false)), .bin .mul (.l 0) k4⟩,⟨(some ((.l 6),false)), .bin .lt (.l 3) (.l 0)⟩,⟨none, .pick (.l 7) (.c (.bool true)) (.l 0)⟩] [(q3_3,(.l 0))]) (.cond (.t q3_3) (.seq 
(.reg [] [(q3_4,(.c .nilsl))]) .ret) .skip)) (.seq 
(.reg [⟨none, .fa 12 (.t q3_2)⟩,⟨none, .load 1 false (.l 0)⟩,⟨none, .bin .mul (.t q3_1) k4⟩,⟨none, .slc 6 (.l 1) (some (.l 0)) none none⟩,⟨none, .slc 6 (.l 0) none (some k4) none⟩] [(q3_4,(.l 0))]) .ret))), [(q3_4, none)]⟩
def a375 : FN := ⟨full 1, [some q1_0], (.seq 
(.reg [] [(q1_1,(.c (.bool false)))]) (.seq 
(.reg [⟨none, .bin .ne (.t q1_0) (.t q1_0)⟩] [(q1_1,(.l 0))]) .ret)), [(q1_1, none)]⟩
def a376 : FN := ⟨full 1, [some q1_0], (.seq 
(.reg [] [(q1_1,(.c (.str [])))]) (.seq 
(.reg [⟨none, .mx (.t q1_0) k0⟩,⟨none, .call (.c (.fn 229 [])) [(.c (.str [0])),(.l 0)]⟩] [(q1_1,(.l 0))]) .ret)), [(q1_1, none)]⟩
end Go.Pal
