/-
  The small code of the program: its functions, printed by a program of our own.
-/
import Derived.Test.YtbnpcjbjcjlbnaaGreatDoorFk
namespace Go.Proofs
end Go.Proofs
namespace Go.Pal
open Go.Proofs
set_option maxRecDepth 100000
def a3 : FN := ⟨full 5, [], (.seq 
(.reg [] [(q5_20,(.c (.bool false)))]) (.seq (.seq 
(.reg [⟨none, .call (.c (.fn 4 [])) []⟩,⟨none, .not (.l 0)⟩] [(q5_16,(.l 0))]) (.cond (.t q5_16) (.seq 
(.reg [] [(q5_20,(.c (.bool false)))]) .ret) .skip)) (.seq 
(.reg [⟨none, .call (.c (.fn 5 [])) [(.c (.int .i64 (.ofNat 40))),(.c (.int .i64 (.ofNat 9)))]⟩,⟨none, .ext (.l 0) 0⟩,⟨none, .ext (.l 1) 1⟩,⟨none, .box (.c (.agg [.nilsl,.nilsl,(.int .i64 (.ofNat 0)),(.int .i64 (.ofNat 0)),(.bool false),(.int .i64 (.ofNat 0)),(.int .i64 (.ofNat 0)),(.int .u32 (.ofNat 0)),(.int .u32 (.ofNat 0)),(.int .u32 (.ofNat 0)),(.int .u32 (.ofNat 0)),(.int .i64 (.ofNat 0)),(.int .i64 (.ofNat 0)),(.int .i64 (.ofNat 0)),(.int .i64 (.ofNat 0)),(.int .i64 (.ofNat 0)),(.int .u32 (.ofNat 0)),(.int .u32 (.ofNat 0)),(.int .u32 (.ofNat 0)),(.int .u32 (.ofNat 0)),(.int .i64 (.ofNat 0)),(.int .i64 (.ofNat 0)),(.int .u32 (.ofNat 0)),(.int .u32 (.ofNat 0)),(.int .u32 (.ofNat 0)),(.int .u32 (.ofNat 0)),(.int .i64 (.ofNat 0)),(.int .i64 (.ofNat 0)),(.int .u32 (.ofNat 0)),(.int .u32 (.ofNat 0)),(.int .u32 (.ofNat 0)),(.int .u32 (.ofNat 0)),(.int .i64 (.ofNat 0)),.nilsl,.nilsl,.nilsl,.nilsl,(.int .i64 (.ofNat 0)),(.int .i64 (.ofNat 0)),.nilsl,(.bool false)]))⟩,⟨none, .store 41 (.l 0) (.l 2)⟩] [(q5_0,(.l 1)),(q5_8,(.l 2))]) (.seq 
(.reg [⟨none, .call (.c (.fn 5 [])) [(.c (.int .i64 (.ofNat 241))),(.c (.int .i64 (.ofNat 9)))]⟩,⟨none, .ext (.l 0) 0⟩,⟨none, .ext (.l 1) 1⟩,⟨none, .box (.c (.agg [.nilsl,.nilsl,(.int .i64 (.ofNat 0)),(.int .i64 (.ofNat 0)),(.bool false),(.int .i64 (.ofNat 0)),(.int .i64 (.ofNat 0)),(.int .u32 (.ofNat 0)),(.int .u32 (.ofNat 0)),(.int .u32 (.ofNat 0)),(.int .u32 (.ofNat 0)),(.int .i64 (.ofNat 0)),(.int .i64 (.ofNat 0)),(.int .i64 (.ofNat 0)),(.int .i64 (.ofNat 0)),(.int .i64 (.ofNat 0)),(.int .u32 (.ofNat 0)),(.int .u32 (.ofNat 0)),(.int .u32 (.ofNat 0)),(.int .u32 (.ofNat 0)),(.int .i64 (.ofNat 0)),(.int .i64 (.ofNat 0)),(.int .u32 (.ofNat 0)),(.int .u32 (.ofNat 0)),(.int .u32 (.ofNat 0)),(.int .u32 (.ofNat 0)),(.int .i64 (.ofNat 0)),(.int .i64 (.ofNat 0)),(.int .u32 (.ofNat 0)),(.int .u32 (.ofNat 0)),(.int .u32 (.ofNat 0)),(.int .u32 (.ofNat 0)),(.int .i64 (.ofNat 0)),.nilsl,.nilsl,.nilsl,.nilsl,(.int .i64 (.ofNat 0)),(.int .i64 (.ofNat 0)),.nilsl,(.bool false)]))⟩,⟨none, .store 41 (.l 0) (.l 2)⟩] [(q5_9,(.l 2))]) (.seq 
(.reg [⟨none, .call (.c (.fn 5 [])) [(.c (.int .i64 (.ofNat 40))),(.c (.int .i64 (.negSucc 0)))]⟩,⟨none, .ext (.l 0) 0⟩,⟨none, .ext (.l 1) 1⟩,⟨none, .box (.c (.agg [.nilsl,.nilsl,(.int .i64 (.ofNat 0)),(.int .i64 (.ofNat 0)),(.bool false),(.int .i64 (.ofNat 0)),(.int .i64 (.ofNat 0)),(.int .u32 (.ofNat 0)),(.int .u32 (.ofNat 0)),(.int .u32 (.ofNat 0)),(.int .u32 (.ofNat 0)),(.int .i64 (.ofNat 0)),(.int .i64 (.ofNat 0)),(.int .i64 (.ofNat 0)),(.int .i64 (.ofNat 0)),(.int .i64 (.ofNat 0)),(.int .u32 (.ofNat 0)),(.int .u32 (.ofNat 0)),(.int .u32 (.ofNat 0)),(.int .u32 (.ofNat 0)),(.int .i64 (.ofNat 0)),(.int .i64 (.ofNat 0)),(.int .u32 (.ofNat 0)),(.int .u32 (.ofNat 0)),(.int .u32 (.ofNat 0)),(.int .u32 (.ofNat 0)),(.int .i64 (.ofNat 0)),(.int .i64 (.ofNat 0)),(.int .u32 (.ofNat 0)),(.int .u32 (.ofNat 0)),(.int .u32 (.ofNat 0)),(.int .u32 (.ofNat 0)),(.int .i64 (.ofNat 0)),.nilsl,.nilsl,.nilsl,.nilsl,(.int .i64 (.ofNat 0)),(.int .i64 (.ofNat 0)),.nilsl,(.bool false)]))⟩,⟨none, .store 41 (.l 0) (.l 2)⟩] [(q5_10,(.l 2))]) (.seq 
(.reg [⟨none, .call (.c (.fn 5 [])) [(.c (.int .i64 (.ofNat 40))),(.c (.int .i64 (.ofNat 1073741825)))]⟩,⟨none, .ext (.l 0) 0⟩,⟨none, .ext (.l 1) 1⟩,⟨none, .box (.c (.agg [.nilsl,.nilsl,(.int .i64 (.ofNat 0)),(.int .i64 (.ofNat 0)),(.bool false),(.int .i64 (.ofNat 0)),(.int .i64 (.ofNat 0)),(.int .u32 (.ofNat 0)),(.int .u32 (.ofNat 0)),(.int .u32 (.ofNat 0)),(.int .u32 (.ofNat 0)),(.int .i64 (.ofNat 0)),(.int .i64 (.ofNat 0)),(.int .i64 (.ofNat 0)),(.int .i64 (.ofNat 0)),(.int .i64 (.ofNat 0)),(.int .u32 (.ofNat 0)),(.int .u32 (.ofNat 0)),(.int .u32 (.ofNat 0)),(.int .u32 (.ofNat 0)),(.int .i64 (.ofNat 0)),(.int .i64 (.ofNat 0)),(.int .u32 (.ofNat 0)),(.int .u32 (.ofNat 0)),(.int .u32 (.ofNat 0)),(.int .u32 (.ofNat 0)),(.int .i64 (.ofNat 0)),(.int .i64 (.ofNat 0)),(.int .u32 (.ofNat 0)),(.int .u32 (.ofNat 0)),(.int .u32 (.ofNat 0)),(.int .u32 (.ofNat 0)),(.int .i64 (.ofNat 0)),.nilsl,.nilsl,.nilsl,.nilsl,(.int .i64 (.ofNat 0)),(.int .i64 (.ofNat 0)),.nilsl,(.bool false)]))⟩,⟨none, .store 41 (.l 0) (.l 2)⟩] [(q5_11,(.l 2))]) (.seq 
(.reg [⟨none, .load 41 true (.t q5_0)⟩,⟨none, .call (.c (.fn 6 [])) [(.l 0),(.c (.bool true))]⟩,⟨none, .ext (.l 0) 0⟩,⟨none, .ext (.l 1) 1⟩,⟨none, .box (.c (.agg [.nilsl,.nilsl,(.int .i64 (.ofNat 0)),(.int .i64 (.ofNat 0)),(.bool false),(.int .i64 (.ofNat 0)),(.int .i64 (.ofNat 0)),(.int .u32 (.ofNat 0)),(.int .u32 (.ofNat 0)),(.int .u32 (.ofNat 0)),(.int .u32 (.ofNat 0)),(.int .i64 (.ofNat 0)),(.int .i64 (.ofNat 0)),(.int .i64 (.ofNat 0)),(.int .i64 (.ofNat 0)),(.int .i64 (.ofNat 0)),(.int .u32 (.ofNat 0)),(.int .u32 (.ofNat 0)),(.int .u32 (.ofNat 0)),(.int .u32 (.ofNat 0)),(.int .i64 (.ofNat 0)),(.int .i64 (.ofNat 0)),(.int .u32 (.ofNat 0)),(.int .u32 (.ofNat 0)),(.int .u32 (.ofNat 0)),(.int .u32 (.ofNat 0)),(.int .i64 (.ofNat 0)),(.int .i64 (.ofNat 0)),(.int .u32 (.ofNat 0)),(.int .u32 (.ofNat 0)),(.int .u32 (.ofNat 0)),(.int .u32 (.ofNat 0)),(.int .i64 (.ofNat 0)),.nilsl,.nilsl,.nilsl,.nilsl,(.int .i64 (.ofNat 0)),(.int .i64 (.ofNat 0)),.nilsl,(.bool false)]))⟩,⟨none, .store 41 (.l 0) (.l 2)⟩] [(q5_3,(.l 1)),(q5_12,(.l 2))]) (.seq 
(.reg [⟨none, .load 41 true (.t q5_0)⟩,⟨none, .box (.c (.agg [.nilsl,.nilsl,(.int .i64 (.ofNat 0)),(.int .i64 (.ofNat 0)),(.bool false),(.int .i64 (.ofNat 0)),(.int .i64 (.ofNat 0)),(.int .u32 (.ofNat 0)),(.int .u32 (.ofNat 0)),(.int .u32 (.ofNat 0)),(.int .u32 (.ofNat 0)),(.int .i64 (.ofNat 0)),(.int .i64 (.ofNat 0)),(.int .i64 (.ofNat 0)),(.int .i64 (.ofNat 0)),(.int .i64 (.ofNat 0)),(.int .u32 (.ofNat 0)),(.int .u32 (.ofNat 0)),(.int .u32 (.ofNat 0)),(.int .u32 (.ofNat 0)),(.int .i64 (.ofNat 0)),(.int .i64 (.ofNat 0)),(.int .u32 (.ofNat 0)),(.int .u32 (.ofNat 0)),(.int .u32 (.ofNat 0)),(.int .u32 (.ofNat 0)),(.int .i64 (.ofNat 0)),(.int .i64 (.ofNat 0)),(.int .u32 (.ofNat 0)),(.int .u32 (.ofNat 0)),(.int .u32 (.ofNat 0)),(.int .u32 (.ofNat 0)),(.int .i64 (.ofNat 0)),.nilsl,.nilsl,.nilsl,.nilsl,(.int .i64 (.ofNat 0)),(.int .i64 (.ofNat 0)),.nilsl,(.bool false)]))⟩,⟨none, .store 41 (.l 0) (.l 1)⟩] [(q5_1,(.l 1))]) (.seq 
(.reg [⟨none, .fa 38 (.t q5_1)⟩,⟨none, .store 1 (.l 0) (.c (.int .i64 (.ofNat 1073741824)))⟩] []) (.seq 
(.reg [⟨none, .load 41 true (.t q5_1)⟩,⟨none, .call (.c (.fn 6 [])) [(.l 0),(.c (.bool true))]⟩,⟨none, .ext (.l 0) 0⟩,⟨none, .ext (.l 1) 1⟩,⟨none, .box (.c (.agg [.nilsl,.nilsl,(.int .i64 (.ofNat 0)),(.int .i64 (.ofNat 0)),(.bool false),(.int .i64 (.ofNat 0)),(.int .i64 (.ofNat 0)),(.int .u32 (.ofNat 0)),(.int .u32 (.ofNat 0)),(.int .u32 (.ofNat 0)),(.int .u32 (.ofNat 0)),(.int .i64 (.ofNat 0)),(.int .i64 (.ofNat 0)),(.int .i64 (.ofNat 0)),(.int .i64 (.ofNat 0)),(.int .i64 (.ofNat 0)),(.int .u32 (.ofNat 0)),(.int .u32 (.ofNat 0)),(.int .u32 (.ofNat 0)),(.int .u32 (.ofNat 0)),(.int .i64 (.ofNat 0)),(.int .i64 (.ofNat 0)),(.int .u32 (.ofNat 0)),(.int .u32 (.ofNat 0)),(.int .u32 (.ofNat 0)),(.int .u32 (.ofNat 0)),(.int .i64 (.ofNat 0)),(.int .i64 (.ofNat 0)),(.int .u32 (.ofNat 0)),(.int .u32 (.ofNat 0)),(.int .u32 (.ofNat 0)),(.int .u32 (.ofNat 0)),(.int .i64 (.ofNat 0)),.nilsl,.nilsl,.nilsl,.nilsl,(.int .i64 (.ofNat 0)),(.int .i64 (.ofNat 0)),.nilsl,(.bool false)]))⟩,⟨none, .store 41 (.l 0) (.l 2)⟩] [(q5_13,(.l 2))]) (.seq 
(.reg [⟨none, .load 41 true (.t q5_0)⟩,⟨none, .box (.c (.agg [.nilsl,.nilsl,(.int .i64 (.ofNat 0)),(.int .i64 (.ofNat 0)),(.bool false),(.int .i64 (.ofNat 0)),(.int .i64 (.ofNat 0)),(.int .u32 (.ofNat 0)),(.int .u32 (.ofNat 0)),(.int .u32 (.ofNat 0)),(.int .u32 (.ofNat 0)),(.int .i64 (.ofNat 0)),(.int .i64 (.ofNat 0)),(.int .i64 (.ofNat 0)),(.int .i64 (.ofNat 0)),(.int .i64 (.ofNat 0)),(.int .u32 (.ofNat 0)),(.int .u32 (.ofNat 0)),(.int .u32 (.ofNat 0)),(.int .u32 (.ofNat 0)),(.int .i64 (.ofNat 0)),(.int .i64 (.ofNat 0)),(.int .u32 (.ofNat 0)),(.int .u32 (.ofNat 0)),(.int .u32 (.ofNat 0)),(.int .u32 (.ofNat 0)),(.int .i64 (.ofNat 0)),(.int .i64 (.ofNat 0)),(.int .u32 (.ofNat 0)),(.int .u32 (.ofNat 0)),(.int .u32 (.ofNat 0)),(.int .u32 (.ofNat 0)),(.int .i64 (.ofNat 0)),.nilsl,.nilsl,.nilsl,.nilsl,(.int .i64 (.ofNat 0)),(.int .i64 (.ofNat 0)),.nilsl,(.bool false)]))⟩,⟨none, .store 41 (.l 0) (.l 1)⟩] [(q5_2,(.l 1))]) (.seq 
(.reg [⟨none, .fa 39 (.t q5_2)⟩,⟨none, .store 1 (.l 0) (.c .nilsl)⟩] []) (.seq 
(.reg [⟨none, .load 41 true (.t q5_2)⟩,⟨none, .call (.c (.fn 6 [])) [(.l 0),(.c (.bool true))]⟩,⟨none, .ext (.l 0) 0⟩,⟨none, .ext (.l 1) 1⟩,⟨none, .box (.c (.agg [.nilsl,.nilsl,(.int .i64 (.ofNat 0)),(.int .i64 (.ofNat 0)),(.bool false),(.int .i64 (.ofNat 0)),(.int .i64 (.ofNat 0)),(.int .u32 (.ofNat 0)),(.int .u32 (.ofNat 0)),(.int .u32 (.ofNat 0)),(.int .u32 (.ofNat 0)),(.int .i64 (.ofNat 0)),(.int .i64 (.ofNat 0)),(.int .i64 (.ofNat 0)),(.int .i64 (.ofNat 0)),(.int .i64 (.ofNat 0)),(.int .u32 (.ofNat 0)),(.int .u32 (.ofNat 0)),(.int .u32 (.ofNat 0)),(.int .u32 (.ofNat 0)),(.int .i64 (.ofNat 0)),(.int .i64 (.ofNat 0)),(.int .u32 (.ofNat 0)),(.int .u32 (.ofNat 0)),(.int .u32 (.ofNat 0)),(.int .u32 (.ofNat 0)),(.int .i64 (.ofNat 0)),(.int .i64 (.ofNat 0)),(.int .u32 (.ofNat 0)),(.int .u32 (.ofNat 0)),(.int .u32 (.ofNat 0)),(.int .u32 (.ofNat 0)),(.int .i64 (.ofNat 0)),.nilsl,.nilsl,.nilsl,.nilsl,(.int .i64 (.ofNat 0)),(.int .i64 (.ofNat 0)),.nilsl,(.bool false)]))⟩,⟨none, .store 41 (.l 0) (.l 2)⟩] [(q5_14,(.l 2)),(q5_15,(.l 1))]) (.seq (.seq 
(.reg [⟨none, .fa 0 (.t q5_0)⟩,⟨none, .fa 0 (.l 0)⟩,⟨none, .load 1 false (.l 0)⟩,⟨none, .len (.l 0)⟩,⟨none, .bin .ne (.l 0) (.c (.int .i64 (.ofNat 68)))⟩,⟨(some ((.l 0),false)), .fa 39 (.t q5_0)⟩,⟨(some ((.l 1),false)), .load 1 false (.l 0)⟩,⟨(some ((.l 2),false)), .len (.l 0)⟩,⟨(some ((.l 3),false)), .bin .ne (.l 0) k1⟩,⟨none, .pick (.l 4) (.c (.bool true)) (.l 0)⟩,⟨(some ((.l 0),false)), .fa 33 (.t q5_0)⟩,⟨(some ((.l 1),false)), .fa 0 (.l 0)⟩,⟨(some ((.l 2),false)), .load 1 false (.l 0)⟩,⟨(some ((.l 3),false)), .len (.l 0)⟩,⟨(some ((.l 4),false)), .bin .ne (.l 0) k1⟩,⟨none, .pick (.l 5) (.c (.bool true)) (.l 0)⟩,⟨(some ((.l 0),false)), .fa 33 (.t q5_3)⟩,⟨(some ((.l 1),false)), .fa 1 (.l 0)⟩,⟨(some ((.l 2),false)), .load 1 false (.l 0)⟩,⟨(some ((.l 3),false)), .len (.l 0)⟩,⟨(some ((.l 4),false)), .bin .ne (.l 0) k1⟩,⟨none, .pick (.l 5) (.c (.bool true)) (.l 0)⟩] [(q5_17,(.l 0))]) (.cond (.t q5_17) (.seq 
(.reg [] [(q5_20,(.c (.bool false)))]) .ret) .skip)) (.seq (.seq 
(.reg [] [(q5_4,k0)]) (.block 0 (.loop (.seq (.seq 
(.reg [⟨none, .bin .lt (.t q5_4) k4⟩] [(q5_18,(.l 0))]) (.cond (.t q5_18) .skip (.exit 0))) (.seq (.block 1 (.seq 
(.drw [(⟨none, .call (.c (.fn 8 [])) [(.c (.int .i64 (.ofNat 40))),(.t q5_4)]⟩,[]),(⟨none, .fa 0 (.t q5_0)⟩,[0]),(⟨none, .load 5 true (.l 0)⟩,[0]),(⟨none, .call (.c (.fn 7 [])) [(.l 0),(.l 2)]⟩,[]),(⟨none, .ext (.l 0) 0⟩,[]),(⟨none, .ext (.l 1) 1⟩,[])] [(q5_5,(.l 1))]) (.seq 
(.drw [(⟨none, .call (.c (.fn 10 [])) [(.c (.int .i64 (.ofNat 40))),(.t q5_4),k1]⟩,[]),(⟨none, .fa 0 (.t q5_0)⟩,[0]),(⟨none, .fa 0 (.l 0)⟩,[0]),(⟨none, .load 1 false (.l 0)⟩,[0]),(⟨none, .ia 1 (.l 0) (.l 3)⟩,[]),(⟨none, .load 1 false (.l 0)⟩,[]),(⟨none, .call (.c (.fn 9 [])) [(.l 0)]⟩,[]),(⟨none, .ext (.l 0) 0⟩,[]),(⟨none, .box (.c (.agg [(.int .i64 (.ofNat 0)),(.int .i64 (.ofNat 0)),(.int .i64 (.ofNat 0)),(.int .i64 (.ofNat 0)),(.int .i64 (.ofNat 0)),(.int .u32 (.ofNat 0)),(.int .u32 (.ofNat 0)),(.int .u32 (.ofNat 0)),(.int .u32 (.ofNat 0))]))⟩,[6, 0]),(⟨none, .store 9 (.l 0) (.l 1)⟩,[]),(⟨none, .ext (.l 3) 1⟩,[9])] [(q5_6,(.l 0)),(q5_7,(.l 2))]) (.seq 
(.reg [⟨none, .call (.c (.fn 11 [])) [(.c (.int .i64 (.ofNat 9))),(.c (.int .i64 (.ofNat 40)))]⟩,⟨none, .bin .ne (.t q5_5) (.l 0)⟩,⟨(some ((.l 0),false)), .mov (.t q5_6)⟩,⟨(some ((.l 1),false)), .not (.l 0)⟩,⟨none, .pick (.l 2) (.c (.bool true)) (.l 0)⟩,⟨(some ((.l 0),false)), .fa 0 (.t q5_7)⟩,⟨(some ((.l 1),false)), .load 1 false (.l 0)⟩,⟨(some ((.l 2),false)), .bin .ne (.l 0) k1⟩,⟨none, .pick (.l 3) (.c (.bool true)) (.l 0)⟩,⟨(some ((.l 0),false)), .fa 1 (.t q5_7)⟩,⟨(some ((.l 1),false)), .load 1 false (.l 0)⟩,⟨(some ((.l 2),false)), .bin .ne (.l 0) (.c (.int .i64 (.ofNat 9)))⟩,⟨none, .pick (.l 3) (.c (.bool true)) (.l 0)⟩,⟨(some ((.l 0),false)), .fa 3 (.t q5_7)⟩,⟨(some ((.l 1),false)), .load 6 true (.l 0)⟩,⟨(some ((.l 2),false)), .fa 5 (.t q5_0)⟩,⟨(some ((.l 3),false)), .load 6 true (.l 0)⟩,⟨(some ((.l 4),false)), .eqa [1, 1, 1, 1, 1, 1] true (.l 2) (.l 0)⟩,⟨none, .pick (.l 5) (.c (.bool true)) (.l 0)⟩] [(q5_19,(.l 0))]) (.cond (.t q5_19) (.seq 
(.reg [] [(q5_20,(.c (.bool false)))]) .ret) .skip))))) 
(.reg [⟨none, .bin .add (.t q5_4) k1⟩] [(q5_4,(.l 0))])))))) (.seq 
(.drw [(⟨(some ((.t q5_8),true)), .mov (.t q5_9)⟩,[]),(⟨(some ((.t q5_8),true)), .not (.l 0)⟩,[]),(⟨none, .pick (.t q5_8) (.l 0) (.c (.bool false))⟩,[]),(⟨(some ((.l 0),true)), .mov (.t q5_10)⟩,[]),(⟨(some ((.l 1),true)), .not (.l 0)⟩,[]),(⟨none, .pick (.l 2) (.l 0) (.c (.bool false))⟩,[]),(⟨(some ((.l 0),true)), .mov (.t q5_11)⟩,[]),(⟨(some ((.l 1),true)), .not (.l 0)⟩,[]),(⟨none, .pick (.l 2) (.l 0) (.c (.bool false))⟩,[]),(⟨(some ((.l 0),true)), .fa 33 (.t q5_0)⟩,[]),(⟨(some ((.l 1),true)), .fa 0 (.l 0)⟩,[]),(⟨(some ((.l 2),true)), .load 1 false (.l 0)⟩,[]),(⟨(some ((.l 3),true)), .ia 2 (.l 0) k0⟩,[]),(⟨(some ((.l 4),true)), .load 2 true (.l 0)⟩,[]),(⟨(some ((.l 5),true)), .build [(.int .i64 (.ofNat 0)),(.int .i64 (.ofNat 0))] [(0,1,(.c (.int .i64 (.ofNat 14)))),(1,1,(.c (.int .i64 (.ofNat 19))))]⟩,[]),(⟨(some ((.l 6),true)), .eqa [1, 1] false (.l 1) (.l 0)⟩,[]),(⟨none, .pick (.l 7) (.l 0) (.c (.bool false))⟩,[]),(⟨(some ((.l 0),true)), .fa 5 (.t q5_0)⟩,[]),(⟨(some ((.l 1),true)), .fa 0 (.l 0)⟩,[]),(⟨(some ((.l 2),true)), .load 1 false (.l 0)⟩,[]),(⟨(some ((.l 3),true)), .bin .eq (.l 0) (.c (.int .i64 (.ofNat 18)))⟩,[]),(⟨none, .pick (.l 4) (.l 0) (.c (.bool false))⟩,[]),(⟨(some ((.l 0),true)), .fa 11 (.t q5_0)⟩,[]),(⟨(some ((.l 1),true)), .fa 1 (.l 0)⟩,[]),(⟨(some ((.l 2),true)), .load 1 false (.l 0)⟩,[]),(⟨(some ((.l 3),true)), .bin .eq (.l 0) k2⟩,[]),(⟨none, .pick (.l 4) (.l 0) (.c (.bool false))⟩,[]),(⟨(some ((.l 0),true)), .fa 11 (.t q5_0)⟩,[]),(⟨(some ((.l 1),true)), .fa 2 (.l 0)⟩,[]),(⟨(some ((.l 2),true)), .load 1 false (.l 0)⟩,[]),(⟨(some ((.l 3),true)), .bin .eq (.l 0) (.c (.int .i64 (.ofNat 9)))⟩,[]),(⟨none, .pick (.l 4) (.l 0) (.c (.bool false))⟩,[]),(⟨(some ((.l 0),true)), .fa 39 (.t q5_0)⟩,[]),(⟨(some ((.l 1),true)), .load 1 false (.l 0)⟩,[]),(⟨(some ((.l 2),true)), .ia 5 (.l 0) k0⟩,[]),(⟨(some ((.l 3),true)), .fa 0 (.l 0)⟩,[]),(⟨(some ((.l 4),true)), .load 1 false (.l 0)⟩,[]),(⟨(some ((.l 5),true)), .bin .eq (.l 0) k1⟩,[]),(⟨none, .pick (.l 6) (.l 0) (.c (.bool false))⟩,[]),(⟨(some ((.l 0),true)), .call (.c (.fn 13 [])) []⟩,[]),(⟨(some ((.l 1),true)), .fa 39 (.t q5_0)⟩,[39]),(⟨(some ((.l 2),true)), .load 1 false (.l 0)⟩,[39]),(⟨(some ((.l 3),true)), .ia 5 (.l 0) k0⟩,[39]),(⟨(some ((.l 4),true)), .fa 4 (.l 0)⟩,[39]),(⟨(some ((.l 5),true)), .load 1 false (.l 0)⟩,[39]),(⟨(some ((.l 6),true)), .call (.c (.fn 12 [])) [(.l 0),(.l 5)]⟩,[]),(⟨none, .pick (.l 7) (.l 0) (.c (.bool false))⟩,[]),(⟨(some ((.l 0),true)), .fa 0 (.t q5_0)⟩,[]),(⟨(some ((.l 1),true)), .fa 1 (.l 0)⟩,[]),(⟨(some ((.l 2),true)), .load 1 false (.l 0)⟩,[]),(⟨(some ((.l 3),true)), .len (.l 0)⟩,[]),(⟨(some ((.l 4),true)), .bin .eq (.l 0) k0⟩,[]),(⟨none, .pick (.l 5) (.l 0) (.c (.bool false))⟩,[]),(⟨(some ((.l 0),true)), .mov (.t q5_12)⟩,[]),(⟨(some ((.l 1),true)), .bin .eq (.l 0) k0⟩,[]),(⟨none, .pick (.l 2) (.l 0) (.c (.bool false))⟩,[]),(⟨(some ((.l 0),true)), .fa 33 (.t q5_3)⟩,[]),(⟨(some ((.l 1),true)), .fa 1 (.l 0)⟩,[]),(⟨(some ((.l 2),true)), .load 1 false (.l 0)⟩,[]),(⟨(some ((.l 3),true)), .ia 2 (.l 0) k0⟩,[]),(⟨(some ((.l 4),true)), .load 2 true (.l 0)⟩,[]),(⟨(some ((.l 5),true)), .build [(.int .i64 (.ofNat 0)),(.int .i64 (.ofNat 0))] [(0,1,(.c (.int .i64 (.ofNat 16)))),(1,1,(.c (.int .i64 (.ofNat 19))))]⟩,[]),(⟨(some ((.l 6),true)), .eqa [1, 1] false (.l 1) (.l 0)⟩,[]),(⟨none, .pick (.l 7) (.l 0) (.c (.bool false))⟩,[]),(⟨(some ((.l 0),true)), .fa 5 (.t q5_3)⟩,[]),(⟨(some ((.l 1),true)), .fa 0 (.l 0)⟩,[]),(⟨(some ((.l 2),true)), .load 1 false (.l 0)⟩,[]),(⟨(some ((.l 3),true)), .bin .eq (.l 0) (.c (.int .i64 (.ofNat 21)))⟩,[]),(⟨none, .pick (.l 4) (.l 0) (.c (.bool false))⟩,[]),(⟨(some ((.l 0),true)), .load 41 true (.t q5_3)⟩,[]),(⟨(some ((.l 1),true)), .call (.c (.fn 14 [])) [(.l 0)]⟩,[]),(⟨(some ((.l 2),true)), .bin .eq (.l 0) (.c (.int .i64 (.ofNat 32)))⟩,[]),(⟨none, .pick (.l 3) (.l 0) (.c (.bool false))⟩,[]),(⟨(some ((.l 0),true)), .mov (.t q5_13)⟩,[]),(⟨(some ((.l 1),true)), .bin .eq (.l 0) k8⟩,[]),(⟨none, .pick (.l 2) (.l 0) (.c (.bool false))⟩,[]),(⟨(some ((.l 0),true)), .mov (.t q5_14)⟩,[]),(⟨(some ((.l 1),true)), .bin .eq (.l 0) k0⟩,[]),(⟨none, .pick (.l 2) (.l 0) (.c (.bool false))⟩,[]),(⟨(some ((.l 0),true)), .fa 39 (.t q5_15)⟩,[]),(⟨(some ((.l 1),true)), .load 1 false (.l 0)⟩,[]),(⟨(some ((.l 2),true)), .len (.l 0)⟩,[]),(⟨(some ((.l 3),true)), .bin .eq (.l 0) k0⟩,[]),(⟨none, .pick (.l 4) (.l 0) (.c (.bool false))⟩,[]),(⟨(some ((.l 0),true)), .load 41 true (.t q5_15)⟩,[]),(⟨(some ((.l 1),true)), .call (.c (.fn 14 [])) [(.l 0)]⟩,[]),(⟨(some ((.l 2),true)), .bin .eq (.l 0) (.c (.int .i64 (.ofNat 32)))⟩,[]),(⟨none, .pick (.l 3) (.l 0) (.c (.bool false))⟩,[])] [(q5_20,(.l 0))]) .ret)))))))))))))))), [(q5_20, none)]⟩
def a4 : FN := ⟨full 3, [], (.seq 
(.reg [] [(q3_5,(.c (.bool false)))]) (.seq 
(.reg [⟨none, .call (.c (.fn 5 [])) [(.c (.int .i64 (.ofNat 40))),k7]⟩,⟨none, .ext (.l 0) 0⟩,⟨none, .ext (.l 1) 1⟩,⟨none, .box (.c (.agg [.nilsl,.nilsl,(.int .i64 (.ofNat 0)),(.int .i64 (.ofNat 0)),(.bool false),(.int .i64 (.ofNat 0)),(.int .i64 (.ofNat 0)),(.int .u32 (.ofNat 0)),(.int .u32 (.ofNat 0)),(.int .u32 (.ofNat 0)),(.int .u32 (.ofNat 0)),(.int .i64 (.ofNat 0)),(.int .i64 (.ofNat 0)),(.int .i64 (.ofNat 0)),(.int .i64 (.ofNat 0)),(.int .i64 (.ofNat 0)),(.int .u32 (.ofNat 0)),(.int .u32 (.ofNat 0)),(.int .u32 (.ofNat 0)),(.int .u32 (.ofNat 0)),(.int .i64 (.ofNat 0)),(.int .i64 (.ofNat 0)),(.int .u32 (.ofNat 0)),(.int .u32 (.ofNat 0)),(.int .u32 (.ofNat 0)),(.int .u32 (.ofNat 0)),(.int .i64 (.ofNat 0)),(.int .i64 (.ofNat 0)),(.int .u32 (.ofNat 0)),(.int .u32 (.ofNat 0)),(.int .u32 (.ofNat 0)),(.int .u32 (.ofNat 0)),(.int .i64 (.ofNat 0)),.nilsl,.nilsl,.nilsl,.nilsl,(.int .i64 (.ofNat 0)),(.int .i64 (.ofNat 0)),.nilsl,(.bool false)]))⟩,⟨none, .store 41 (.l 0) (.l 2)⟩] [(q3_0,(.l 1)),(q3_1,(.l 2))]) (.seq 
(.reg [⟨none, .call (.c (.fn 5 [])) [(.c (.int .i64 (.ofNat 39))),k7]⟩,⟨none, .ext (.l 0) 0⟩,⟨none, .ext (.l 1) 1⟩,⟨none, .box (.c (.agg [.nilsl,.nilsl,(.int .i64 (.ofNat 0)),(.int .i64 (.ofNat 0)),(.bool false),(.int .i64 (.ofNat 0)),(.int .i64 (.ofNat 0)),(.int .u32 (.ofNat 0)),(.int .u32 (.ofNat 0)),(.int .u32 (.ofNat 0)),(.int .u32 (.ofNat 0)),(.int .i64 (.ofNat 0)),(.int .i64 (.ofNat 0)),(.int .i64 (.ofNat 0)),(.int .i64 (.ofNat 0)),(.int .i64 (.ofNat 0)),(.int .u32 (.ofNat 0)),(.int .u32 (.ofNat 0)),(.int .u32 (.ofNat 0)),(.int .u32 (.ofNat 0)),(.int .i64 (.ofNat 0)),(.int .i64 (.ofNat 0)),(.int .u32 (.ofNat 0)),(.int .u32 (.ofNat 0)),(.int .u32 (.ofNat 0)),(.int .u32 (.ofNat 0)),(.int .i64 (.ofNat 0)),(.int .i64 (.ofNat 0)),(.int .u32 (.ofNat 0)),(.int .u32 (.ofNat 0)),(.int .u32 (.ofNat 0)),(.int .u32 (.ofNat 0)),(.int .i64 (.ofNat 0)),.nilsl,.nilsl,.nilsl,.nilsl,(.int .i64 (.ofNat 0)),(.int .i64 (.ofNat 0)),.nilsl,(.bool false)]))⟩,⟨none, .store 41 (.l 0) (.l 2)⟩] [(q3_2,(.l 2))]) (.seq 
(.reg [⟨none, .load 41 true (.t q3_0)⟩,⟨none, .call (.c (.fn 6 [])) [(.l 0),(.c (.bool false))]⟩,⟨none, .ext (.l 0) 0⟩,⟨none, .ext (.l 1) 1⟩,⟨none, .box (.c (.agg [.nilsl,.nilsl,(.int .i64 (.ofNat 0)),(.int .i64 (.ofNat 0)),(.bool false),(.int .i64 (.ofNat 0)),(.int .i64 (.ofNat 0)),(.int .u32 (.ofNat 0)),(.int .u32 (.ofNat 0)),(.int .u32 (.ofNat 0)),(.int .u32 (.ofNat 0)),(.int .i64 (.ofNat 0)),(.int .i64 (.ofNat 0)),(.int .i64 (.ofNat 0)),(.int .i64 (.ofNat 0)),(.int .i64 (.ofNat 0)),(.int .u32 (.ofNat 0)),(.int .u32 (.ofNat 0)),(.int .u32 (.ofNat 0)),(.int .u32 (.ofNat 0)),(.int .i64 (.ofNat 0)),(.int .i64 (.ofNat 0)),(.int .u32 (.ofNat 0)),(.int .u32 (.ofNat 0)),(.int .u32 (.ofNat 0)),(.int .u32 (.ofNat 0)),(.int .i64 (.ofNat 0)),(.int .i64 (.ofNat 0)),(.int .u32 (.ofNat 0)),(.int .u32 (.ofNat 0)),(.int .u32 (.ofNat 0)),(.int .u32 (.ofNat 0)),(.int .i64 (.ofNat 0)),.nilsl,.nilsl,.nilsl,.nilsl,(.int .i64 (.ofNat 0)),(.int .i64 (.ofNat 0)),.nilsl,(.bool false)]))⟩,⟨none, .store 41 (.l 0) (.l 2)⟩] [(q3_3,(.l 2)),(q3_4,(.l 1))]) (.seq 
(.reg [⟨(some ((.t q3_1),true)), .mov (.t q3_2)⟩,⟨(some ((.t q3_1),true)), .not (.l 0)⟩,⟨none, .pick (.t q3_1) (.l 0) (.c (.bool false))⟩,⟨(some ((.l 0),true)), .fa 38 (.t q3_0)⟩,⟨(some ((.l 1),true)), .load 1 false (.l 0)⟩,⟨(some ((.l 2),true)), .bin .eq (.l 0) k1⟩,⟨none, .pick (.l 3) (.l 0) (.c (.bool false))⟩,⟨(some ((.l 0),true)), .fa 37 (.t q3_0)⟩,⟨(some ((.l 1),true)), .load 1 false (.l 0)⟩,⟨(some ((.l 2),true)), .bin .eq (.l 0) k1⟩,⟨none, .pick (.l 3) (.l 0) (.c (.bool false))⟩,⟨(some ((.l 0),true)), .fa 39 (.t q3_0)⟩,⟨(some ((.l 1),true)), .load 1 false (.l 0)⟩,⟨(some ((.l 2),true)), .len (.l 0)⟩,⟨(some ((.l 3),true)), .bin .eq (.l 0) k1⟩,⟨none, .pick (.l 4) (.l 0) (.c (.bool false))⟩,⟨(some ((.l 0),true)), .mov (.t q3_3)⟩,⟨(some ((.l 1),true)), .bin .eq (.l 0) k0⟩,⟨none, .pick (.l 2) (.l 0) (.c (.bool false))⟩,⟨(some ((.l 0),true)), .fa 38 (.t q3_4)⟩,⟨(some ((.l 1),true)), .load 1 false (.l 0)⟩,⟨(some ((.l 2),true)), .bin .eq (.l 0) k2⟩,⟨none, .pick (.l 3) (.l 0) (.c (.bool false))⟩,⟨(some ((.l 0),true)), .fa 11 (.t q3_4)⟩,⟨(some ((.l 1),true)), .fa 0 (.l 0)⟩,⟨(some ((.l 2),true)), .load 1 false (.l 0)⟩,⟨(some ((.l 3),true)), .bin .eq (.l 0) k2⟩,⟨none, .pick (.l 4) (.l 0) (.c (.bool false))⟩,⟨(some ((.l 0),true)), .load 41 true (.t q3_0)⟩,⟨(some ((.l 1),true)), .load 41 true (.t q3_0)⟩,⟨(some ((.l 2),true)), .call (.c (.fn 15 [])) [(.l 1),(.l 0)]⟩,⟨none, .pick (.l 3) (.l 0) (.c (.bool false))⟩,⟨(some ((.l 0),true)), .load 41 true (.t q3_0)⟩,⟨(some ((.l 1),true)), .load 41 true (.t q3_4)⟩,⟨(some ((.l 2),true)), .call (.c (.fn 15 [])) [(.l 1),(.l 0)]⟩,⟨(some ((.l 3),true)), .not (.l 0)⟩,⟨none, .pick (.l 4) (.l 0) (.c (.bool false))⟩,⟨(some ((.l 0),true)), .load 41 true (.t q3_0)⟩,⟨(some ((.l 1),true)), .call (.c (.fn 14 [])) [(.l 0)]⟩,⟨(some ((.l 2),true)), .bin .eq (.l 0) (.c (.int .i64 (.ofNat 35)))⟩,⟨none, .pick (.l 3) (.l 0) (.c (.bool false))⟩] [(q3_5,(.l 0))]) .ret))))), [(q3_5, none)]⟩
def a5 : FN := ⟨full 4, [some q4_1,some q4_0], (.seq 
(.reg [⟨none, .box (.c (.agg [.nilsl,.nilsl,(.int .i64 (.ofNat 0)),(.int .i64 (.ofNat 0)),(.bool false),(.int .i64 (.ofNat 0)),(.int .i64 (.ofNat 0)),(.int .u32 (.ofNat 0)),(.int .u32 (.ofNat 0)),(.int .u32 (.ofNat 0)),(.int .u32 (.ofNat 0)),(.int .i64 (.ofNat 0)),(.int .i64 (.ofNat 0)),(.int .i64 (.ofNat 0)),(.int .i64 (.ofNat 0)),(.int .i64 (.ofNat 0)),(.int .u32 (.ofNat 0)),(.int .u32 (.ofNat 0)),(.int .u32 (.ofNat 0)),(.int .u32 (.ofNat 0)),(.int .i64 (.ofNat 0)),(.int .i64 (.ofNat 0)),(.int .u32 (.ofNat 0)),(.int .u32 (.ofNat 0)),(.int .u32 (.ofNat 0)),(.int .u32 (.ofNat 0)),(.int .i64 (.ofNat 0)),(.int .i64 (.ofNat 0)),(.int .u32 (.ofNat 0)),(.int .u32 (.ofNat 0)),(.int .u32 (.ofNat 0)),(.int .u32 (.ofNat 0)),(.int .i64 (.ofNat 0)),.nilsl,.nilsl,.nilsl,.nilsl,(.int .i64 (.ofNat 0)),(.int .i64 (.ofNat 0)),.nilsl,(.bool false)]))⟩] [(q4_3,(.l 0)),(q4_13,(.c (.bool false)))]) (.seq 
(.reg [⟨none, .call (.c (.fn 16 [])) [(.t q4_0),(.t q4_1)]⟩] [(q4_2,(.l 0))]) (.seq (.seq 
(.reg [⟨none, .bin .eq (.t q4_2) (.c (.str []))⟩] [(q4_10,(.l 0))]) (.cond (.t q4_10) (.seq 
(.reg [⟨none, .build [.nilsl,.nilsl,(.int .i64 (.ofNat 0)),(.int .i64 (.ofNat 0)),(.bool false),(.int .i64 (.ofNat 0)),(.int .i64 (.ofNat 0)),(.int .u32 (.ofNat 0)),(.int .u32 (.ofNat 0)),(.int .u32 (.ofNat 0)),(.int .u32 (.ofNat 0)),(.int .i64 (.ofNat 0)),(.int .i64 (.ofNat 0)),(.int .i64 (.ofNat 0)),(.int .i64 (.ofNat 0)),(.int .i64 (.ofNat 0)),(.int .u32 (.ofNat 0)),(.int .u32 (.ofNat 0)),(.int .u32 (.ofNat 0)),(.int .u32 (.ofNat 0)),(.int .i64 (.ofNat 0)),(.int .i64 (.ofNat 0)),(.int .u32 (.ofNat 0)),(.int .u32 (.ofNat 0)),(.int .u32 (.ofNat 0)),(.int .u32 (.ofNat 0)),(.int .i64 (.ofNat 0)),(.int .i64 (.ofNat 0)),(.int .u32 (.ofNat 0)),(.int .u32 (.ofNat 0)),(.int .u32 (.ofNat 0)),(.int .u32 (.ofNat 0)),(.int .i64 (.ofNat 0)),.nilsl,.nilsl,.nilsl,.nilsl,(.int .i64 (.ofNat 0)),(.int .i64 (.ofNat 0)),.nilsl,(.bool false)] []⟩,⟨none, .store 41 (.t q4_3) (.l 0)⟩] [(q4_13,(.c (.bool false)))]) .ret) .skip)) (.seq 
(.reg [⟨none, .bin .add (.c (.int .i64 (.ofNat 28))) (.t q4_1)⟩,⟨none, .call (.c (.fn 17 [])) [(.l 0)]⟩,⟨none, .build [(.int .i64 (.ofNat 0)),(.int .i64 (.ofNat 0)),(.int .i64 (.ofNat 0)),(.int .i64 (.ofNat 0)),(.int .i64 (.ofNat 0)),(.int .u32 (.ofNat 0)),(.int .u32 (.ofNat 0)),(.int .u32 (.ofNat 0)),(.int .u32 (.ofNat 0)),(.int .i64 (.ofNat 0)),(.int .i64 (.ofNat 0)),(.int .u32 (.ofNat 0)),(.int .u32 (.ofNat 0)),(.int .u32 (.ofNat 0)),(.int .u32 (.ofNat 0)),(.int .i64 (.ofNat 0)),(.int .i64 (.ofNat 0)),(.int .u32 (.ofNat 0)),(.int .u32 (.ofNat 0)),(.int .u32 (.ofNat 0)),(.int .u32 (.ofNat 0)),(.int .i64 (.ofNat 0))] [(1,1,k2),(2,1,(.t q4_0))]⟩,⟨none, .call (.c (.fn 18 [])) []⟩,⟨none, .build [(.int .i64 (.ofNat 0)),(.int .i64 (.ofNat 0)),(.int .i64 (.ofNat 0)),(.int .i64 (.ofNat 0)),.nilsl] [(0,1,k1),(1,1,k1),(4,1,(.l 0))]⟩,⟨none, .mks 1 5 [(.int .i64 (.ofNat 0)),(.int .i64 (.ofNat 0)),(.int .i64 (.ofNat 0)),(.int .i64 (.ofNat 0)),.nilsl] [(0,5,(.l 0))]⟩,⟨none, .build [.nilsl,.nilsl,(.int .i64 (.ofNat 0)),(.int .i64 (.ofNat 0)),(.bool false),(.int .i64 (.ofNat 0)),(.int .i64 (.ofNat 0)),(.int .u32 (.ofNat 0)),(.int .u32 (.ofNat 0)),(.int .u32 (.ofNat 0)),(.int .u32 (.ofNat 0)),(.int .i64 (.ofNat 0)),(.int .i64 (.ofNat 0)),(.int .i64 (.ofNat 0)),(.int .i64 (.ofNat 0)),(.int .i64 (.ofNat 0)),(.int .u32 (.ofNat 0)),(.int .u32 (.ofNat 0)),(.int .u32 (.ofNat 0)),(.int .u32 (.ofNat 0)),(.int .i64 (.ofNat 0)),(.int .i64 (.ofNat 0)),(.int .u32 (.ofNat 0)),(.int .u32 (.ofNat 0)),(.int .u32 (.ofNat 0)),(.int .u32 (.ofNat 0)),(.int .i64 (.ofNat 0)),(.int .i64 (.ofNat 0)),(.int .u32 (.ofNat 0)),(.int .u32 (.ofNat 0)),(.int .u32 (.ofNat 0)),(.int .u32 (.ofNat 0)),(.int .i64 (.ofNat 0)),.nilsl,.nilsl,.nilsl,.nilsl,(.int .i64 (.ofNat 0)),(.int .i64 (.ofNat 0)),.nilsl,(.bool false)] [(0,5,(.l 4)),(11,22,(.l 3)),(39,1,(.l 0))]⟩,⟨none, .build [.nilsl,.nilsl,(.int .i64 (.ofNat 0)),(.int .i64 (.ofNat 0)),(.bool false),(.int .i64 (.ofNat 0)),(.int .i64 (.ofNat 0)),(.int .u32 (.ofNat 0)),(.int .u32 (.ofNat 0)),(.int .u32 (.ofNat 0)),(.int .u32 (.ofNat 0)),(.int .i64 (.ofNat 0)),(.int .i64 (.ofNat 0)),(.int .i64 (.ofNat 0)),(.int .i64 (.ofNat 0)),(.int .i64 (.ofNat 0)),(.int .u32 (.ofNat 0)),(.int .u32 (.ofNat 0)),(.int .u32 (.ofNat 0)),(.int .u32 (.ofNat 0)),(.int .i64 (.ofNat 0)),(.int .i64 (.ofNat 0)),(.int .u32 (.ofNat 0)),(.int .u32 (.ofNat 0)),(.int .u32 (.ofNat 0)),(.int .u32 (.ofNat 0)),(.int .i64 (.ofNat 0)),(.int .i64 (.ofNat 0)),(.int .u32 (.ofNat 0)),(.int .u32 (.ofNat 0)),(.int .u32 (.ofNat 0)),(.int .u32 (.ofNat 0)),(.int .i64 (.ofNat 0)),.nilsl,.nilsl,.nilsl,.nilsl,(.int .i64 (.ofNat 0)),(.int .i64 (.ofNat 0)),.nilsl,(.bool false)] [(0,41,(.l 0))]⟩,⟨none, .box (.l 0)⟩] [(q4_7,(.l 0))]) (.seq 
(.reg [] [(q4_5,(.c .nilsl))]) (.seq (.seq 
(.reg [] [(q4_4,k0)]) (.block 0 (.loop (.seq 
(.reg [⟨none, .bin .lt (.t q4_4) k4⟩] [(q4_11,(.l 0))]) (.seq (.cond (.t q4_11) .skip (.exit 0)) (.seq (.block 1 (.seq 
(.reg [] [(q4_6,(.t q4_4))]) 
(.reg [⟨none, .call (.c (.fn 19 [])) [(.t q4_1),(.t q4_6)]⟩,⟨none, .build [(.int .i64 (.ofNat 0)),(.str [])] [(0,1,(.l 0)),(1,1,(.t q4_2))]⟩,⟨none, .mks 1 2 [(.int .i64 (.ofNat 0)),(.str [])] [(0,2,(.l 0))]⟩,⟨none, .app 2 (.t q4_5) (.l 0)⟩] [(q4_5,(.l 0))]))) 
(.reg [⟨none, .bin .add (.t q4_4) k1⟩] [(q4_4,(.l 0))]))))))) (.seq 
(.reg [⟨none, .call (.c (.fn 20 [])) [(.t q4_7),(.t q4_5)]⟩] []) (.seq 
(.reg [⟨none, .nilc (.t q4_7)⟩,⟨none, .fa 0 (.l 0)⟩,⟨none, .load 41 true (.l 0)⟩,⟨none, .call (.c (.fn 21 [])) [(.l 0),(.c (.bool true)),(.c .nilsl)]⟩,⟨none, .ext (.l 0) 0⟩,⟨none, .ext (.l 1) 1⟩,⟨none, .box (.c (.agg [.nilsl,.nilsl,(.int .i64 (.ofNat 0)),(.int .i64 (.ofNat 0)),(.bool false),(.int .i64 (.ofNat 0)),(.int .i64 (.ofNat 0)),(.int .u32 (.ofNat 0)),(.int .u32 (.ofNat 0)),(.int .u32 (.ofNat 0)),(.int .u32 (.ofNat 0)),(.int .i64 (.ofNat 0)),(.int .i64 (.ofNat 0)),(.int .i64 (.ofNat 0)),(.int .i64 (.ofNat 0)),(.int .i64 (.ofNat 0)),(.int .u32 (.ofNat 0)),(.int .u32 (.ofNat 0)),(.int .u32 (.ofNat 0)),(.int .u32 (.ofNat 0)),(.int .i64 (.ofNat 0)),(.int .i64 (.ofNat 0)),(.int .u32 (.ofNat 0)),(.int .u32 (.ofNat 0)),(.int .u32 (.ofNat 0)),(.int .u32 (.ofNat 0)),(.int .i64 (.ofNat 0)),(.int .i64 (.ofNat 0)),(.int .u32 (.ofNat 0)),(.int .u32 (.ofNat 0)),(.int .u32 (.ofNat 0)),(.int .u32 (.ofNat 0)),(.int .i64 (.ofNat 0)),.nilsl,.nilsl,.nilsl,.nilsl,(.int .i64 (.ofNat 0)),(.int .i64 (.ofNat 0)),.nilsl,(.bool false)]))⟩,⟨none, .store 41 (.l 0) (.l 2)⟩] [(q4_8,(.l 2)),(q4_9,(.l 1))]) (.seq (.seq 
(.reg [⟨none, .bin .ne (.t q4_8) k0⟩] [(q4_12,(.l 0))]) (.cond (.t q4_12) (.seq 
(.reg [⟨none, .build [.nilsl,.nilsl,(.int .i64 (.ofNat 0)),(.int .i64 (.ofNat 0)),(.bool false),(.int .i64 (.ofNat 0)),(.int .i64 (.ofNat 0)),(.int .u32 (.ofNat 0)),(.int .u32 (.ofNat 0)),(.int .u32 (.ofNat 0)),(.int .u32 (.ofNat 0)),(.int .i64 (.ofNat 0)),(.int .i64 (.ofNat 0)),(.int .i64 (.ofNat 0)),(.int .i64 (.ofNat 0)),(.int .i64 (.ofNat 0)),(.int .u32 (.ofNat 0)),(.int .u32 (.ofNat 0)),(.int .u32 (.ofNat 0)),(.int .u32 (.ofNat 0)),(.int .i64 (.ofNat 0)),(.int .i64 (.ofNat 0)),(.int .u32 (.ofNat 0)),(.int .u32 (.ofNat 0)),(.int .u32 (.ofNat 0)),(.int .u32 (.ofNat 0)),(.int .i64 (.ofNat 0)),(.int .i64 (.ofNat 0)),(.int .u32 (.ofNat 0)),(.int .u32 (.ofNat 0)),(.int .u32 (.ofNat 0)),(.int .u32 (.ofNat 0)),(.int .i64 (.ofNat 0)),.nilsl,.nilsl,.nilsl,.nilsl,(.int .i64 (.ofNat 0)),(.int .i64 (.ofNat 0)),.nilsl,(.bool false)] []⟩,⟨none, .store 41 (.t q4_3) (.l 0)⟩] [(q4_13,(.c (.bool false)))]) .ret) .skip)) (.seq 
(.reg [⟨none, .load 41 true (.t q4_9)⟩,⟨none, .store 41 (.t q4_3) (.l 0)⟩] [(q4_13,(.c (.bool true)))]) .ret)))))))))), [(q4_3, some (41,true)),(q4_13, none)]⟩
def a6 : FN := ⟨full 4, [some q4_0,some q4_4], (.seq 
(.reg [⟨none, .box (.t q4_0)⟩,⟨none, .box (.c (.agg [.nilsl,.nilsl,(.int .i64 (.ofNat 0)),(.int .i64 (.ofNat 0)),(.bool false),(.int .i64 (.ofNat 0)),(.int .i64 (.ofNat 0)),(.int .u32 (.ofNat 0)),(.int .u32 (.ofNat 0)),(.int .u32 (.ofNat 0)),(.int .u32 (.ofNat 0)),(.int .i64 (.ofNat 0)),(.int .i64 (.ofNat 0)),(.int .i64 (.ofNat 0)),(.int .i64 (.ofNat 0)),(.int .i64 (.ofNat 0)),(.int .u32 (.ofNat 0)),(.int .u32 (.ofNat 0)),(.int .u32 (.ofNat 0)),(.int .u32 (.ofNat 0)),(.int .i64 (.ofNat 0)),(.int .i64 (.ofNat 0)),(.int .u32 (.ofNat 0)),(.int .u32 (.ofNat 0)),(.int .u32 (.ofNat 0)),(.int .u32 (.ofNat 0)),(.int .i64 (.ofNat 0)),(.int .i64 (.ofNat 0)),(.int .u32 (.ofNat 0)),(.int .u32 (.ofNat 0)),(.int .u32 (.ofNat 0)),(.int .u32 (.ofNat 0)),(.int .i64 (.ofNat 0)),.nilsl,.nilsl,.nilsl,.nilsl,(.int .i64 (.ofNat 0)),(.int .i64 (.ofNat 0)),.nilsl,(.bool false)]))⟩] [(q4_1,(.l 1)),(q4_2,(.l 0)),(q4_9,k0)]) (.seq 
(.reg [⟨none, .fa 0 (.t q4_1)⟩,⟨none, .load 5 true (.l 0)⟩,⟨none, .fa 5 (.t q4_1)⟩,⟨none, .load 6 true (.l 0)⟩,⟨none, .call (.c (.fn 22 [])) [(.l 2),(.l 0)]⟩,⟨none, .ext (.l 0) 0⟩,⟨none, .ext (.l 1) 1⟩,⟨none, .box (.c (.agg [(.int .i64 (.ofNat 0)),(.int .i64 (.ofNat 0)),(.int .i64 (.ofNat 0)),(.int .i64 (.ofNat 0)),(.int .i64 (.ofNat 0)),(.int .u32 (.ofNat 0)),(.int .u32 (.ofNat 0)),(.int .u32 (.ofNat 0)),(.int .u32 (.ofNat 0)),(.int .i64 (.ofNat 0)),(.int .i64 (.ofNat 0)),(.int .u32 (.ofNat 0)),(.int .u32 (.ofNat 0)),(.int .u32 (.ofNat 0)),(.int .u32 (.ofNat 0)),(.int .i64 (.ofNat 0)),(.int .i64 (.ofNat 0)),(.int .u32 (.ofNat 0)),(.int .u32 (.ofNat 0)),(.int .u32 (.ofNat 0)),(.int .u32 (.ofNat 0)),(.int .i64 (.ofNat 0)),.nilsl,.nilsl,.nilsl,.nilsl,.nilsl,.nilsl,.nilsl,.nilsl]))⟩,⟨none, .store 30 (.l 0) (.l 2)⟩] [(q4_3,(.l 2)),(q4_5,(.l 1))]) (.seq (.block 0 (.seq 
(.reg [⟨none, .fa 0 (.t q4_1)⟩,⟨none, .fa 4 (.l 0)⟩,⟨none, .load 1 false (.l 0)⟩] [(q4_6,(.l 0))]) (.cond (.t q4_6) (.seq 
(.reg [⟨none, .load 41 true (.t q4_1)⟩,⟨none, .call (.c (.fn 23 [])) [(.l 0)]⟩,⟨none, .store 41 (.t q4_2) (.l 0)⟩] [(q4_9,(.c (.int .i64 (.ofNat 13))))]) .ret) (.seq 
(.reg [⟨none, .fa 40 (.t q4_1)⟩,⟨none, .load 1 false (.l 0)⟩] [(q4_7,(.l 0))]) (.cond (.t q4_7) (.seq 
(.reg [⟨none, .load 41 true (.t q4_1)⟩,⟨none, .call (.c (.fn 23 [])) [(.l 0)]⟩,⟨none, .store 41 (.t q4_2) (.l 0)⟩] [(q4_9,(.c (.int .i64 (.ofNat 11))))]) .ret) (.seq 
(.reg [⟨none, .not (.t q4_3)⟩] [(q4_8,(.l 0))]) (.cond (.t q4_8) (.seq 
(.reg [⟨none, .load 41 true (.t q4_1)⟩,⟨none, .call (.c (.fn 23 [])) [(.l 0)]⟩,⟨none, .store 41 (.t q4_2) (.l 0)⟩] [(q4_9,(.c (.int .i64 (.ofNat 12))))]) .ret) .skip))))))) (.seq 
(.reg [⟨none, .load 41 true (.t q4_1)⟩,⟨none, .load 30 true (.t q4_5)⟩,⟨none, .mks 1 30 [(.int .i64 (.ofNat 0)),(.int .i64 (.ofNat 0)),(.int .i64 (.ofNat 0)),(.int .i64 (.ofNat 0)),(.int .i64 (.ofNat 0)),(.int .u32 (.ofNat 0)),(.int .u32 (.ofNat 0)),(.int .u32 (.ofNat 0)),(.int .u32 (.ofNat 0)),(.int .i64 (.ofNat 0)),(.int .i64 (.ofNat 0)),(.int .u32 (.ofNat 0)),(.int .u32 (.ofNat 0)),(.int .u32 (.ofNat 0)),(.int .u32 (.ofNat 0)),(.int .i64 (.ofNat 0)),(.int .i64 (.ofNat 0)),(.int .u32 (.ofNat 0)),(.int .u32 (.ofNat 0)),(.int .u32 (.ofNat 0)),(.int .u32 (.ofNat 0)),(.int .i64 (.ofNat 0)),.nilsl,.nilsl,.nilsl,.nilsl,.nilsl,.nilsl,.nilsl,.nilsl] [(0,30,(.l 0))]⟩,⟨none, .call (.c (.fn 21 [])) [(.l 2),(.t q4_4),(.l 0)]⟩,⟨none, .ext (.l 0) 0⟩,⟨none, .ext (.l 1) 1⟩,⟨none, .store 41 (.t q4_2) (.l 1)⟩] [(q4_9,(.l 1))]) .ret)))), [(q4_2, some (41,true)),(q4_9, none)]⟩
def a7 : FN := ⟨full 4, [some q4_0,some q4_2], (.seq 
(.reg [⟨none, .box (.t q4_0)⟩] [(q4_1,(.l 0)),(q4_8,(.c (.str []))),(q4_9,(.c (.bool false)))]) (.seq (.seq 
(.reg [⟨none, .fa 4 (.t q4_1)⟩,⟨none, .load 1 false (.l 0)⟩,⟨(some ((.l 0),false)), .mov (.t q4_2)⟩,⟨(some ((.l 1),false)), .bin .lt (.l 0) k0⟩,⟨none, .pick (.l 2) (.c (.bool true)) (.l 0)⟩,⟨(some ((.l 0),false)), .mov (.t q4_2)⟩,⟨(some ((.l 1),false)), .fa 0 (.t q4_1)⟩,⟨(some ((.l 2),false)), .load 1 false (.l 0)⟩,⟨(some ((.l 3),false)), .len (.l 0)⟩,⟨(some ((.l 4),false)), .bin .ge (.l 3) (.l 0)⟩,⟨none, .pick (.l 5) (.c (.bool true)) (.l 0)⟩] [(q4_5,(.l 0))]) (.cond (.t q4_5) (.seq 
(.reg [] [(q4_8,(.c (.str []))),(q4_9,(.c (.bool false)))]) .ret) .skip)) (.seq 
(.reg [⟨none, .fa 0 (.t q4_1)⟩,⟨none, .load 1 false (.l 0)⟩,⟨none, .ia 1 (.l 0) (.t q4_2)⟩,⟨none, .load 1 false (.l 0)⟩] [(q4_4,(.l 0))]) (.seq (.seq 
(.reg [] [(q4_3,k0)]) (.block 0 (.loop (.seq (.seq 
(.reg [⟨none, .fa 1 (.t q4_1)⟩,⟨none, .load 1 false (.l 0)⟩,⟨none, .len (.l 0)⟩,⟨none, .bin .lt (.t q4_3) (.l 0)⟩] [(q4_6,(.l 0))]) (.cond (.t q4_6) .skip (.exit 0))) (.seq (.block 1 (.seq 
(.reg [⟨none, .fa 1 (.t q4_1)⟩,⟨none, .load 1 false (.l 0)⟩,⟨none, .ia 2 (.l 0) (.t q4_3)⟩,⟨none, .fa 0 (.l 0)⟩,⟨none, .load 1 false (.l 0)⟩,⟨none, .bin .eq (.l 0) (.t q4_2)⟩] [(q4_7,(.l 0))]) (.cond (.t q4_7) 
(.reg [⟨none, .fa 1 (.t q4_1)⟩,⟨none, .load 1 false (.l 0)⟩,⟨none, .ia 2 (.l 0) (.t q4_3)⟩,⟨none, .fa 1 (.l 0)⟩,⟨none, .load 1 false (.l 0)⟩] [(q4_4,(.l 0))]) .skip))) 
(.reg [⟨none, .bin .add (.t q4_3) k1⟩] [(q4_3,(.l 0))])))))) (.seq 
(.reg [] [(q4_8,(.t q4_4)),(q4_9,(.c (.bool true)))]) .ret))))), [(q4_8, none),(q4_9, none)]⟩
def a8 : FN := ⟨full 3, [some q3_0,some q3_1], (.seq 
(.reg [] [(q3_4,k0)]) (.seq (.seq 
(.reg [⟨none, .call (.c (.fn 24 [])) [(.t q3_0)]⟩,⟨none, .not (.l 0)⟩,⟨(some ((.l 0),false)), .mov (.t q3_1)⟩,⟨(some ((.l 1),false)), .bin .lt (.l 0) k0⟩,⟨none, .pick (.l 2) (.c (.bool true)) (.l 0)⟩,⟨(some ((.l 0),false)), .mov (.t q3_1)⟩,⟨(some ((.l 1),false)), .bin .gt (.l 0) k3⟩,⟨none, .pick (.l 2) (.c (.bool true)) (.l 0)⟩] [(q3_2,(.l 0))]) (.cond (.t q3_2) (.seq 
(.reg [] [(q3_4,(.c (.int .i64 (.negSucc 0))))]) .ret) .skip)) (.seq (.seq 
(.reg [⟨none, .bin .lt (.t q3_1) k2⟩] [(q3_3,(.l 0))]) (.cond (.t q3_3) (.seq 
(.reg [⟨none, .bin .mul (.t q3_1) k7⟩] [(q3_4,(.l 0))]) .ret) .skip)) (.seq 
(.reg [⟨none, .bin .add (.c (.int .i64 (.ofNat 14))) (.t q3_0)⟩,⟨none, .bin .sub (.t q3_1) k2⟩,⟨none, .bin .mul (.l 0) k7⟩,⟨none, .bin .add (.l 2) (.l 0)⟩] [(q3_4,(.l 0))]) .ret)))), [(q3_4, none)]⟩
def a9 : FN := ⟨full 4, [some q4_0], (.seq 
(.reg [⟨none, .box (.c (.agg [(.int .i64 (.ofNat 0)),(.int .i64 (.ofNat 0)),(.int .i64 (.ofNat 0)),(.int .i64 (.ofNat 0)),(.int .i64 (.ofNat 0)),(.int .u32 (.ofNat 0)),(.int .u32 (.ofNat 0)),(.int .u32 (.ofNat 0)),(.int .u32 (.ofNat 0))]))⟩] [(q4_2,(.l 0)),(q4_10,(.c (.bool false)))]) (.seq 
(.reg [⟨none, .call (.c (.fn 25 [])) [(.c (.str [49,52,52,49])),(.t q4_0)]⟩,⟨none, .ext (.l 0) 0⟩,⟨none, .ext (.l 1) 1⟩,⟨none, .ext (.l 2) 2⟩] [(q4_1,(.l 0)),(q4_3,(.l 1)),(q4_4,(.l 2))]) (.seq (.seq 
(.reg [⟨none, .not (.t q4_1)⟩] [(q4_7,(.l 0))]) (.cond (.t q4_7) (.seq 
(.reg [⟨none, .build [(.int .i64 (.ofNat 0)),(.int .i64 (.ofNat 0)),(.int .i64 (.ofNat 0)),(.int .i64 (.ofNat 0)),(.int .i64 (.ofNat 0)),(.int .u32 (.ofNat 0)),(.int .u32 (.ofNat 0)),(.int .u32 (.ofNat 0)),(.int .u32 (.ofNat 0))] []⟩,⟨none, .store 9 (.t q4_2) (.l 0)⟩] [(q4_10,(.c (.bool false)))]) .ret) .skip)) (.seq 
(.reg [⟨none, .call (.c (.fn 26 [])) [(.t q4_3),k1]⟩,⟨none, .ext (.l 0) 0⟩,⟨none, .ext (.l 1) 1⟩,⟨none, .ext (.l 2) 2⟩] [(q4_1,(.l 0)),(q4_5,(.l 2))]) (.seq (.seq 
(.reg [⟨none, .not (.t q4_1)⟩] [(q4_8,(.l 0))]) (.cond (.t q4_8) (.seq 
(.reg [⟨none, .build [(.int .i64 (.ofNat 0)),(.int .i64 (.ofNat 0)),(.int .i64 (.ofNat 0)),(.int .i64 (.ofNat 0)),(.int .i64 (.ofNat 0)),(.int .u32 (.ofNat 0)),(.int .u32 (.ofNat 0)),(.int .u32 (.ofNat 0)),(.int .u32 (.ofNat 0))] []⟩,⟨none, .store 9 (.t q4_2) (.l 0)⟩] [(q4_10,(.c (.bool false)))]) .ret) .skip)) (.seq 
(.drw [(⟨none, .ia 1 (.t q4_4) k1⟩,[]),(⟨none, .load 1 false (.l 0)⟩,[]),(⟨none, .ia 1 (.t q4_4) k2⟩,[]),(⟨none, .load 1 false (.l 0)⟩,[]),(⟨none, .ia 1 (.t q4_4) k3⟩,[]),(⟨none, .load 1 false (.l 0)⟩,[]),(⟨none, .ia 6 (.t q4_5) k0⟩,[]),(⟨none, .load 6 true (.l 0)⟩,[]),(⟨none, .build [(.int .i64 (.ofNat 0)),(.int .i64 (.ofNat 0)),(.int .i64 (.ofNat 0)),(.int .i64 (.ofNat 0)),(.int .i64 (.ofNat 0)),(.int .u32 (.ofNat 0)),(.int .u32 (.ofNat 0)),(.int .u32 (.ofNat 0)),(.int .u32 (.ofNat 0))] [(0,1,(.l 6)),(1,1,(.l 4)),(2,1,(.l 2)),(3,6,(.l 0))]⟩,[]),(⟨none, .box (.c (.agg [(.int .i64 (.ofNat 0)),(.int .i64 (.ofNat 0)),(.int .i64 (.ofNat 0)),(.int .i64 (.ofNat 0)),(.int .i64 (.ofNat 0)),(.int .u32 (.ofNat 0)),(.int .u32 (.ofNat 0)),(.int .u32 (.ofNat 0)),(.int .u32 (.ofNat 0))]))⟩,[]),(⟨none, .store 9 (.l 0) (.l 1)⟩,[])] [(q4_6,(.l 1))]) (.seq (.seq 
(.reg [⟨none, .load 9 true (.t q4_6)⟩,⟨none, .call (.c (.fn 27 [])) [(.l 0)]⟩,⟨none, .bin .ne (.l 0) (.t q4_0)⟩] [(q4_9,(.l 0))]) (.cond (.t q4_9) (.seq 
(.reg [⟨none, .build [(.int .i64 (.ofNat 0)),(.int .i64 (.ofNat 0)),(.int .i64 (.ofNat 0)),(.int .i64 (.ofNat 0)),(.int .i64 (.ofNat 0)),(.int .u32 (.ofNat 0)),(.int .u32 (.ofNat 0)),(.int .u32 (.ofNat 0)),(.int .u32 (.ofNat 0))] []⟩,⟨none, .store 9 (.t q4_2) (.l 0)⟩] [(q4_10,(.c (.bool false)))]) .ret) .skip)) (.seq 
(.reg [⟨none, .load 9 true (.t q4_6)⟩,⟨none, .store 9 (.t q4_2) (.l 0)⟩] [(q4_10,(.c (.bool true)))]) .ret)))))))), [(q4_2, some (9,true)),(q4_10, none)]⟩
def a10 : FN := ⟨full 3, [some q3_0,some q3_1,some q3_3], (.seq 
(.reg [] [(q3_5,k0)]) (.seq 
(.reg [⟨none, .call (.c (.fn 8 [])) [(.t q3_0),(.t q3_1)]⟩] [(q3_2,(.l 0))]) (.seq (.seq 
(.reg [⟨none, .bin .lt (.t q3_2) k0⟩,⟨(some ((.l 0),false)), .mov (.t q3_3)⟩,⟨(some ((.l 1),false)), .bin .lt (.l 0) k0⟩,⟨none, .pick (.l 2) (.c (.bool true)) (.l 0)⟩,⟨(some ((.l 0),false)), .mov (.t q3_3)⟩,⟨(some ((.l 1),false)), .bin .ge (.l 0) k6⟩,⟨none, .pick (.l 2) (.c (.bool true)) (.l 0)⟩] [(q3_4,(.l 0))]) (.cond (.t q3_4) (.seq 
(.reg [] [(q3_5,(.c (.int .i64 (.negSucc 0))))]) .ret) .skip)) (.seq 
(.reg [⟨none, .bin .add (.t q3_2) k1⟩,⟨none, .bin .add (.l 0) (.t q3_3)⟩] [(q3_5,(.l 0))]) .ret)))), [(q3_5, none)]⟩
def a11 : FN := ⟨full 2, [some q2_0,some q2_1], (.seq 
(.reg [] [(q2_3,(.c (.str [])))]) (.seq (.seq 
(.reg [⟨none, .call (.c (.fn 28 [])) [(.t q2_0)]⟩,⟨none, .not (.l 0)⟩,⟨(some ((.l 0),false)), .mov (.t q2_1)⟩,⟨(some ((.l 1),false)), .call (.c (.fn 24 [])) [(.l 0)]⟩,⟨(some ((.l 2),false)), .not (.l 0)⟩,⟨none, .pick (.l 3) (.c (.bool true)) (.l 0)⟩] [(q2_2,(.l 0))]) (.cond (.t q2_2) (.seq 
(.reg [] [(q2_3,(.c (.str [])))]) .ret) .skip)) (.seq 
(.reg [⟨none, .mks 3 1 [(.int .i64 (.ofNat 0))] [(0,1,(.c (.int .i64 (.ofNat 172)))),(1,1,(.t q2_0)),(2,1,(.t q2_1))]⟩,⟨none, .call (.c (.fn 30 [])) [(.c (.str [49,52,50])),(.l 0)]⟩,⟨none, .call (.c (.fn 29 [])) [(.l 0)]⟩] [(q2_3,(.l 0))]) .ret))), [(q2_3, none)]⟩
def a12 : FN := ⟨full 3, [some q3_0,some q3_1], (.seq 
(.reg [] [(q3_6,(.c (.bool false)))]) (.seq (.seq 
(.reg [⟨none, .len (.t q3_0)⟩,⟨none, .len (.t q3_1)⟩,⟨none, .bin .ne (.l 1) (.l 0)⟩] [(q3_3,(.l 0))]) (.cond (.t q3_3) (.seq 
(.reg [] [(q3_6,(.c (.bool false)))]) .ret) .skip)) (.seq (.seq 
(.reg [] [(q3_2,k0)]) (.block 0 (.loop (.seq (.seq 
(.reg [⟨none, .len (.t q3_0)⟩,⟨none, .bin .lt (.t q3_2) (.l 0)⟩] [(q3_4,(.l 0))]) (.cond (.t q3_4) .skip (.exit 0))) (.seq (.block 1 (.seq 
(.drw [(⟨none, .ia 5 (.t q3_0) (.t q3_2)⟩,[]),(⟨none, .load 5 true (.l 0)⟩,[]),(⟨none, .ia 5 (.t q3_1) (.t q3_2)⟩,[]),(⟨none, .load 5 true (.l 0)⟩,[]),(⟨none, .eqa [1, 1, 2, 2, 1] true (.l 2) (.l 0)⟩,[])] [(q3_5,(.l 0))]) (.cond (.t q3_5) (.seq 
(.reg [] [(q3_6,(.c (.bool false)))]) .ret) .skip))) 
(.reg [⟨none, .bin .add (.t q3_2) k1⟩] [(q3_2,(.l 0))])))))) (.seq 
(.reg [] [(q3_6,(.c (.bool true)))]) .ret)))), [(q3_6, none)]⟩
def a13 : FN := ⟨full 1, [], (.seq 
(.reg [] [(q1_1,(.c .nilsl))]) (.seq 
(.reg [⟨none, .mksl 5 56 [(.int .i64 (.ofNat 0)),(.int .i64 (.ofNat 0)),(.str []),(.str []),(.int .i64 (.ofNat 0))] k8 k8⟩] [(q1_0,(.l 0))]) (.seq 
(.reg [⟨none, .ia 5 (.t q1_0) k0⟩,⟨none, .fa 0 (.l 0)⟩,⟨none, .store 1 (.l 0) k2⟩] []) (.seq 
(.reg [] [(q1_1,(.t q1_0))]) .ret)))), [(q1_1, none)]⟩
def a14 : FN := ⟨full 2, [some q2_0], (.seq 
(.reg [⟨none, .box (.t q2_0)⟩] [(q2_1,(.l 0)),(q2_3,k0)]) (.seq 
(.reg [⟨none, .load 41 true (.t q2_1)⟩,⟨none, .build [.nilsl,.nilsl,(.int .i64 (.ofNat 0)),(.int .i64 (.ofNat 0)),(.bool false),(.int .i64 (.ofNat 0)),(.int .i64 (.ofNat 0)),(.int .u32 (.ofNat 0)),(.int .u32 (.ofNat 0)),(.int .u32 (.ofNat 0)),(.int .u32 (.ofNat 0)),(.int .i64 (.ofNat 0)),(.int .i64 (.ofNat 0)),(.int .i64 (.ofNat 0)),(.int .i64 (.ofNat 0)),(.int .i64 (.ofNat 0)),(.int .u32 (.ofNat 0)),(.int .u32 (.ofNat 0)),(.int .u32 (.ofNat 0)),(.int .u32 (.ofNat 0)),(.int .i64 (.ofNat 0)),(.int .i64 (.ofNat 0)),(.int .u32 (.ofNat 0)),(.int .u32 (.ofNat 0)),(.int .u32 (.ofNat 0)),(.int .u32 (.ofNat 0)),(.int .i64 (.ofNat 0)),(.int .i64 (.ofNat 0)),(.int .u32 (.ofNat 0)),(.int .u32 (.ofNat 0)),(.int .u32 (.ofNat 0)),(.int .u32 (.ofNat 0)),(.int .i64 (.ofNat 0)),.nilsl,.nilsl,.nilsl,.nilsl,(.int .i64 (.ofNat 0)),(.int .i64 (.ofNat 0)),.nilsl,(.bool false)] [(0,41,(.l 0))]⟩,⟨none, .box (.c (.agg [.nilsl,.nilsl,(.int .i64 (.ofNat 0)),(.int .i64 (.ofNat 0)),(.bool false),(.int .i64 (.ofNat 0)),(.int .i64 (.ofNat 0)),(.int .u32 (.ofNat 0)),(.int .u32 (.ofNat 0)),(.int .u32 (.ofNat 0)),(.int .u32 (.ofNat 0)),(.int .i64 (.ofNat 0)),(.int .i64 (.ofNat 0)),(.int .i64 (.ofNat 0)),(.int .i64 (.ofNat 0)),(.int .i64 (.ofNat 0)),(.int .u32 (.ofNat 0)),(.int .u32 (.ofNat 0)),(.int .u32 (.ofNat 0)),(.int .u32 (.ofNat 0)),(.int .i64 (.ofNat 0)),(.int .i64 (.ofNat 0)),(.int .u32 (.ofNat 0)),(.int .u32 (.ofNat 0)),(.int .u32 (.ofNat 0)),(.int .u32 (.ofNat 0)),(.int .i64 (.ofNat 0)),(.int .i64 (.ofNat 0)),(.int .u32 (.ofNat 0)),(.int .u32 (.ofNat 0)),(.int .u32 (.ofNat 0)),(.int .u32 (.ofNat 0)),(.int .i64 (.ofNat 0)),.nilsl,.nilsl,.nilsl,.nilsl,(.int .i64 (.ofNat 0)),(.int .i64 (.ofNat 0)),.nilsl,(.bool false)]))⟩,⟨none, .store 41 (.l 0) (.l 1)⟩] [(q2_2,(.l 1))]) (.seq 
(.drw [(⟨none, .call (.c (.fn 33 [])) [(.t q2_2)]⟩,[]),(⟨none, .fa 33 (.t q2_1)⟩,[0]),(⟨none, .load 4 true (.l 0)⟩,[0]),(⟨none, .call (.c (.fn 32 [])) [(.l 2),(.l 0)]⟩,[]),(⟨none, .call (.c (.fn 31 [])) [(.l 0)]⟩,[])] [(q2_3,(.l 0))]) .ret))), [(q2_3, none)]⟩
def a15 : FN := ⟨full 3, [some q3_0,some q3_1], (.seq 
(.reg [⟨none, .box (.t q3_0)⟩,⟨none, .box (.t q3_1)⟩] [(q3_2,(.l 1)),(q3_3,(.l 0)),(q3_7,(.c (.bool false)))]) (.seq 
(.drw [(⟨none, .fa 0 (.t q3_2)⟩,[]),(⟨none, .load 5 true (.l 0)⟩,[]),(⟨none, .box (.c (.agg [.nilsl,.nilsl,(.int .i64 (.ofNat 0)),(.int .i64 (.ofNat 0)),(.bool false)]))⟩,[]),(⟨none, .box (.c (.agg [.nilsl,.nilsl,(.int .i64 (.ofNat 0)),(.int .i64 (.ofNat 0)),(.bool false)]))⟩,[]),(⟨none, .store 5 (.l 1) (.l 2)⟩,[]),(⟨none, .fa 0 (.t q3_3)⟩,[4]),(⟨none, .load 5 true (.l 0)⟩,[4]),(⟨none, .store 5 (.l 3) (.l 0)⟩,[])] [(q3_4,(.l 5)),(q3_5,(.l 4))]) (.seq 
(.reg [⟨none, .fa 0 (.t q3_4)⟩,⟨none, .load 1 false (.l 0)⟩,⟨none, .fa 0 (.t q3_5)⟩,⟨none, .load 1 false (.l 0)⟩,⟨none, .call (.c (.fn 34 [])) [(.l 2),(.l 0)]⟩,⟨(some ((.l 0),true)), .fa 1 (.t q3_4)⟩,⟨(some ((.l 1),true)), .load 1 false (.l 0)⟩,⟨(some ((.l 2),true)), .fa 1 (.t q3_5)⟩,⟨(some ((.l 3),true)), .load 1 false (.l 0)⟩,⟨(some ((.l 4),true)), .call (.c (.fn 35 [])) [(.l 2),(.l 0)]⟩,⟨none, .pick (.l 5) (.l 0) (.c (.bool false))⟩,⟨(some ((.l 0),true)), .fa 2 (.t q3_4)⟩,⟨(some ((.l 1),true)), .load 1 false (.l 0)⟩,⟨(some ((.l 2),true)), .fa 2 (.t q3_5)⟩,⟨(some ((.l 3),true)), .load 1 false (.l 0)⟩,⟨(some ((.l 4),true)), .bin .eq (.l 2) (.l 0)⟩,⟨none, .pick (.l 5) (.l 0) (.c (.bool false))⟩,⟨(some ((.l 0),true)), .fa 3 (.t q3_4)⟩,⟨(some ((.l 1),true)), .load 1 false (.l 0)⟩,⟨(some ((.l 2),true)), .fa 3 (.t q3_5)⟩,⟨(some ((.l 3),true)), .load 1 false (.l 0)⟩,⟨(some ((.l 4),true)), .bin .eq (.l 2) (.l 0)⟩,⟨none, .pick (.l 5) (.l 0) (.c (.bool false))⟩,⟨(some ((.l 0),true)), .fa 4 (.t q3_4)⟩,⟨(some ((.l 1),true)), .load 1 false (.l 0)⟩,⟨(some ((.l 2),true)), .fa 4 (.t q3_5)⟩,⟨(some ((.l 3),true)), .load 1 false (.l 0)⟩,⟨(some ((.l 4),true)), .eqb false (.l 2) (.l 0)⟩,⟨none, .pick (.l 5) (.l 0) (.c (.bool false))⟩] [(q3_6,(.l 0))]) (.seq 
(.reg [⟨(some ((.t q3_6),true)), .fa 5 (.t q3_2)⟩,⟨(some ((.t q3_6),true)), .load 6 true (.l 0)⟩,⟨(some ((.t q3_6),true)), .fa 5 (.t q3_3)⟩,⟨(some ((.t q3_6),true)), .load 6 true (.l 0)⟩,⟨(some ((.t q3_6),true)), .eqa [1, 1, 1, 1, 1, 1] false (.l 2) (.l 0)⟩,⟨none, .pick (.t q3_6) (.l 0) (.c (.bool false))⟩,⟨(some ((.l 0),true)), .fa 11 (.t q3_2)⟩,⟨(some ((.l 1),true)), .load 22 true (.l 0)⟩,⟨(some ((.l 2),true)), .fa 11 (.t q3_3)⟩,⟨(some ((.l 3),true)), .load 22 true (.l 0)⟩,⟨(some ((.l 4),true)), .eqa [1, 1, 1, 1, 1, 1, 1, 1, 1, 1, 1, 1, 1, 1, 1, 1, 1, 1, 1, 1, 1, 1] false (.l 2) (.l 0)⟩,⟨none, .pick (.l 5) (.l 0) (.c (.bool false))⟩,⟨(some ((.l 0),true)), .fa 33 (.t q3_2)⟩,⟨(some ((.l 1),true)), .load 4 true (.l 0)⟩,⟨(some ((.l 2),true)), .fa 33 (.t q3_3)⟩,⟨(some ((.l 3),true)), .load 4 true (.l 0)⟩,⟨(some ((.l 4),true)), .call (.c (.fn 36 [])) [(.l 2),(.l 0)]⟩,⟨none, .pick (.l 5) (.l 0) (.c (.bool false))⟩,⟨(some ((.l 0),true)), .fa 37 (.t q3_2)⟩,⟨(some ((.l 1),true)), .load 1 false (.l 0)⟩,⟨(some ((.l 2),true)), .fa 37 (.t q3_3)⟩,⟨(some ((.l 3),true)), .load 1 false (.l 0)⟩,⟨(some ((.l 4),true)), .bin .eq (.l 2) (.l 0)⟩,⟨none, .pick (.l 5) (.l 0) (.c (.bool false))⟩,⟨(some ((.l 0),true)), .fa 38 (.t q3_2)⟩,⟨(some ((.l 1),true)), .load 1 false (.l 0)⟩,⟨(some ((.l 2),true)), .fa 38 (.t q3_3)⟩,⟨(some ((.l 3),true)), .load 1 false (.l 0)⟩,⟨(some ((.l 4),true)), .bin .eq (.l 2) (.l 0)⟩,⟨none, .pick (.l 5) (.l 0) (.c (.bool false))⟩,⟨(some ((.l 0),true)), .fa 39 (.t q3_2)⟩,⟨(some ((.l 1),true)), .load 1 false (.l 0)⟩,⟨(some ((.l 2),true)), .fa 39 (.t q3_3)⟩,⟨(some ((.l 3),true)), .load 1 false (.l 0)⟩,⟨(some ((.l 4),true)), .call (.c (.fn 37 [])) [(.l 2),(.l 0)]⟩,⟨none, .pick (.l 5) (.l 0) (.c (.bool false))⟩,⟨(some ((.l 0),true)), .fa 40 (.t q3_2)⟩,⟨(some ((.l 1),true)), .load 1 false (.l 0)⟩,⟨(some ((.l 2),true)), .fa 40 (.t q3_3)⟩,⟨(some ((.l 3),true)), .load 1 false (.l 0)⟩,⟨(some ((.l 4),true)), .eqb false (.l 2) (.l 0)⟩,⟨none, .pick (.l 5) (.l 0) (.c (.bool false))⟩] [(q3_7,(.l 0))]) .ret)))), [(q3_7, none)]⟩
def a16 : FN := ⟨full 2, [some q2_0,some q2_1], (.seq 
(.reg [] [(q2_3,(.c (.str [])))]) (.seq (.seq 
(.reg [⟨none, .bin .lt (.t q2_0) k0⟩,⟨(some ((.l 0),false)), .mov (.t q2_0)⟩,⟨(some ((.l 1),false)), .bin .gt (.l 0) (.c (.int .i64 (.ofNat 1073741824)))⟩,⟨none, .pick (.l 2) (.c (.bool true)) (.l 0)⟩,⟨(some ((.l 0),false)), .mov (.t q2_1)⟩,⟨(some ((.l 1),false)), .bin .lt (.l 0) (.c (.int .i64 (.ofNat 40)))⟩,⟨none, .pick (.l 2) (.c (.bool true)) (.l 0)⟩,⟨(some ((.l 0),false)), .mov (.t q2_1)⟩,⟨(some ((.l 1),false)), .bin .gt (.l 0) (.c (.int .i64 (.ofNat 240)))⟩,⟨none, .pick (.l 2) (.c (.bool true)) (.l 0)⟩] [(q2_2,(.l 0))]) (.cond (.t q2_2) (.seq 
(.reg [] [(q2_3,(.c (.str [])))]) .ret) .skip)) (.seq 
(.reg [⟨none, .mks 3 1 [(.int .i64 (.ofNat 0))] [(0,1,(.c (.int .i64 (.ofNat 172)))),(1,1,(.t q2_0)),(2,1,(.t q2_1))]⟩,⟨none, .call (.c (.fn 39 [])) [(.c (.str [49,52,50])),(.l 0)]⟩,⟨none, .call (.c (.fn 38 [])) [(.l 0)]⟩] [(q2_3,(.l 0))]) .ret))), [(q2_3, none)]⟩
def a17 : FN := ⟨full 3, [some q3_0], (.seq 
(.reg [⟨none, .box (.c (.agg [.nilsl,.nilsl,(.int .i64 (.ofNat 0)),(.int .i64 (.ofNat 0)),(.bool false)]))⟩] [(q3_2,(.l 0))]) (.seq 
(.reg [⟨none, .box (.c (.agg [.nilsl,.nilsl,(.int .i64 (.ofNat 0)),(.int .i64 (.ofNat 0)),(.bool false)]))⟩] [(q3_1,(.l 0))]) (.seq (.seq 
(.reg [⟨none, .bin .gt (.t q3_0) (.c (.int .i64 (.ofNat 268)))⟩] [(q3_4,(.l 0))]) (.cond (.t q3_4) (.seq 
(.reg [⟨none, .load 5 true (.t q3_1)⟩,⟨none, .store 5 (.t q3_2) (.l 0)⟩] []) .ret) .skip)) (.seq (.seq 
(.reg [] [(q3_3,k0)]) (.block 0 (.loop (.seq (.seq 
(.reg [⟨none, .bin .lt (.t q3_3) (.t q3_0)⟩] [(q3_5,(.l 0))]) (.cond (.t q3_5) .skip (.exit 0))) (.seq (.block 1 
(.drw [(⟨none, .fa 0 (.t q3_1)⟩,[]),(⟨none, .load 1 false (.l 0)⟩,[]),(⟨none, .mksl 1 1 [(.int .u8 (.ofNat 0))] (.c (.int .i64 (.ofNat 256))) (.c (.int .i64 (.ofNat 256)))⟩,[]),(⟨none, .b2s (.l 0)⟩,[]),(⟨none, .mks 1 1 [(.str [])] [(0,1,(.l 0))]⟩,[]),(⟨none, .app 1 (.l 3) (.l 0)⟩,[]),(⟨none, .fa 0 (.t q3_1)⟩,[]),(⟨none, .store 1 (.l 0) (.l 1)⟩,[])] [])) 
(.reg [⟨none, .bin .add (.t q3_3) k1⟩] [(q3_3,(.l 0))])))))) (.seq 
(.reg [⟨none, .load 5 true (.t q3_1)⟩,⟨none, .store 5 (.t q3_2) (.l 0)⟩] []) .ret))))), [(q3_2, some (5,true))]⟩
def a18 : FN := ⟨full 1, [], (.seq 
(.reg [] [(q1_1,(.c .nilsl))]) (.seq 
(.reg [⟨none, .mksl 5 56 [(.int .i64 (.ofNat 0)),(.int .i64 (.ofNat 0)),(.str []),(.str []),(.int .i64 (.ofNat 0))] k8 k8⟩] [(q1_0,(.l 0))]) (.seq 
(.reg [⟨none, .ia 5 (.t q1_0) k0⟩,⟨none, .fa 0 (.l 0)⟩,⟨none, .store 1 (.l 0) k2⟩] []) (.seq 
(.reg [] [(q1_1,(.t q1_0))]) .ret)))), [(q1_1, none)]⟩
def a19 : FN := ⟨full 3, [some q3_0,some q3_1], (.seq 
(.reg [] [(q3_5,k0)]) (.seq (.seq 
(.reg [⟨none, .call (.c (.fn 40 [])) [(.t q3_0)]⟩,⟨none, .not (.l 0)⟩,⟨(some ((.l 0),false)), .mov (.t q3_1)⟩,⟨(some ((.l 1),false)), .bin .lt (.l 0) k0⟩,⟨none, .pick (.l 2) (.c (.bool true)) (.l 0)⟩,⟨(some ((.l 0),false)), .mov (.t q3_1)⟩,⟨(some ((.l 1),false)), .bin .ge (.l 0) k4⟩,⟨none, .pick (.l 2) (.c (.bool true)) (.l 0)⟩] [(q3_3,(.l 0))]) (.cond (.t q3_3) (.seq 
(.reg [] [(q3_5,(.c (.int .i64 (.negSucc 0))))]) .ret) .skip)) (.seq 
(.reg [⟨none, .bin .mul (.t q3_1) k7⟩] [(q3_2,(.l 0))]) (.seq (.seq 
(.reg [⟨none, .bin .ge (.t q3_1) k2⟩] [(q3_4,(.l 0))]) (.cond (.t q3_4) 
(.reg [⟨none, .bin .add (.t q3_2) (.t q3_0)⟩] [(q3_2,(.l 0))]) .skip)) (.seq 
(.reg [] [(q3_5,(.t q3_2))]) .ret))))), [(q3_5, none)]⟩
def a20 : FN := ⟨full 3, [some q3_0,some q3_1], (.seq 
(.reg [] [(q3_5,(.c (.bool false)))]) (.seq 
(.reg [⟨none, .nilc (.t q3_0)⟩,⟨none, .fa 0 (.l 0)⟩,⟨none, .fa 0 (.l 0)⟩,⟨none, .load 5 true (.l 0)⟩,⟨none, .call (.c (.fn 41 [])) [(.l 0),(.t q3_1)]⟩,⟨none, .ext (.l 0) 0⟩,⟨none, .ext (.l 1) 1⟩,⟨none, .box (.c (.agg [.nilsl,.nilsl,(.int .i64 (.ofNat 0)),(.int .i64 (.ofNat 0)),(.bool false)]))⟩,⟨none, .store 5 (.l 0) (.l 2)⟩] [(q3_2,(.l 2)),(q3_3,(.l 1))]) (.seq (.seq 
(.reg [] [(q3_4,(.t q3_2))]) (.cond (.t q3_4) 
(.reg [⟨none, .load 5 true (.t q3_3)⟩,⟨none, .call (.c (.fn 42 [])) [(.l 0)]⟩,⟨none, .ext (.l 0) 0⟩,⟨none, .ext (.l 1) 1⟩,⟨none, .store 5 (.t q3_3) (.l 1)⟩] [(q3_2,(.l 1))]) .skip)) (.seq 
(.reg [⟨none, .load 5 true (.t q3_3)⟩,⟨none, .nilc (.t q3_0)⟩,⟨none, .fa 0 (.l 0)⟩,⟨none, .fa 0 (.l 0)⟩,⟨none, .store 5 (.l 0) (.l 3)⟩] []) (.seq 
(.reg [] [(q3_5,(.t q3_2))]) .ret))))), [(q3_5, none)]⟩
def a21 : FN := ⟨full 4, [some q4_0,some q4_5,some q4_6], (.seq 
(.reg [⟨none, .box (.t q4_0)⟩,⟨none, .box (.c (.agg [.nilsl,.nilsl,(.int .i64 (.ofNat 0)),(.int .i64 (.ofNat 0)),(.bool false),(.int .i64 (.ofNat 0)),(.int .i64 (.ofNat 0)),(.int .u32 (.ofNat 0)),(.int .u32 (.ofNat 0)),(.int .u32 (.ofNat 0)),(.int .u32 (.ofNat 0)),(.int .i64 (.ofNat 0)),(.int .i64 (.ofNat 0)),(.int .i64 (.ofNat 0)),(.int .i64 (.ofNat 0)),(.int .i64 (.ofNat 0)),(.int .u32 (.ofNat 0)),(.int .u32 (.ofNat 0)),(.int .u32 (.ofNat 0)),(.int .u32 (.ofNat 0)),(.int .i64 (.ofNat 0)),(.int .i64 (.ofNat 0)),(.int .u32 (.ofNat 0)),(.int .u32 (.ofNat 0)),(.int .u32 (.ofNat 0)),(.int .u32 (.ofNat 0)),(.int .i64 (.ofNat 0)),(.int .i64 (.ofNat 0)),(.int .u32 (.ofNat 0)),(.int .u32 (.ofNat 0)),(.int .u32 (.ofNat 0)),(.int .u32 (.ofNat 0)),(.int .i64 (.ofNat 0)),.nilsl,.nilsl,.nilsl,.nilsl,(.int .i64 (.ofNat 0)),(.int .i64 (.ofNat 0)),.nilsl,(.bool false)]))⟩] [(q4_1,(.l 1)),(q4_3,(.l 0)),(q4_15,k0)]) (.seq 
(.drw [(⟨none, .load 41 true (.t q4_1)⟩,[]),(⟨none, .call (.c (.fn 23 [])) [(.l 0)]⟩,[]),(⟨none, .load 41 true (.t q4_1)⟩,[1]),(⟨none, .call (.c (.fn 23 [])) [(.l 0)]⟩,[]),(⟨none, .box (.c (.agg [.nilsl,.nilsl,(.int .i64 (.ofNat 0)),(.int .i64 (.ofNat 0)),(.bool false),(.int .i64 (.ofNat 0)),(.int .i64 (.ofNat 0)),(.int .u32 (.ofNat 0)),(.int .u32 (.ofNat 0)),(.int .u32 (.ofNat 0)),(.int .u32 (.ofNat 0)),(.int .i64 (.ofNat 0)),(.int .i64 (.ofNat 0)),(.int .i64 (.ofNat 0)),(.int .i64 (.ofNat 0)),(.int .i64 (.ofNat 0)),(.int .u32 (.ofNat 0)),(.int .u32 (.ofNat 0)),(.int .u32 (.ofNat 0)),(.int .u32 (.ofNat 0)),(.int .i64 (.ofNat 0)),(.int .i64 (.ofNat 0)),(.int .u32 (.ofNat 0)),(.int .u32 (.ofNat 0)),(.int .u32 (.ofNat 0)),(.int .u32 (.ofNat 0)),(.int .i64 (.ofNat 0)),(.int .i64 (.ofNat 0)),(.int .u32 (.ofNat 0)),(.int .u32 (.ofNat 0)),(.int .u32 (.ofNat 0)),(.int .u32 (.ofNat 0)),(.int .i64 (.ofNat 0)),.nilsl,.nilsl,.nilsl,.nilsl,(.int .i64 (.ofNat 0)),(.int .i64 (.ofNat 0)),.nilsl,(.bool false)]))⟩,[3, 1]),(⟨none, .store 41 (.l 0) (.l 3)⟩,[]),(⟨none, .build [.nilsl,.nilsl,(.int .i64 (.ofNat 0)),(.int .i64 (.ofNat 0)),(.bool false),(.int .i64 (.ofNat 0)),(.int .i64 (.ofNat 0)),(.int .u32 (.ofNat 0)),(.int .u32 (.ofNat 0)),(.int .u32 (.ofNat 0)),(.int .u32 (.ofNat 0)),(.int .i64 (.ofNat 0)),(.int .i64 (.ofNat 0)),(.int .i64 (.ofNat 0)),(.int .i64 (.ofNat 0)),(.int .i64 (.ofNat 0)),(.int .u32 (.ofNat 0)),(.int .u32 (.ofNat 0)),(.int .u32 (.ofNat 0)),(.int .u32 (.ofNat 0)),(.int .i64 (.ofNat 0)),(.int .i64 (.ofNat 0)),(.int .u32 (.ofNat 0)),(.int .u32 (.ofNat 0)),(.int .u32 (.ofNat 0)),(.int .u32 (.ofNat 0)),(.int .i64 (.ofNat 0)),(.int .i64 (.ofNat 0)),(.int .u32 (.ofNat 0)),(.int .u32 (.ofNat 0)),(.int .u32 (.ofNat 0)),(.int .u32 (.ofNat 0)),(.int .i64 (.ofNat 0)),.nilsl,.nilsl,.nilsl,.nilsl,(.int .i64 (.ofNat 0)),(.int .i64 (.ofNat 0)),.nilsl,(.bool false)] [(0,41,(.l 2))]⟩,[5]),(⟨none, .box (.l 0)⟩,[5])] [(q4_2,(.l 3)),(q4_4,(.l 0))]) (.seq (.block 0 (.seq 
(.reg [⟨none, .fa 0 (.t q4_1)⟩,⟨none, .fa 4 (.l 0)⟩,⟨none, .load 1 false (.l 0)⟩] [(q4_9,(.l 0))]) (.cond (.t q4_9) (.seq 
(.reg [⟨none, .load 41 true (.t q4_2)⟩,⟨none, .store 41 (.t q4_3) (.l 0)⟩] [(q4_15,(.c (.int .i64 (.ofNat 13))))]) .ret) (.seq 
(.reg [⟨none, .fa 40 (.t q4_1)⟩,⟨none, .load 1 false (.l 0)⟩] [(q4_10,(.l 0))]) (.cond (.t q4_10) (.seq 
(.reg [⟨none, .load 41 true (.t q4_2)⟩,⟨none, .store 41 (.t q4_3) (.l 0)⟩] [(q4_15,(.c (.int .i64 (.ofNat 11))))]) .ret) (.seq 
(.reg [⟨none, .fa 39 (.t q4_1)⟩,⟨none, .load 1 false (.l 0)⟩,⟨none, .call (.c (.fn 43 [])) [(.l 0)]⟩,⟨none, .not (.l 0)⟩] [(q4_11,(.l 0))]) (.cond (.t q4_11) (.seq 
(.reg [⟨none, .load 41 true (.t q4_2)⟩,⟨none, .store 41 (.t q4_3) (.l 0)⟩] [(q4_15,k1)]) .ret) (.seq 
(.reg [⟨none, .fa 38 (.t q4_1)⟩,⟨none, .load 1 false (.l 0)⟩,⟨none, .bin .ge (.l 0) (.c (.int .i64 (.ofNat 1073741824)))⟩] [(q4_12,(.l 0))]) (.cond (.t q4_12) (.seq 
(.reg [⟨none, .load 41 true (.t q4_2)⟩,⟨none, .store 41 (.t q4_3) (.l 0)⟩] [(q4_15,k8)]) .ret) .skip))))))))) (.seq 
(.reg [⟨none, .call (.c (.fn 44 [])) [(.t q4_4),(.t q4_5),(.t q4_6)]⟩,⟨none, .ext (.l 0) 0⟩,⟨none, .ext (.l 1) 1⟩,⟨none, .box (.c (.agg [.nilsl,.nilsl,(.int .i64 (.ofNat 0)),(.int .i64 (.ofNat 0)),(.int .u32 (.ofNat 0)),(.int .u32 (.ofNat 0)),(.int .u32 (.ofNat 0)),(.int .u32 (.ofNat 0)),.nilsl,.nilsl]))⟩,⟨none, .store 10 (.l 0) (.l 2)⟩] [(q4_7,(.l 2)),(q4_8,(.l 1))]) (.seq (.seq 
(.reg [⟨none, .not (.t q4_7)⟩] [(q4_13,(.l 0))]) (.cond (.t q4_13) (.seq 
(.reg [⟨none, .load 41 true (.t q4_2)⟩,⟨none, .store 41 (.t q4_3) (.l 0)⟩] [(q4_15,k8)]) .ret) .skip)) (.seq (.seq 
(.drw [(⟨none, .load 10 true (.t q4_8)⟩,[]),(⟨none, .call (.c (.fn 45 [])) [(.t q4_4),(.l 0)]⟩,[]),(⟨none, .call (.c (.fn 20 [])) [(.t q4_4),(.l 0)]⟩,[]),(⟨none, .not (.l 0)⟩,[]),(⟨(some ((.l 0),false)), .mov (.t q4_4)⟩,[]),(⟨(some ((.l 1),false)), .mov (.t q4_4)⟩,[]),(⟨(some ((.l 2),false)), .nilc (.l 0)⟩,[]),(⟨(some ((.l 3),false)), .fa 0 (.l 0)⟩,[]),(⟨(some ((.l 4),false)), .fa 38 (.l 0)⟩,[]),(⟨(some ((.l 5),false)), .load 1 false (.l 0)⟩,[]),(⟨(some ((.l 6),false)), .mov (.t q4_4)⟩,[]),(⟨(some ((.l 7),false)), .nilc (.l 0)⟩,[]),(⟨(some ((.l 8),false)), .fa 0 (.l 0)⟩,[]),(⟨(some ((.l 9),false)), .fa 11 (.l 0)⟩,[]),(⟨(some ((.l 10),false)), .fa 2 (.l 0)⟩,[]),(⟨(some ((.l 11),false)), .load 1 false (.l 0)⟩,[]),(⟨(some ((.l 12),false)), .mov (.t q4_4)⟩,[]),(⟨(some ((.l 13),false)), .nilc (.l 0)⟩,[]),(⟨(some ((.l 14),false)), .fa 0 (.l 0)⟩,[]),(⟨(some ((.l 15),false)), .fa 37 (.l 0)⟩,[]),(⟨(some ((.l 16),false)), .load 1 false (.l 0)⟩,[]),(⟨(some ((.l 17),false)), .mov (.t q4_4)⟩,[]),(⟨(some ((.l 18),false)), .nilc (.l 0)⟩,[]),(⟨(some ((.l 19),false)), .fa 0 (.l 0)⟩,[]),(⟨(some ((.l 20),false)), .fa 5 (.l 0)⟩,[]),(⟨(some ((.l 21),false)), .load 6 true (.l 0)⟩,[]),(⟨(some ((.l 22),false)), .build [(.int .i64 (.ofNat 0)),(.int .i64 (.ofNat 0)),(.int .i64 (.ofNat 0)),(.int .i64 (.ofNat 0)),(.int .i64 (.ofNat 0)),(.int .u32 (.ofNat 0)),(.int .u32 (.ofNat 0)),(.int .u32 (.ofNat 0)),(.int .u32 (.ofNat 0))] [(0,1,(.l 16)),(1,1,(.l 10)),(2,1,(.l 5)),(3,6,(.l 0))]⟩,[]),(⟨(some ((.l 23),false)), .call (.c (.fn 46 [])) [(.l 22),(.l 0)]⟩,[]),(⟨(some ((.l 24),false)), .not (.l 0)⟩,[]),(⟨none, .pick (.l 25) (.c (.bool true)) (.l 0)⟩,[])] [(q4_14,(.l 0))]) (.cond (.t q4_14) (.seq 
(.reg [⟨none, .nilc (.t q4_4)⟩,⟨none, .fa 0 (.l 0)⟩,⟨none, .fa 0 (.l 0)⟩,⟨none, .load 5 true (.l 0)⟩,⟨none, .fa 0 (.t q4_2)⟩,⟨none, .store 5 (.l 0) (.l 1)⟩] []) (.seq 
(.reg [⟨none, .load 41 true (.t q4_2)⟩,⟨none, .store 41 (.t q4_3) (.l 0)⟩] [(q4_15,(.c (.int .i64 (.ofNat 13))))]) .ret)) .skip)) (.seq 
(.reg [⟨none, .nilc (.t q4_4)⟩,⟨none, .fa 0 (.l 0)⟩,⟨none, .load 41 true (.l 0)⟩,⟨none, .store 41 (.t q4_3) (.l 0)⟩] [(q4_15,k0)]) .ret))))))), [(q4_3, some (41,true)),(q4_15, none)]⟩
def a22 : FN := ⟨full 4, [some q4_0,some q4_1], (.seq 
(.reg [⟨none, .box (.t q4_0)⟩,⟨none, .box (.t q4_1)⟩,⟨none, .box (.c (.agg [(.int .i64 (.ofNat 0)),(.int .i64 (.ofNat 0)),(.int .i64 (.ofNat 0)),(.int .i64 (.ofNat 0)),(.int .i64 (.ofNat 0)),(.int .u32 (.ofNat 0)),(.int .u32 (.ofNat 0)),(.int .u32 (.ofNat 0)),(.int .u32 (.ofNat 0)),(.int .i64 (.ofNat 0)),(.int .i64 (.ofNat 0)),(.int .u32 (.ofNat 0)),(.int .u32 (.ofNat 0)),(.int .u32 (.ofNat 0)),(.int .u32 (.ofNat 0)),(.int .i64 (.ofNat 0)),(.int .i64 (.ofNat 0)),(.int .u32 (.ofNat 0)),(.int .u32 (.ofNat 0)),(.int .u32 (.ofNat 0)),(.int .u32 (.ofNat 0)),(.int .i64 (.ofNat 0)),.nilsl,.nilsl,.nilsl,.nilsl,.nilsl,.nilsl,.nilsl,.nilsl]))⟩] [(q4_2,(.l 2)),(q4_4,(.l 1)),(q4_7,(.l 0)),(q4_11,(.c (.bool false)))]) (.seq 
(.reg [⟨none, .load 5 true (.t q4_2)⟩,⟨none, .build [.nilsl,.nilsl,(.int .i64 (.ofNat 0)),(.int .i64 (.ofNat 0)),(.bool false)] [(0,5,(.l 0))]⟩,⟨none, .box (.c (.agg [.nilsl,.nilsl,(.int .i64 (.ofNat 0)),(.int .i64 (.ofNat 0)),(.bool false)]))⟩,⟨none, .store 5 (.l 0) (.l 1)⟩] [(q4_3,(.l 1))]) (.seq 
(.reg [⟨none, .load 5 true (.t q4_3)⟩,⟨none, .load 6 true (.t q4_4)⟩,⟨none, .call (.c (.fn 47 [])) [(.l 1),(.l 0)]⟩,⟨none, .ext (.l 0) 0⟩,⟨none, .ext (.l 1) 1⟩,⟨none, .box (.c (.agg [(.int .i64 (.ofNat 0)),(.int .i64 (.ofNat 0)),(.int .i64 (.ofNat 0)),(.int .i64 (.ofNat 0)),(.int .i64 (.ofNat 0)),(.int .u32 (.ofNat 0)),(.int .u32 (.ofNat 0)),(.int .u32 (.ofNat 0)),(.int .u32 (.ofNat 0)),(.int .i64 (.ofNat 0)),(.int .i64 (.ofNat 0)),(.int .u32 (.ofNat 0)),(.int .u32 (.ofNat 0)),(.int .u32 (.ofNat 0)),(.int .u32 (.ofNat 0)),(.int .i64 (.ofNat 0)),(.int .i64 (.ofNat 0)),(.int .u32 (.ofNat 0)),(.int .u32 (.ofNat 0)),(.int .u32 (.ofNat 0)),(.int .u32 (.ofNat 0)),(.int .i64 (.ofNat 0)),.nilsl,.nilsl,.nilsl,.nilsl,.nilsl,.nilsl,.nilsl,.nilsl]))⟩,⟨none, .store 30 (.l 0) (.l 2)⟩] [(q4_5,(.l 2)),(q4_6,(.l 1))]) (.seq (.seq 
(.reg [⟨none, .not (.t q4_5)⟩,⟨(some ((.l 0),false)), .load 5 true (.t q4_3)⟩,⟨(some ((.l 1),false)), .call (.c (.fn 48 [])) [(.l 0),(.t q4_6)]⟩,⟨(some ((.l 2),false)), .not (.l 0)⟩,⟨none, .pick (.l 3) (.c (.bool true)) (.l 0)⟩,⟨(some ((.l 0),false)), .fa 26 (.t q4_6)⟩,⟨(some ((.l 1),false)), .load 1 false (.l 0)⟩,⟨(some ((.l 2),false)), .call (.c (.fn 43 [])) [(.l 0)]⟩,⟨(some ((.l 3),false)), .not (.l 0)⟩,⟨none, .pick (.l 4) (.c (.bool true)) (.l 0)⟩] [(q4_9,(.l 0))]) (.cond (.t q4_9) (.seq 
(.reg [⟨none, .build [(.int .i64 (.ofNat 0)),(.int .i64 (.ofNat 0)),(.int .i64 (.ofNat 0)),(.int .i64 (.ofNat 0)),(.int .i64 (.ofNat 0)),(.int .u32 (.ofNat 0)),(.int .u32 (.ofNat 0)),(.int .u32 (.ofNat 0)),(.int .u32 (.ofNat 0)),(.int .i64 (.ofNat 0)),(.int .i64 (.ofNat 0)),(.int .u32 (.ofNat 0)),(.int .u32 (.ofNat 0)),(.int .u32 (.ofNat 0)),(.int .u32 (.ofNat 0)),(.int .i64 (.ofNat 0)),(.int .i64 (.ofNat 0)),(.int .u32 (.ofNat 0)),(.int .u32 (.ofNat 0)),(.int .u32 (.ofNat 0)),(.int .u32 (.ofNat 0)),(.int .i64 (.ofNat 0)),.nilsl,.nilsl,.nilsl,.nilsl,.nilsl,.nilsl,.nilsl,.nilsl] []⟩,⟨none, .store 30 (.t q4_7) (.l 0)⟩] [(q4_11,(.c (.bool false)))]) .ret) .skip)) (.seq 
(.reg [⟨none, .load 5 true (.t q4_3)⟩,⟨none, .fa 0 (.t q4_6)⟩,⟨none, .fa 9 (.l 0)⟩,⟨none, .load 6 true (.l 0)⟩,⟨none, .call (.c (.fn 49 [])) [(.l 3),(.l 0),k5]⟩,⟨none, .ext (.l 0) 0⟩,⟨none, .ext (.l 1) 1⟩] [(q4_8,(.l 1))]) (.seq (.seq 
(.reg [⟨none, .load 5 true (.t q4_3)⟩,⟨none, .call (.c (.fn 51 [])) [(.l 0)]⟩,⟨none, .call (.c (.fn 50 [])) [(.l 0),(.t q4_8)]⟩,⟨none, .ext (.l 0) 0⟩,⟨none, .ext (.l 1) 1⟩,⟨none, .fa 22 (.t q4_6)⟩,⟨none, .store 4 (.l 0) (.l 2)⟩] [(q4_5,(.l 2))]) (.seq 
(.reg [⟨none, .not (.t q4_5)⟩] [(q4_10,(.l 0))]) (.cond (.t q4_10) (.seq 
(.reg [⟨none, .build [(.int .i64 (.ofNat 0)),(.int .i64 (.ofNat 0)),(.int .i64 (.ofNat 0)),(.int .i64 (.ofNat 0)),(.int .i64 (.ofNat 0)),(.int .u32 (.ofNat 0)),(.int .u32 (.ofNat 0)),(.int .u32 (.ofNat 0)),(.int .u32 (.ofNat 0)),(.int .i64 (.ofNat 0)),(.int .i64 (.ofNat 0)),(.int .u32 (.ofNat 0)),(.int .u32 (.ofNat 0)),(.int .u32 (.ofNat 0)),(.int .u32 (.ofNat 0)),(.int .i64 (.ofNat 0)),(.int .i64 (.ofNat 0)),(.int .u32 (.ofNat 0)),(.int .u32 (.ofNat 0)),(.int .u32 (.ofNat 0)),(.int .u32 (.ofNat 0)),(.int .i64 (.ofNat 0)),.nilsl,.nilsl,.nilsl,.nilsl,.nilsl,.nilsl,.nilsl,.nilsl] []⟩,⟨none, .store 30 (.t q4_7) (.l 0)⟩] [(q4_11,(.c (.bool false)))]) .ret) .skip))) (.seq 
(.reg [⟨none, .load 30 true (.t q4_6)⟩,⟨none, .store 30 (.t q4_7) (.l 0)⟩] [(q4_11,(.c (.bool true)))]) .ret))))))), [(q4_7, some (30,true)),(q4_11, none)]⟩
def a23 : FN := ⟨full 3, [some q3_0], (.seq 
(.reg [⟨none, .box (.t q3_0)⟩,⟨none, .box (.c (.agg [.nilsl,.nilsl,(.int .i64 (.ofNat 0)),(.int .i64 (.ofNat 0)),(.bool false),(.int .i64 (.ofNat 0)),(.int .i64 (.ofNat 0)),(.int .u32 (.ofNat 0)),(.int .u32 (.ofNat 0)),(.int .u32 (.ofNat 0)),(.int .u32 (.ofNat 0)),(.int .i64 (.ofNat 0)),(.int .i64 (.ofNat 0)),(.int .i64 (.ofNat 0)),(.int .i64 (.ofNat 0)),(.int .i64 (.ofNat 0)),(.int .u32 (.ofNat 0)),(.int .u32 (.ofNat 0)),(.int .u32 (.ofNat 0)),(.int .u32 (.ofNat 0)),(.int .i64 (.ofNat 0)),(.int .i64 (.ofNat 0)),(.int .u32 (.ofNat 0)),(.int .u32 (.ofNat 0)),(.int .u32 (.ofNat 0)),(.int .u32 (.ofNat 0)),(.int .i64 (.ofNat 0)),(.int .i64 (.ofNat 0)),(.int .u32 (.ofNat 0)),(.int .u32 (.ofNat 0)),(.int .u32 (.ofNat 0)),(.int .u32 (.ofNat 0)),(.int .i64 (.ofNat 0)),.nilsl,.nilsl,.nilsl,.nilsl,(.int .i64 (.ofNat 0)),(.int .i64 (.ofNat 0)),.nilsl,(.bool false)]))⟩] [(q3_1,(.l 1)),(q3_5,(.l 0))]) (.seq 
(.drw [(⟨none, .fa 0 (.t q3_1)⟩,[]),(⟨none, .fa 0 (.l 0)⟩,[]),(⟨none, .load 1 false (.l 0)⟩,[]),(⟨none, .call (.c (.fn 52 [])) [(.l 0)]⟩,[]),(⟨none, .fa 0 (.t q3_1)⟩,[3]),(⟨none, .fa 1 (.l 0)⟩,[3]),(⟨none, .load 1 false (.l 0)⟩,[3]),(⟨none, .call (.c (.fn 53 [])) [(.l 0)]⟩,[]),(⟨none, .fa 0 (.t q3_1)⟩,[7, 3]),(⟨none, .fa 2 (.l 0)⟩,[7, 3]),(⟨none, .load 1 false (.l 0)⟩,[7, 3]),(⟨none, .fa 0 (.t q3_1)⟩,[7, 3]),(⟨none, .fa 3 (.l 0)⟩,[7, 3]),(⟨none, .load 1 false (.l 0)⟩,[7, 3]),(⟨none, .fa 0 (.t q3_1)⟩,[7, 3]),(⟨none, .fa 4 (.l 0)⟩,[7, 3]),(⟨none, .load 1 false (.l 0)⟩,[7, 3]),(⟨none, .build [.nilsl,.nilsl,(.int .i64 (.ofNat 0)),(.int .i64 (.ofNat 0)),(.bool false)] [(0,1,(.l 13)),(1,1,(.l 9)),(2,1,(.l 6)),(3,1,(.l 3)),(4,1,(.l 0))]⟩,[]),(⟨none, .fa 0 (.t q3_1)⟩,[]),(⟨none, .store 5 (.l 0) (.l 1)⟩,[])] []) (.seq 
(.drw [(⟨none, .fa 33 (.t q3_1)⟩,[]),(⟨none, .fa 0 (.l 0)⟩,[]),(⟨none, .load 1 false (.l 0)⟩,[]),(⟨none, .call (.c (.fn 54 [])) [(.l 0)]⟩,[]),(⟨none, .fa 33 (.t q3_1)⟩,[3]),(⟨none, .fa 1 (.l 0)⟩,[3]),(⟨none, .load 1 false (.l 0)⟩,[3]),(⟨none, .call (.c (.fn 54 [])) [(.l 0)]⟩,[]),(⟨none, .fa 33 (.t q3_1)⟩,[7, 3]),(⟨none, .fa 2 (.l 0)⟩,[7, 3]),(⟨none, .load 1 false (.l 0)⟩,[7, 3]),(⟨none, .call (.c (.fn 54 [])) [(.l 0)]⟩,[]),(⟨none, .fa 33 (.t q3_1)⟩,[11, 7, 3]),(⟨none, .fa 3 (.l 0)⟩,[11, 7, 3]),(⟨none, .load 1 false (.l 0)⟩,[11, 7, 3]),(⟨none, .call (.c (.fn 54 [])) [(.l 0)]⟩,[]),(⟨none, .build [.nilsl,.nilsl,.nilsl,.nilsl] [(0,1,(.l 12)),(1,1,(.l 8)),(2,1,(.l 4)),(3,1,(.l 0))]⟩,[]),(⟨none, .fa 33 (.t q3_1)⟩,[]),(⟨none, .store 4 (.l 0) (.l 1)⟩,[])] []) (.seq 
(.reg [⟨none, .fa 39 (.t q3_1)⟩,⟨none, .load 1 false (.l 0)⟩,⟨none, .call (.c (.fn 55 [])) [(.l 0)]⟩,⟨none, .fa 39 (.t q3_1)⟩,⟨none, .store 1 (.l 0) (.l 1)⟩] []) (.seq (.seq 
(.reg [⟨none, .fa 39 (.t q3_1)⟩,⟨none, .load 1 false (.l 0)⟩,⟨none, .len (.l 0)⟩] [(q3_2,k0),(q3_3,(.l 0))]) (.block 0 (.loop (.seq 
(.reg [⟨none, .bin .lt (.t q3_2) (.t q3_3)⟩] [(q3_6,(.l 0))]) (.seq (.cond (.t q3_6) .skip (.exit 0)) (.seq (.block 1 (.seq 
(.reg [] [(q3_4,(.t q3_2))]) 
(.drw [(⟨none, .fa 39 (.t q3_1)⟩,[]),(⟨none, .load 1 false (.l 0)⟩,[]),(⟨none, .ia 5 (.l 0) (.t q3_4)⟩,[]),(⟨none, .fa 4 (.l 0)⟩,[]),(⟨none, .load 1 false (.l 0)⟩,[]),(⟨none, .call (.c (.fn 56 [])) [(.l 0)]⟩,[]),(⟨none, .fa 39 (.t q3_1)⟩,[5]),(⟨none, .load 1 false (.l 0)⟩,[5]),(⟨none, .ia 5 (.l 0) (.t q3_4)⟩,[]),(⟨none, .fa 4 (.l 0)⟩,[]),(⟨none, .store 1 (.l 0) (.l 4)⟩,[])] []))) 
(.reg [⟨none, .bin .add (.t q3_2) k1⟩] [(q3_2,(.l 0))]))))))) (.seq 
(.reg [⟨none, .load 41 true (.t q3_1)⟩,⟨none, .store 41 (.t q3_5) (.l 0)⟩] []) .ret)))))), [(q3_5, some (41,true))]⟩
def a24 : FN := ⟨full 1, [some q1_0], (.seq 
(.reg [] [(q1_1,(.c (.bool false)))]) (.seq 
(.reg [⟨none, .bin .ge (.t q1_0) (.c (.int .i64 (.ofNat 40)))⟩,⟨(some ((.l 0),true)), .mov (.t q1_0)⟩,⟨(some ((.l 1),true)), .bin .le (.l 0) (.c (.int .i64 (.ofNat 240)))⟩,⟨none, .pick (.l 2) (.l 0) (.c (.bool false))⟩] [(q1_1,(.l 0))]) .ret)), [(q1_1, none)]⟩
def a25 : FN := ⟨full 4, [some q4_1,some q4_3], (.seq 
(.reg [] [(q4_10,(.c .nilsl)),(q4_11,(.c (.str []))),(q4_12,(.c (.bool false)))]) (.seq 
(.reg [] [(q4_6,(.c .nilsl))]) (.seq (.seq 
(.reg [] [(q4_0,k0)]) (.block 0 (.loop (.seq (.seq 
(.reg [⟨none, .lens (.t q4_1)⟩,⟨none, .bin .lt (.t q4_0) (.l 0)⟩] [(q4_7,(.l 0))]) (.cond (.t q4_7) .skip (.exit 0))) (.seq (.block 1 (.seq 
(.reg [⟨none, .idx (.t q4_1) (.t q4_0)⟩,⟨none, .conv .i64 (.l 0)⟩,⟨none, .bin .sub (.l 0) (.c (.int .i64 (.ofNat 48)))⟩] [(q4_2,(.l 0))]) (.seq (.seq 
(.reg [⟨none, .bin .lt (.t q4_2) k1⟩,⟨(some ((.l 0),false)), .mov (.t q4_2)⟩,⟨(some ((.l 1),false)), .bin .gt (.l 0) k4⟩,⟨none, .pick (.l 2) (.c (.bool true)) (.l 0)⟩,⟨(some ((.l 0),false)), .mov (.t q4_3)⟩,⟨(some ((.l 1),false)), .lens (.l 0)⟩,⟨(some ((.l 2),false)), .mov (.t q4_2)⟩,⟨(some ((.l 3),false)), .bin .lt (.l 1) (.l 0)⟩,⟨none, .pick (.l 4) (.c (.bool true)) (.l 0)⟩] [(q4_8,(.l 0))]) (.cond (.t q4_8) (.seq 
(.reg [] [(q4_10,(.c .nilsl)),(q4_11,(.c (.str []))),(q4_12,(.c (.bool false)))]) .ret) .skip)) (.seq 
(.reg [] [(q4_5,k0)]) (.seq (.seq 
(.reg [] [(q4_4,k0)]) (.block 2 (.loop (.seq (.seq 
(.reg [⟨none, .bin .lt (.t q4_4) (.t q4_2)⟩] [(q4_9,(.l 0))]) (.cond (.t q4_9) .skip (.exit 2))) (.seq (.block 3 
(.reg [⟨none, .bin .mul (.t q4_5) (.c (.int .i64 (.ofNat 256)))⟩,⟨none, .idx (.t q4_3) (.t q4_4)⟩,⟨none, .conv .i64 (.l 0)⟩,⟨none, .bin .add (.l 2) (.l 0)⟩] [(q4_5,(.l 0))])) 
(.reg [⟨none, .bin .add (.t q4_4) k1⟩] [(q4_4,(.l 0))])))))) 
(.drw [(⟨none, .mks 1 1 [(.int .i64 (.ofNat 0))] [(0,1,(.t q4_5))]⟩,[]),(⟨none, .app 1 (.t q4_6) (.l 0)⟩,[]),(⟨none, .slc 0 (.t q4_3) (some (.t q4_2)) none none⟩,[1])] [(q4_3,(.l 0)),(q4_6,(.l 1))])))))) 
(.reg [⟨none, .bin .add (.t q4_0) k1⟩] [(q4_0,(.l 0))])))))) (.seq 
(.reg [] [(q4_10,(.t q4_6)),(q4_11,(.t q4_3)),(q4_12,(.c (.bool true)))]) .ret)))), [(q4_10, none),(q4_11, none),(q4_12, none)]⟩
def a26 : FN := ⟨full 4, [some q4_2,some q4_1], (.seq 
(.reg [] [(q4_11,(.c .nilsl)),(q4_12,(.c (.str []))),(q4_13,(.c (.bool false)))]) (.seq 
(.reg [] [(q4_6,(.c .nilsl))]) (.seq (.seq 
(.reg [] [(q4_0,k0)]) (.block 0 (.loop (.seq (.seq 
(.reg [⟨none, .bin .lt (.t q4_0) (.t q4_1)⟩] [(q4_8,(.l 0))]) (.cond (.t q4_8) .skip (.exit 0))) (.seq (.block 1 (.seq 
(.reg [⟨none, .call (.c (.fn 25 [])) [(.c (.str [50,52,52,52,52,52])),(.t q4_2)]⟩,⟨none, .ext (.l 0) 0⟩,⟨none, .ext (.l 1) 1⟩,⟨none, .ext (.l 2) 2⟩] [(q4_3,(.l 0)),(q4_4,(.l 2)),(q4_7,(.l 1))]) (.seq (.seq 
(.reg [⟨none, .not (.t q4_3)⟩] [(q4_9,(.l 0))]) (.cond (.t q4_9) (.seq 
(.reg [] [(q4_11,(.c .nilsl)),(q4_12,(.c (.str []))),(q4_13,(.c (.bool false)))]) .ret) .skip)) (.seq 
(.drw [(⟨none, .ia 1 (.t q4_4) k0⟩,[]),(⟨none, .load 1 false (.l 0)⟩,[]),(⟨none, .ia 1 (.t q4_4) k1⟩,[]),(⟨none, .load 1 false (.l 0)⟩,[]),(⟨none, .ia 1 (.t q4_4) k2⟩,[]),(⟨none, .load 1 false (.l 0)⟩,[]),(⟨none, .conv .u32 (.l 0)⟩,[]),(⟨none, .ia 1 (.t q4_4) k3⟩,[]),(⟨none, .load 1 false (.l 0)⟩,[]),(⟨none, .conv .u32 (.l 0)⟩,[]),(⟨none, .ia 1 (.t q4_4) k4⟩,[]),(⟨none, .load 1 false (.l 0)⟩,[]),(⟨none, .conv .u32 (.l 0)⟩,[]),(⟨none, .ia 1 (.t q4_4) k5⟩,[]),(⟨none, .load 1 false (.l 0)⟩,[]),(⟨none, .conv .u32 (.l 0)⟩,[]),(⟨none, .build [(.int .u32 (.ofNat 0)),(.int .u32 (.ofNat 0)),(.int .u32 (.ofNat 0)),(.int .u32 (.ofNat 0))] [(0,1,(.l 9)),(1,1,(.l 6)),(2,1,(.l 3)),(3,1,(.l 0))]⟩,[]),(⟨none, .build [(.int .i64 (.ofNat 0)),(.int .i64 (.ofNat 0)),(.int .u32 (.ofNat 0)),(.int .u32 (.ofNat 0)),(.int .u32 (.ofNat 0)),(.int .u32 (.ofNat 0))] [(0,1,(.l 15)),(1,1,(.l 13)),(2,4,(.l 0))]⟩,[]),(⟨none, .box (.c (.agg [(.int .i64 (.ofNat 0)),(.int .i64 (.ofNat 0)),(.int .u32 (.ofNat 0)),(.int .u32 (.ofNat 0)),(.int .u32 (.ofNat 0)),(.int .u32 (.ofNat 0))]))⟩,[]),(⟨none, .store 6 (.l 0) (.l 1)⟩,[])] [(q4_5,(.l 1))]) (.seq (.seq 
(.reg [⟨none, .load 6 true (.t q4_5)⟩,⟨none, .call (.c (.fn 57 [])) [(.l 0)]⟩,⟨none, .not (.l 0)⟩] [(q4_10,(.l 0))]) (.cond (.t q4_10) (.seq 
(.reg [] [(q4_11,(.c .nilsl)),(q4_12,(.c (.str []))),(q4_13,(.c (.bool false)))]) .ret) .skip)) 
(.reg [⟨none, .load 6 true (.t q4_5)⟩,⟨none, .mks 1 6 [(.int .i64 (.ofNat 0)),(.int .i64 (.ofNat 0)),(.int .u32 (.ofNat 0)),(.int .u32 (.ofNat 0)),(.int .u32 (.ofNat 0)),(.int .u32 (.ofNat 0))] [(0,6,(.l 0))]⟩,⟨none, .app 6 (.t q4_6) (.l 0)⟩] [(q4_2,(.t q4_7)),(q4_6,(.l 0))])))))) 
(.reg [⟨none, .bin .add (.t q4_0) k1⟩] [(q4_0,(.l 0))])))))) (.seq 
(.reg [] [(q4_11,(.t q4_6)),(q4_12,(.t q4_2)),(q4_13,(.c (.bool true)))]) .ret)))), [(q4_11, none),(q4_12, none),(q4_13, none)]⟩
def a27 : FN := ⟨full 2, [some q2_0], (.seq 
(.reg [⟨none, .box (.t q2_0)⟩] [(q2_1,(.l 0)),(q2_3,(.c (.str [])))]) (.seq (.seq 
(.reg [⟨none, .load 9 true (.t q2_1)⟩,⟨none, .call (.c (.fn 58 [])) [(.l 0)]⟩,⟨none, .not (.l 0)⟩] [(q2_2,(.l 0))]) (.cond (.t q2_2) (.seq 
(.reg [] [(q2_3,(.c (.str [])))]) .ret) .skip)) (.seq 
(.drw [(⟨none, .fa 0 (.t q2_1)⟩,[]),(⟨none, .load 1 false (.l 0)⟩,[]),(⟨none, .fa 1 (.t q2_1)⟩,[]),(⟨none, .load 1 false (.l 0)⟩,[]),(⟨none, .fa 2 (.t q2_1)⟩,[]),(⟨none, .load 1 false (.l 0)⟩,[]),(⟨none, .mks 4 1 [(.int .i64 (.ofNat 0))] [(0,1,(.c (.int .i64 (.ofNat 171)))),(1,1,(.l 4)),(2,1,(.l 2)),(3,1,(.l 0))]⟩,[]),(⟨none, .call (.c (.fn 30 [])) [(.c (.str [49,52,52,49])),(.l 0)]⟩,[]),(⟨none, .fa 3 (.t q2_1)⟩,[7]),(⟨none, .load 6 true (.l 0)⟩,[7]),(⟨none, .mks 1 6 [(.int .i64 (.ofNat 0)),(.int .i64 (.ofNat 0)),(.int .u32 (.ofNat 0)),(.int .u32 (.ofNat 0)),(.int .u32 (.ofNat 0)),(.int .u32 (.ofNat 0))] [(0,6,(.l 0))]⟩,[7]),(⟨none, .call (.c (.fn 59 [])) [(.l 0)]⟩,[]),(⟨none, .bin .add (.l 4) (.l 0)⟩,[]),(⟨none, .call (.c (.fn 29 [])) [(.l 0)]⟩,[])] [(q2_3,(.l 0))]) .ret))), [(q2_3, none)]⟩
def a28 : FN := ⟨full 1, [some q1_0], (.seq 
(.reg [] [(q1_1,(.c (.bool false)))]) (.seq 
(.reg [⟨none, .bin .ge (.t q1_0) k0⟩,⟨(some ((.l 0),true)), .mov (.t q1_0)⟩,⟨(some ((.l 1),true)), .bin .le (.l 0) (.c (.int .i64 (.ofNat 1073741824)))⟩,⟨none, .pick (.l 2) (.l 0) (.c (.bool false))⟩] [(q1_1,(.l 0))]) .ret)), [(q1_1, none)]⟩
def a29 : FN := ⟨full 2, [some q2_0], (.seq 
(.reg [] [(q2_2,(.c (.str [])))]) (.seq 
(.reg [⟨none, .call (.c (.fn 60 [])) [(.t q2_0)]⟩,⟨none, .box (.c (.agg [(.int .u32 (.ofNat 0)),(.int .u32 (.ofNat 0)),(.int .u32 (.ofNat 0)),(.int .u32 (.ofNat 0))]))⟩,⟨none, .store 4 (.l 0) (.l 1)⟩] [(q2_1,(.l 1))]) (.seq 
(.reg [⟨none, .iap 4 1 (.t q2_1) k0⟩,⟨none, .load 1 false (.l 0)⟩,⟨none, .conv .i64 (.l 0)⟩,⟨none, .iap 4 1 (.t q2_1) k1⟩,⟨none, .load 1 false (.l 0)⟩,⟨none, .conv .i64 (.l 0)⟩,⟨none, .iap 4 1 (.t q2_1) k2⟩,⟨none, .load 1 false (.l 0)⟩,⟨none, .conv .i64 (.l 0)⟩,⟨none, .iap 4 1 (.t q2_1) k3⟩,⟨none, .load 1 false (.l 0)⟩,⟨none, .conv .i64 (.l 0)⟩,⟨none, .mks 4 1 [(.int .i64 (.ofNat 0))] [(0,1,(.l 9)),(1,1,(.l 6)),(2,1,(.l 3)),(3,1,(.l 0))]⟩,⟨none, .call (.c (.fn 30 [])) [(.c (.str [52,52,52,52])),(.l 0)]⟩,⟨none, .bin .add (.t q2_0) (.l 0)⟩] [(q2_0,(.l 0))]) (.seq 
(.reg [⟨none, .lens (.t q2_0)⟩,⟨none, .bin .sub (.c (.int .i64 (.ofNat 256))) (.l 0)⟩,⟨none, .call (.c (.fn 61 [])) [(.l 0)]⟩,⟨none, .bin .add (.t q2_0) (.l 0)⟩] [(q2_2,(.l 0))]) .ret)))), [(q2_2, none)]⟩
def a30 : FN := ⟨full 4, [some q4_0,some q4_1], (.seq 
(.reg [] [(q4_10,(.c (.str [])))]) (.seq (.seq 
(.reg [⟨none, .lens (.t q4_0)⟩,⟨none, .len (.t q4_1)⟩,⟨none, .bin .ne (.l 1) (.l 0)⟩] [(q4_6,(.l 0))]) (.cond (.t q4_6) (.seq 
(.reg [] [(q4_10,(.c (.str [])))]) .ret) .skip)) (.seq 
(.reg [] [(q4_5,(.c (.str [])))]) (.seq (.seq 
(.reg [] [(q4_2,k0)]) (.block 0 (.loop (.seq (.seq 
(.reg [⟨none, .lens (.t q4_0)⟩,⟨none, .bin .lt (.t q4_2) (.l 0)⟩] [(q4_7,(.l 0))]) (.cond (.t q4_7) .skip (.exit 0))) (.seq (.block 1 (.seq 
(.reg [⟨none, .idx (.t q4_0) (.t q4_2)⟩,⟨none, .conv .i64 (.l 0)⟩,⟨none, .bin .sub (.l 0) (.c (.int .i64 (.ofNat 48)))⟩] [(q4_3,(.l 0))]) (.seq (.seq 
(.reg [⟨none, .bin .lt (.t q4_3) k1⟩,⟨(some ((.l 0),false)), .mov (.t q4_3)⟩,⟨(some ((.l 1),false)), .bin .gt (.l 0) k4⟩,⟨none, .pick (.l 2) (.c (.bool true)) (.l 0)⟩] [(q4_8,(.l 0))]) (.cond (.t q4_8) (.seq 
(.reg [] [(q4_10,(.c (.str [])))]) .ret) .skip)) (.seq 
(.reg [⟨none, .bin .sub (.t q4_3) k1⟩] [(q4_4,(.l 0))]) (.block 2 (.loop (.seq (.seq 
(.reg [⟨none, .bin .ge (.t q4_4) k0⟩] [(q4_9,(.l 0))]) (.cond (.t q4_9) .skip (.exit 2))) (.seq (.block 3 
(.reg [⟨none, .ia 1 (.t q4_1) (.t q4_2)⟩,⟨none, .load 1 false (.l 0)⟩,⟨none, .bin .mul k8 (.t q4_4)⟩,⟨none, .bin .shr (.l 1) (.l 0)⟩,⟨none, .conv .u8 (.l 0)⟩,⟨none, .mks 1 1 [(.int .u8 (.ofNat 0))] [(0,1,(.l 0))]⟩,⟨none, .b2s (.l 0)⟩,⟨none, .bin .add (.t q4_5) (.l 0)⟩] [(q4_5,(.l 0))])) 
(.reg [⟨none, .bin .sub (.t q4_4) k1⟩] [(q4_4,(.l 0))]))))))))) 
(.reg [⟨none, .bin .add (.t q4_2) k1⟩] [(q4_2,(.l 0))])))))) (.seq 
(.reg [] [(q4_10,(.t q4_5))]) .ret))))), [(q4_10, none)]⟩
def a31 : FN := ⟨full 3, [some q3_0], (.seq 
(.reg [] [(q3_7,k0)]) (.seq 
(.reg [] [(q3_4,k0)]) (.seq (.seq 
(.reg [⟨none, .len (.t q3_0)⟩] [(q3_1,k0),(q3_2,(.l 0)),(q3_3,(.t q3_0))]) (.block 0 (.loop (.seq 
(.reg [⟨none, .bin .lt (.t q3_1) (.t q3_2)⟩] [(q3_6,(.l 0))]) (.seq (.cond (.t q3_6) .skip (.exit 0)) (.seq (.block 1 (.seq 
(.reg [⟨none, .ia 2 (.t q3_3) (.t q3_1)⟩,⟨none, .load 2 true (.l 0)⟩,⟨none, .box (.c (.agg [(.int .i64 (.ofNat 0)),(.int .i64 (.ofNat 0))]))⟩,⟨none, .store 2 (.l 0) (.l 1)⟩] [(q3_5,(.l 1))]) 
(.reg [⟨none, .fa 1 (.t q3_5)⟩,⟨none, .load 1 false (.l 0)⟩,⟨none, .fa 0 (.t q3_5)⟩,⟨none, .load 1 false (.l 0)⟩,⟨none, .bin .sub (.l 2) (.l 0)⟩,⟨none, .bin .add (.t q3_4) (.l 0)⟩] [(q3_4,(.l 0))]))) 
(.reg [⟨none, .bin .add (.t q3_1) k1⟩] [(q3_1,(.l 0))]))))))) (.seq 
(.reg [] [(q3_7,(.t q3_4))]) .ret)))), [(q3_7, none)]⟩
def a32 : FN := ⟨full 4, [some q4_2,some q4_0], (.seq 
(.reg [⟨none, .box (.t q4_0)⟩] [(q4_1,(.l 0)),(q4_10,(.c .nilsl))]) (.seq 
(.reg [⟨none, .load 4 true (.t q4_1)⟩,⟨none, .build [.nilsl,.nilsl,.nilsl,.nilsl] [(0,4,(.l 0))]⟩,⟨none, .build [.nilsl,.nilsl,.nilsl,.nilsl,(.int .i64 (.ofNat 0))] [(0,4,(.l 0)),(4,1,(.t q4_2))]⟩,⟨none, .box (.c (.agg [.nilsl,.nilsl,.nilsl,.nilsl,(.int .i64 (.ofNat 0))]))⟩,⟨none, .store 5 (.l 0) (.l 1)⟩] [(q4_3,(.l 1))]) (.seq (.seq 
(.reg [⟨none, .load 5 true (.t q4_3)⟩,⟨none, .call (.c (.fn 62 [])) [(.l 0)]⟩,⟨none, .not (.l 0)⟩] [(q4_8,(.l 0))]) (.cond (.t q4_8) (.seq 
(.reg [] [(q4_10,(.c .nilsl))]) .ret) .skip)) (.seq 
(.reg [⟨none, .load 5 true (.t q4_3)⟩,⟨none, .call (.c (.fn 63 [])) [(.l 0)]⟩] [(q4_6,(.l 0))]) (.seq (.seq 
(.reg [⟨none, .fa 0 (.t q4_3)⟩,⟨none, .load 4 true (.l 0)⟩,⟨none, .call (.c (.fn 64 [])) [(.l 0)]⟩] [(q4_4,k0),(q4_5,(.l 0))]) (.block 0 (.loop (.seq 
(.reg [⟨none, .bin .lt (.t q4_4) k4⟩] [(q4_9,(.l 0))]) (.seq (.cond (.t q4_9) .skip (.exit 0)) (.seq (.block 1 (.seq 
(.reg [⟨none, .idxa 4 1 false (.t q4_5) (.t q4_4)⟩] [(q4_7,(.l 0))]) 
(.reg [⟨none, .call (.c (.fn 65 [])) [(.t q4_6),(.t q4_7)]⟩] [(q4_6,(.l 0))]))) 
(.reg [⟨none, .bin .add (.t q4_4) k1⟩] [(q4_4,(.l 0))]))))))) (.seq 
(.reg [] [(q4_10,(.t q4_6))]) .ret)))))), [(q4_10, none)]⟩
def a33 : FN := ⟨full 1, [some q1_0], (.seq 
(.reg [] [(q1_1,k0)]) (.seq 
(.reg [⟨none, .nilc (.t q1_0)⟩,⟨none, .fa 0 (.l 0)⟩,⟨none, .fa 0 (.l 0)⟩,⟨none, .fa 0 (.l 0)⟩,⟨none, .load 1 false (.l 0)⟩,⟨none, .len (.l 0)⟩,⟨none, .bin .sub (.l 0) (.c (.int .i64 (.ofNat 28)))⟩] [(q1_1,(.l 0))]) .ret)), [(q1_1, none)]⟩
def a34 : FN := ⟨full 4, [some q4_0,some q4_1], (.seq 
(.reg [] [(q4_8,(.c (.bool false)))]) (.seq (.seq 
(.reg [⟨none, .len (.t q4_0)⟩,⟨none, .len (.t q4_1)⟩,⟨none, .bin .ne (.l 1) (.l 0)⟩] [(q4_5,(.l 0))]) (.cond (.t q4_5) (.seq 
(.reg [] [(q4_8,(.c (.bool false)))]) .ret) .skip)) (.seq (.seq 
(.reg [⟨none, .len (.t q4_0)⟩] [(q4_2,k0),(q4_3,(.l 0))]) (.block 0 (.loop (.seq 
(.reg [⟨none, .bin .lt (.t q4_2) (.t q4_3)⟩] [(q4_6,(.l 0))]) (.seq (.cond (.t q4_6) .skip (.exit 0)) (.seq (.block 1 (.seq 
(.reg [] [(q4_4,(.t q4_2))]) (.seq 
(.drw [(⟨none, .ia 1 (.t q4_0) (.t q4_4)⟩,[]),(⟨none, .load 1 false (.l 0)⟩,[]),(⟨none, .ia 1 (.t q4_1) (.t q4_4)⟩,[]),(⟨none, .load 1 false (.l 0)⟩,[]),(⟨none, .bin .ne (.l 2) (.l 0)⟩,[])] [(q4_7,(.l 0))]) (.cond (.t q4_7) (.seq 
(.reg [] [(q4_8,(.c (.bool false)))]) .ret) .skip)))) 
(.reg [⟨none, .bin .add (.t q4_2) k1⟩] [(q4_2,(.l 0))]))))))) (.seq 
(.reg [] [(q4_8,(.c (.bool true)))]) .ret)))), [(q4_8, none)]⟩
def a35 : FN := ⟨full 4, [some q4_0,some q4_1], (.seq 
(.reg [] [(q4_8,(.c (.bool false)))]) (.seq (.seq 
(.reg [⟨none, .len (.t q4_0)⟩,⟨none, .len (.t q4_1)⟩,⟨none, .bin .ne (.l 1) (.l 0)⟩] [(q4_5,(.l 0))]) (.cond (.t q4_5) (.seq 
(.reg [] [(q4_8,(.c (.bool false)))]) .ret) .skip)) (.seq (.seq 
(.reg [⟨none, .len (.t q4_0)⟩] [(q4_2,k0),(q4_3,(.l 0))]) (.block 0 (.loop (.seq 
(.reg [⟨none, .bin .lt (.t q4_2) (.t q4_3)⟩] [(q4_6,(.l 0))]) (.seq (.cond (.t q4_6) .skip (.exit 0)) (.seq (.block 1 (.seq 
(.reg [] [(q4_4,(.t q4_2))]) (.seq 
(.drw [(⟨none, .ia 2 (.t q4_0) (.t q4_4)⟩,[]),(⟨none, .load 2 true (.l 0)⟩,[]),(⟨none, .ia 2 (.t q4_1) (.t q4_4)⟩,[]),(⟨none, .load 2 true (.l 0)⟩,[]),(⟨none, .eqa [1, 2] true (.l 2) (.l 0)⟩,[])] [(q4_7,(.l 0))]) (.cond (.t q4_7) (.seq 
(.reg [] [(q4_8,(.c (.bool false)))]) .ret) .skip)))) 
(.reg [⟨none, .bin .add (.t q4_2) k1⟩] [(q4_2,(.l 0))]))))))) (.seq 
(.reg [] [(q4_8,(.c (.bool true)))]) .ret)))), [(q4_8, none)]⟩
def a36 : FN := ⟨full 4, [some q4_0,some q4_1], (.seq 
(.reg [⟨none, .box (.t q4_0)⟩,⟨none, .box (.t q4_1)⟩] [(q4_2,(.l 1)),(q4_3,(.l 0)),(q4_10,(.c (.bool false)))]) (.seq 
(.drw [(⟨none, .load 4 true (.t q4_2)⟩,[]),(⟨none, .build [.nilsl,.nilsl,.nilsl,.nilsl] [(0,4,(.l 0))]⟩,[]),(⟨none, .call (.c (.fn 64 [])) [(.l 0)]⟩,[]),(⟨none, .load 4 true (.t q4_3)⟩,[2]),(⟨none, .build [.nilsl,.nilsl,.nilsl,.nilsl] [(0,4,(.l 0))]⟩,[2]),(⟨none, .call (.c (.fn 64 [])) [(.l 0)]⟩,[]),(⟨none, .box (.c (.agg [.nilsl,.nilsl,.nilsl,.nilsl]))⟩,[5, 2]),(⟨none, .box (.c (.agg [.nilsl,.nilsl,.nilsl,.nilsl]))⟩,[5, 2]),(⟨none, .store 4 (.l 1) (.l 5)⟩,[]),(⟨none, .store 4 (.l 1) (.l 3)⟩,[])] [(q4_6,(.l 3)),(q4_7,(.l 2))]) (.seq (.seq 
(.reg [] [(q4_4,k0)]) (.block 0 (.loop (.seq 
(.reg [⟨none, .bin .lt (.t q4_4) k4⟩] [(q4_8,(.l 0))]) (.seq (.cond (.t q4_8) .skip (.exit 0)) (.seq (.block 1 (.seq 
(.reg [] [(q4_5,(.t q4_4))]) (.seq 
(.drw [(⟨none, .iap 4 1 (.t q4_6) (.t q4_5)⟩,[]),(⟨none, .load 1 false (.l 0)⟩,[]),(⟨none, .iap 4 1 (.t q4_7) (.t q4_5)⟩,[]),(⟨none, .load 1 false (.l 0)⟩,[]),(⟨none, .call (.c (.fn 66 [])) [(.l 2),(.l 0)]⟩,[]),(⟨none, .not (.l 0)⟩,[])] [(q4_9,(.l 0))]) (.cond (.t q4_9) (.seq 
(.reg [] [(q4_10,(.c (.bool false)))]) .ret) .skip)))) 
(.reg [⟨none, .bin .add (.t q4_4) k1⟩] [(q4_4,(.l 0))]))))))) (.seq 
(.reg [] [(q4_10,(.c (.bool true)))]) .ret)))), [(q4_10, none)]⟩
def a37 : FN := ⟨full 2, [some q2_0,some q2_1], (.seq 
(.reg [] [(q2_2,(.c (.bool false)))]) (.seq 
(.reg [⟨none, .call (.c (.fn 67 [])) [(.t q2_0),(.t q2_1),(.c (.fn 68 []))]⟩] [(q2_2,(.l 0))]) .ret)), [(q2_2, none)]⟩
def a38 : FN := ⟨full 3, [some q3_0], (.seq 
(.reg [] [(q3_6,(.c (.str [])))]) (.seq 
(.reg [] [(q3_3,(.c .nilsl))]) (.seq (.seq 
(.reg [⟨none, .mks 1 1 [(.str [])] [(0,1,(.t q3_0))]⟩,⟨none, .call (.c (.fn 70 [])) [(.l 0)]⟩] [(q3_1,k0),(q3_2,(.l 0))]) (.block 0 (.loop (.seq 
(.reg [⟨none, .bin .lt (.t q3_1) k4⟩] [(q3_5,(.l 0))]) (.seq (.cond (.t q3_5) .skip (.exit 0)) (.seq (.block 1 (.seq 
(.reg [⟨none, .idxa 4 1 false (.t q3_2) (.t q3_1)⟩] [(q3_4,(.l 0))]) 
(.reg [⟨none, .conv .i64 (.t q3_4)⟩,⟨none, .mks 1 1 [(.int .i64 (.ofNat 0))] [(0,1,(.l 0))]⟩,⟨none, .app 1 (.t q3_3) (.l 0)⟩] [(q3_3,(.l 0))]))) 
(.reg [⟨none, .bin .add (.t q3_1) k1⟩] [(q3_1,(.l 0))]))))))) (.seq 
(.reg [⟨none, .call (.c (.fn 39 [])) [(.c (.str [52,52,52,52])),(.t q3_3)]⟩,⟨none, .bin .add (.t q3_0) (.l 0)⟩] [(q3_0,(.l 0))]) (.seq 
(.reg [⟨none, .lens (.t q3_0)⟩,⟨none, .bin .sub (.c (.int .i64 (.ofNat 256))) (.l 0)⟩,⟨none, .call (.c (.fn 71 [])) [(.c (.str [0])),(.l 0)]⟩,⟨none, .bin .add (.t q3_0) (.l 0)⟩] [(q3_6,(.l 0))]) .ret))))), [(q3_6, none)]⟩
def a39 : FN := ⟨full 4, [some q4_0,some q4_3], (.seq 
(.reg [] [(q4_14,(.c (.str [])))]) (.seq 
(.reg [⟨none, .call (.c (.fn 72 [])) [(.t q4_0)]⟩,⟨none, .ext (.l 0) 0⟩,⟨none, .ext (.l 1) 1⟩,⟨none, .ext (.l 2) 2⟩] [(q4_1,(.l 0)),(q4_2,(.l 2))]) (.seq (.seq 
(.reg [⟨none, .not (.t q4_1)⟩,⟨(some ((.l 0),false)), .mov (.t q4_2)⟩,⟨(some ((.l 1),false)), .len (.l 0)⟩,⟨(some ((.l 2),false)), .mov (.t q4_3)⟩,⟨(some ((.l 3),false)), .len (.l 0)⟩,⟨(some ((.l 4),false)), .bin .ne (.l 2) (.l 0)⟩,⟨none, .pick (.l 5) (.c (.bool true)) (.l 0)⟩] [(q4_11,(.l 0))]) (.cond (.t q4_11) (.seq 
(.reg [] [(q4_14,(.c (.str [])))]) .ret) .skip)) (.seq 
(.reg [] [(q4_9,(.c .nilsl))]) (.seq (.seq 
(.reg [⟨none, .len (.t q4_3)⟩] [(q4_4,k0),(q4_5,(.l 0)),(q4_6,(.t q4_3))]) (.block 0 (.loop (.seq 
(.reg [⟨none, .bin .lt (.t q4_4) (.t q4_5)⟩] [(q4_12,(.l 0))]) (.seq (.cond (.t q4_12) .skip (.exit 0)) (.seq (.block 1 (.seq 
(.reg [⟨none, .ia 1 (.t q4_6) (.t q4_4)⟩,⟨none, .load 1 false (.l 0)⟩] [(q4_7,(.t q4_4)),(q4_10,(.l 0))]) (.seq 
(.reg [⟨none, .ia 1 (.t q4_2) (.t q4_7)⟩,⟨none, .load 1 false (.l 0)⟩,⟨none, .bin .sub (.l 0) k1⟩] [(q4_8,(.l 0))]) (.block 2 (.loop (.seq (.seq 
(.reg [⟨none, .bin .ge (.t q4_8) k0⟩] [(q4_13,(.l 0))]) (.cond (.t q4_13) .skip (.exit 2))) (.seq (.block 3 
(.reg [⟨none, .bin .mul k8 (.t q4_8)⟩,⟨none, .bin .shr (.t q4_10) (.l 0)⟩,⟨none, .conv .u8 (.l 0)⟩,⟨none, .mks 1 1 [(.int .u8 (.ofNat 0))] [(0,1,(.l 0))]⟩,⟨none, .app 1 (.t q4_9) (.l 0)⟩] [(q4_9,(.l 0))])) 
(.reg [⟨none, .bin .sub (.t q4_8) k1⟩] [(q4_8,(.l 0))])))))))) 
(.reg [⟨none, .bin .add (.t q4_4) k1⟩] [(q4_4,(.l 0))]))))))) (.seq 
(.reg [⟨none, .b2s (.t q4_9)⟩] [(q4_14,(.l 0))]) .ret)))))), [(q4_14, none)]⟩
def a40 : FN := ⟨full 1, [some q1_0], (.seq 
(.reg [] [(q1_1,(.c (.bool false)))]) (.seq 
(.reg [⟨none, .bin .ge (.t q1_0) (.c (.int .i64 (.ofNat 40)))⟩,⟨(some ((.l 0),true)), .mov (.t q1_0)⟩,⟨(some ((.l 1),true)), .bin .le (.l 0) (.c (.int .i64 (.ofNat 240)))⟩,⟨none, .pick (.l 2) (.l 0) (.c (.bool false))⟩] [(q1_1,(.l 0))]) .ret)), [(q1_1, none)]⟩
def a41 : FN := ⟨full 4, [some q4_0,some q4_3], (.seq 
(.reg [⟨none, .box (.t q4_0)⟩,⟨none, .box (.c (.agg [.nilsl,.nilsl,(.int .i64 (.ofNat 0)),(.int .i64 (.ofNat 0)),(.bool false)]))⟩] [(q4_1,(.l 1)),(q4_2,(.l 0)),(q4_13,(.c (.bool false)))]) (.seq 
(.reg [⟨none, .load 5 true (.t q4_1)⟩,⟨none, .call (.c (.fn 73 [])) [(.l 0)]⟩,⟨none, .store 5 (.t q4_1) (.l 0)⟩] []) (.seq (.seq 
(.reg [⟨none, .fa 4 (.t q4_1)⟩,⟨none, .load 1 false (.l 0)⟩] [(q4_8,(.l 0))]) (.cond (.t q4_8) (.seq 
(.reg [⟨none, .load 5 true (.t q4_1)⟩,⟨none, .store 5 (.t q4_2) (.l 0)⟩] [(q4_13,(.c (.bool false)))]) .ret) .skip)) (.seq (.seq 
(.reg [⟨none, .len (.t q4_3)⟩] [(q4_4,k0),(q4_5,(.l 0)),(q4_6,(.t q4_3))]) (.block 0 (.loop (.seq 
(.reg [⟨none, .bin .lt (.t q4_4) (.t q4_5)⟩] [(q4_9,(.l 0))]) (.seq (.cond (.t q4_9) .skip (.exit 0)) (.seq (.block 1 (.seq 
(.reg [⟨none, .ia 2 (.t q4_6) (.t q4_4)⟩,⟨none, .load 2 true (.l 0)⟩,⟨none, .box (.c (.agg [(.int .i64 (.ofNat 0)),(.str [])]))⟩,⟨none, .store 2 (.l 0) (.l 1)⟩] [(q4_7,(.l 1))]) (.seq (.seq 
(.reg [⟨none, .load 5 true (.t q4_1)⟩,⟨none, .fa 0 (.t q4_7)⟩,⟨none, .load 1 false (.l 0)⟩,⟨none, .call (.c (.fn 74 [])) [(.l 2),(.l 0)]⟩,⟨none, .not (.l 0)⟩,⟨(some ((.l 0),false)), .fa 1 (.t q4_7)⟩,⟨(some ((.l 1),false)), .load 1 false (.l 0)⟩,⟨(some ((.l 2),false)), .lens (.l 0)⟩,⟨(some ((.l 3),false)), .bin .ne (.l 0) (.c (.int .i64 (.ofNat 256)))⟩,⟨none, .pick (.l 4) (.c (.bool true)) (.l 0)⟩] [(q4_10,(.l 0))]) (.cond (.t q4_10) (.seq 
(.reg [⟨none, .load 5 true (.t q4_1)⟩,⟨none, .store 5 (.t q4_2) (.l 0)⟩] [(q4_13,(.c (.bool false)))]) .ret) .skip)) (.seq 
(.reg [⟨none, .fa 1 (.t q4_1)⟩,⟨none, .load 1 false (.l 0)⟩,⟨none, .load 2 true (.t q4_7)⟩,⟨none, .mks 1 2 [(.int .i64 (.ofNat 0)),(.str [])] [(0,2,(.l 0))]⟩,⟨none, .app 2 (.l 2) (.l 0)⟩,⟨none, .fa 1 (.t q4_1)⟩,⟨none, .store 1 (.l 0) (.l 1)⟩] []) (.seq (.seq 
(.reg [⟨none, .fa 3 (.t q4_1)⟩,⟨none, .load 1 false (.l 0)⟩,⟨none, .bin .le (.l 0) k0⟩] [(q4_11,(.l 0))]) (.cond (.t q4_11) (.exit 1) .skip)) (.seq 
(.reg [⟨none, .fa 3 (.t q4_1)⟩,⟨none, .load 1 false (.l 0)⟩,⟨none, .bin .sub (.l 0) k1⟩,⟨none, .fa 3 (.t q4_1)⟩,⟨none, .store 1 (.l 0) (.l 1)⟩] []) (.seq 
(.reg [⟨none, .fa 3 (.t q4_1)⟩,⟨none, .load 1 false (.l 0)⟩,⟨none, .bin .eq (.l 0) k0⟩] [(q4_12,(.l 0))]) (.cond (.t q4_12) (.seq 
(.reg [⟨none, .fa 4 (.t q4_1)⟩,⟨none, .store 1 (.l 0) (.c (.bool true))⟩] []) (.seq 
(.reg [⟨none, .load 5 true (.t q4_1)⟩,⟨none, .store 5 (.t q4_2) (.l 0)⟩] [(q4_13,(.c (.bool false)))]) .ret)) .skip)))))))) 
(.reg [⟨none, .bin .add (.t q4_4) k1⟩] [(q4_4,(.l 0))]))))))) (.seq 
(.reg [⟨none, .load 5 true (.t q4_1)⟩,⟨none, .store 5 (.t q4_2) (.l 0)⟩] [(q4_13,(.c (.bool true)))]) .ret))))), [(q4_2, some (5,true)),(q4_13, none)]⟩
def a42 : FN := ⟨full 3, [some q3_0], (.seq 
(.reg [⟨none, .box (.t q3_0)⟩,⟨none, .box (.c (.agg [.nilsl,.nilsl,(.int .i64 (.ofNat 0)),(.int .i64 (.ofNat 0)),(.bool false)]))⟩] [(q3_1,(.l 1)),(q3_2,(.l 0)),(q3_5,(.c (.bool false)))]) (.seq 
(.reg [⟨none, .load 5 true (.t q3_1)⟩,⟨none, .call (.c (.fn 73 [])) [(.l 0)]⟩,⟨none, .store 5 (.t q3_1) (.l 0)⟩] []) (.seq (.block 0 (.seq 
(.reg [⟨none, .fa 4 (.t q3_1)⟩,⟨none, .load 1 false (.l 0)⟩] [(q3_3,(.l 0))]) (.cond (.t q3_3) (.seq 
(.reg [⟨none, .load 5 true (.t q3_1)⟩,⟨none, .store 5 (.t q3_2) (.l 0)⟩] [(q3_5,(.c (.bool false)))]) .ret) (.seq 
(.reg [⟨none, .fa 2 (.t q3_1)⟩,⟨none, .load 1 false (.l 0)⟩,⟨none, .bin .gt (.l 0) k0⟩] [(q3_4,(.l 0))]) (.cond (.t q3_4) (.seq 
(.reg [⟨none, .fa 2 (.t q3_1)⟩,⟨none, .load 1 false (.l 0)⟩,⟨none, .bin .sub (.l 0) k1⟩,⟨none, .fa 2 (.t q3_1)⟩,⟨none, .store 1 (.l 0) (.l 1)⟩] []) (.seq 
(.reg [⟨none, .load 5 true (.t q3_1)⟩,⟨none, .store 5 (.t q3_2) (.l 0)⟩] [(q3_5,(.c (.bool true)))]) .ret)) .skip))))) (.seq 
(.reg [⟨none, .call (.c (.fn 75 [])) [(.t q3_1),(.c (.fn 76 []))]⟩] []) (.seq 
(.reg [⟨none, .load 5 true (.t q3_1)⟩,⟨none, .store 5 (.t q3_2) (.l 0)⟩] [(q3_5,(.c (.bool true)))]) .ret))))), [(q3_2, some (5,true)),(q3_5, none)]⟩
def a43 : FN := ⟨full 4, [some q4_0], (.seq 
(.reg [] [(q4_8,(.c (.bool false)))]) (.seq 
(.reg [] [(q4_5,k0)]) (.seq (.seq 
(.reg [⟨none, .len (.t q4_0)⟩] [(q4_1,k0),(q4_2,(.l 0)),(q4_3,(.t q4_0))]) (.block 0 (.loop (.seq 
(.reg [⟨none, .bin .lt (.t q4_1) (.t q4_2)⟩] [(q4_6,(.l 0))]) (.seq (.cond (.t q4_6) .skip (.exit 0)) (.seq (.block 1 (.seq 
(.reg [⟨none, .ia 5 (.t q4_3) (.t q4_1)⟩,⟨none, .load 5 true (.l 0)⟩,⟨none, .box (.c (.agg [(.int .i64 (.ofNat 0)),(.int .i64 (.ofNat 0)),(.int .i64 (.ofNat 0)),(.int .i64 (.ofNat 0)),.nilsl]))⟩,⟨none, .store 5 (.l 0) (.l 1)⟩] [(q4_4,(.l 1))]) (.seq (.seq 
(.reg [⟨none, .fa 0 (.t q4_4)⟩,⟨none, .load 1 false (.l 0)⟩,⟨none, .bin .le (.l 0) (.t q4_5)⟩,⟨(some ((.l 0),false)), .load 5 true (.t q4_4)⟩,⟨(some ((.l 1),false)), .mov (.t q4_0)⟩,⟨(some ((.l 2),false)), .build [(.int .i64 (.ofNat 0)),(.int .i64 (.ofNat 0)),(.int .i64 (.ofNat 0)),(.int .i64 (.ofNat 0)),.nilsl,.nilsl] [(0,5,(.l 1)),(5,1,(.l 0))]⟩,⟨(some ((.l 3),false)), .call (.c (.fn 77 [])) [(.l 0)]⟩,⟨(some ((.l 4),false)), .not (.l 0)⟩,⟨none, .pick (.l 5) (.c (.bool true)) (.l 0)⟩] [(q4_7,(.l 0))]) (.cond (.t q4_7) (.seq 
(.reg [] [(q4_8,(.c (.bool false)))]) .ret) .skip)) 
(.reg [⟨none, .fa 0 (.t q4_4)⟩,⟨none, .load 1 false (.l 0)⟩] [(q4_5,(.l 0))])))) 
(.reg [⟨none, .bin .add (.t q4_1) k1⟩] [(q4_1,(.l 0))]))))))) (.seq 
(.reg [⟨none, .len (.t q4_0)⟩,⟨none, .bin .le (.l 0) k8⟩] [(q4_8,(.l 0))]) .ret)))), [(q4_8, none)]⟩
def a44 : FN := ⟨full 3, [some q3_0,some q3_5,some q3_1], (.seq 
(.reg [⟨none, .box (.c (.agg [.nilsl,.nilsl,(.int .i64 (.ofNat 0)),(.int .i64 (.ofNat 0)),(.int .u32 (.ofNat 0)),(.int .u32 (.ofNat 0)),(.int .u32 (.ofNat 0)),(.int .u32 (.ofNat 0)),.nilsl,.nilsl]))⟩] [(q3_4,(.l 0)),(q3_7,(.c (.bool false)))]) (.seq 
(.drw [(⟨none, .call (.c (.fn 33 [])) [(.t q3_0)]⟩,[]),(⟨none, .nilc (.t q3_0)⟩,[0]),(⟨none, .fa 0 (.l 0)⟩,[0]),(⟨none, .fa 33 (.l 0)⟩,[0]),(⟨none, .load 4 true (.l 0)⟩,[0]),(⟨none, .call (.c (.fn 32 [])) [(.l 4),(.l 0)]⟩,[]),(⟨none, .nilc (.t q3_0)⟩,[5, 0]),(⟨none, .fa 0 (.l 0)⟩,[5, 0]),(⟨none, .fa 38 (.l 0)⟩,[5, 0]),(⟨none, .load 1 false (.l 0)⟩,[5, 0]),(⟨none, .bin .add (.l 0) k1⟩,[5, 0]),(⟨none, .nilc (.t q3_0)⟩,[5, 0]),(⟨none, .fa 0 (.l 0)⟩,[5, 0]),(⟨none, .fa 39 (.l 0)⟩,[5, 0]),(⟨none, .load 1 false (.l 0)⟩,[5, 0]),(⟨none, .call (.c (.fn 78 [])) [(.l 4),(.l 9),(.l 0),(.t q3_1)]⟩,[]),(⟨none, .ext (.l 0) 0⟩,[]),(⟨none, .box (.c (.agg [.nilsl,.nilsl,(.int .i64 (.ofNat 0)),(.int .i64 (.ofNat 0)),(.int .u32 (.ofNat 0)),(.int .u32 (.ofNat 0)),(.int .u32 (.ofNat 0)),(.int .u32 (.ofNat 0)),.nilsl,.nilsl]))⟩,[15, 5, 0]),(⟨none, .store 10 (.l 0) (.l 1)⟩,[]),(⟨none, .ext (.l 3) 1⟩,[18])] [(q3_2,(.l 0)),(q3_3,(.l 2))]) (.seq (.seq 
(.reg [⟨none, .not (.t q3_2)⟩] [(q3_6,(.l 0))]) (.cond (.t q3_6) (.seq 
(.reg [⟨none, .load 10 true (.t q3_3)⟩,⟨none, .store 10 (.t q3_4) (.l 0)⟩] [(q3_7,(.c (.bool false)))]) .ret) .skip)) (.seq 
(.drw [(⟨none, .nilc (.t q3_0)⟩,[]),(⟨none, .fa 0 (.l 0)⟩,[]),(⟨none, .fa 33 (.l 0)⟩,[]),(⟨none, .load 4 true (.l 0)⟩,[]),(⟨none, .fa 8 (.t q3_3)⟩,[]),(⟨none, .load 1 false (.l 0)⟩,[]),(⟨none, .call (.c (.fn 79 [])) [(.l 2),(.l 0)]⟩,[]),(⟨none, .nilc (.t q3_0)⟩,[]),(⟨none, .fa 0 (.l 0)⟩,[]),(⟨none, .fa 33 (.l 0)⟩,[]),(⟨none, .store 4 (.l 0) (.l 3)⟩,[])] []) (.seq 
(.drw [(⟨(some ((.t q3_5),false)), .mov (.t q3_0)⟩,[]),(⟨(some ((.t q3_5),false)), .nilc (.l 0)⟩,[]),(⟨(some ((.t q3_5),false)), .fa 0 (.l 0)⟩,[]),(⟨(some ((.t q3_5),false)), .load 41 true (.l 0)⟩,[]),(⟨(some ((.t q3_5),false)), .call (.c (.fn 14 [])) [(.l 0)]⟩,[]),(⟨none, .load 10 true (.t q3_3)⟩,[4]),(⟨none, .store 10 (.t q3_4) (.l 0)⟩,[]),(⟨(some ((.t q3_5),false)), .bin .ge (.l 2) k6⟩,[6]),(⟨none, .pick (.t q3_5) (.c (.bool true)) (.l 0)⟩,[6])] [(q3_7,(.l 0))]) .ret))))), [(q3_4, some (10,true)),(q3_7, none)]⟩
def a45 : FN := ⟨full 4, [some q4_1,some q4_0], (.seq 
(.reg [⟨none, .box (.t q4_0)⟩] [(q4_2,(.l 0)),(q4_13,(.c .nilsl))]) (.seq 
(.drw [(⟨none, .nilc (.t q4_1)⟩,[]),(⟨none, .fa 0 (.l 0)⟩,[]),(⟨none, .fa 38 (.l 0)⟩,[]),(⟨none, .load 1 false (.l 0)⟩,[]),(⟨none, .bin .add (.l 0) k1⟩,[]),(⟨none, .nilc (.t q4_1)⟩,[]),(⟨none, .fa 0 (.l 0)⟩,[]),(⟨none, .fa 37 (.l 0)⟩,[]),(⟨none, .load 1 false (.l 0)⟩,[]),(⟨none, .nilc (.t q4_1)⟩,[]),(⟨none, .fa 0 (.l 0)⟩,[]),(⟨none, .fa 38 (.l 0)⟩,[]),(⟨none, .store 1 (.l 0) (.l 7)⟩,[]),(⟨none, .bin .add (.l 4) k1⟩,[12]),(⟨none, .bin .rem (.l 0) k6⟩,[12]),(⟨none, .nilc (.t q4_1)⟩,[]),(⟨none, .fa 0 (.l 0)⟩,[]),(⟨none, .fa 37 (.l 0)⟩,[]),(⟨none, .store 1 (.l 0) (.l 3)⟩,[])] []) (.seq 
(.drw [(⟨none, .call (.c (.fn 33 [])) [(.t q4_1)]⟩,[]),(⟨none, .nilc (.t q4_1)⟩,[0]),(⟨none, .fa 0 (.l 0)⟩,[0]),(⟨none, .fa 33 (.l 0)⟩,[0]),(⟨none, .load 4 true (.l 0)⟩,[0]),(⟨none, .call (.c (.fn 80 [])) [(.l 4),(.l 0)]⟩,[]),(⟨none, .nilc (.t q4_1)⟩,[5, 0]),(⟨none, .fa 0 (.l 0)⟩,[5, 0]),(⟨none, .fa 38 (.l 0)⟩,[5, 0]),(⟨none, .load 1 false (.l 0)⟩,[5, 0]),(⟨none, .build [(.int .i64 (.ofNat 0)),(.int .i64 (.ofNat 0)),(.str [])] [(0,1,k5),(1,1,(.l 0)),(2,1,(.l 4))]⟩,[]),(⟨none, .box (.c (.agg [(.int .i64 (.ofNat 0)),(.int .i64 (.ofNat 0)),(.str [])]))⟩,[5, 0]),(⟨none, .store 3 (.l 0) (.l 1)⟩,[])] [(q4_3,(.l 1))]) (.seq 
(.drw [(⟨none, .fa 9 (.t q4_2)⟩,[]),(⟨none, .load 1 false (.l 0)⟩,[]),(⟨none, .ia 1 (.l 0) k0⟩,[]),(⟨none, .load 1 false (.l 0)⟩,[]),(⟨none, .load 3 true (.t q4_3)⟩,[]),(⟨none, .call (.c (.fn 81 [])) [(.l 1),(.l 0)]⟩,[]),(⟨none, .nilc (.t q4_1)⟩,[5]),(⟨none, .fa 0 (.l 0)⟩,[5]),(⟨none, .fa 38 (.l 0)⟩,[5]),(⟨none, .load 1 false (.l 0)⟩,[5]),(⟨none, .nilc (.t q4_1)⟩,[]),(⟨none, .fa 0 (.l 0)⟩,[]),(⟨none, .fa 11 (.l 0)⟩,[]),(⟨none, .fa 0 (.l 0)⟩,[]),(⟨none, .store 1 (.l 0) (.l 4)⟩,[]),(⟨none, .fa 2 (.t q4_2)⟩,[14, 5]),(⟨none, .load 6 true (.l 0)⟩,[14, 5]),(⟨none, .nilc (.t q4_1)⟩,[]),(⟨none, .fa 0 (.l 0)⟩,[]),(⟨none, .fa 11 (.l 0)⟩,[]),(⟨none, .fa 3 (.l 0)⟩,[]),(⟨none, .store 6 (.l 0) (.l 4)⟩,[]),(⟨none, .nilc (.t q4_1)⟩,[]),(⟨none, .fa 0 (.l 0)⟩,[]),(⟨none, .fa 11 (.l 0)⟩,[]),(⟨none, .fa 9 (.l 0)⟩,[]),(⟨none, .store 6 (.l 0) (.l 20)⟩,[])] []) (.seq 
(.drw [(⟨none, .nilc (.t q4_1)⟩,[]),(⟨none, .fa 0 (.l 0)⟩,[]),(⟨none, .fa 11 (.l 0)⟩,[]),(⟨none, .load 22 true (.l 0)⟩,[]),(⟨none, .call (.c (.fn 82 [])) [(.l 0)]⟩,[]),(⟨none, .nilc (.t q4_1)⟩,[4]),(⟨none, .fa 0 (.l 0)⟩,[4]),(⟨none, .fa 38 (.l 0)⟩,[4]),(⟨none, .load 1 false (.l 0)⟩,[4]),(⟨none, .build [(.int .i64 (.ofNat 0)),(.int .i64 (.ofNat 0)),(.str [])] [(0,1,k6),(1,1,(.l 0)),(2,1,(.l 4))]⟩,[]),(⟨none, .box (.c (.agg [(.int .i64 (.ofNat 0)),(.int .i64 (.ofNat 0)),(.str [])]))⟩,[4]),(⟨none, .store 3 (.l 0) (.l 1)⟩,[])] [(q4_4,(.l 1))]) (.seq 
(.drw [(⟨none, .fa 9 (.t q4_2)⟩,[]),(⟨none, .load 1 false (.l 0)⟩,[]),(⟨none, .ia 1 (.l 0) k1⟩,[]),(⟨none, .load 1 false (.l 0)⟩,[]),(⟨none, .load 3 true (.t q4_4)⟩,[]),(⟨none, .call (.c (.fn 81 [])) [(.l 1),(.l 0)]⟩,[]),(⟨none, .nilc (.t q4_1)⟩,[]),(⟨none, .fa 0 (.l 0)⟩,[]),(⟨none, .fa 5 (.l 0)⟩,[]),(⟨none, .store 6 (.l 0) (.l 3)⟩,[])] []) (.seq 
(.reg [⟨none, .fa 1 (.t q4_2)⟩,⟨none, .load 1 false (.l 0)⟩,⟨none, .fa 9 (.t q4_2)⟩,⟨none, .load 1 false (.l 0)⟩,⟨none, .app 1 (.l 2) (.l 0)⟩] [(q4_10,(.l 0))]) (.seq 
(.reg [] [(q4_9,(.c .nilsl))]) (.seq (.seq 
(.reg [⟨none, .fa 0 (.t q4_2)⟩,⟨none, .load 1 false (.l 0)⟩,⟨none, .load 3 true (.t q4_3)⟩,⟨none, .load 3 true (.t q4_4)⟩,⟨none, .mks 2 3 [(.int .i64 (.ofNat 0)),(.int .i64 (.ofNat 0)),(.str [])] [(0,3,(.l 1)),(3,3,(.l 0))]⟩,⟨none, .app 3 (.l 3) (.l 0)⟩,⟨none, .len (.l 0)⟩] [(q4_5,k0),(q4_6,(.l 0)),(q4_7,(.l 1))]) (.block 0 (.loop (.seq 
(.reg [⟨none, .bin .lt (.t q4_5) (.t q4_6)⟩] [(q4_12,(.l 0))]) (.seq (.cond (.t q4_12) .skip (.exit 0)) (.seq (.block 1 (.seq 
(.reg [⟨none, .ia 3 (.t q4_7) (.t q4_5)⟩,⟨none, .load 3 true (.l 0)⟩,⟨none, .box (.c (.agg [(.int .i64 (.ofNat 0)),(.int .i64 (.ofNat 0)),(.str [])]))⟩,⟨none, .store 3 (.l 0) (.l 1)⟩] [(q4_8,(.l 1)),(q4_11,(.t q4_5))]) 
(.drw [(⟨none, .load 3 true (.t q4_8)⟩,[]),(⟨none, .call (.c (.fn 83 [])) [(.l 0)]⟩,[]),(⟨none, .ia 1 (.t q4_10) (.t q4_11)⟩,[1]),(⟨none, .load 1 false (.l 0)⟩,[1]),(⟨none, .build [(.int .i64 (.ofNat 0)),(.str [])] [(0,1,(.l 0)),(1,1,(.l 2))]⟩,[]),(⟨none, .mks 1 2 [(.int .i64 (.ofNat 0)),(.str [])] [(0,2,(.l 0))]⟩,[]),(⟨none, .app 2 (.t q4_9) (.l 0)⟩,[])] [(q4_9,(.l 0))]))) 
(.reg [⟨none, .bin .add (.t q4_5) k1⟩] [(q4_5,(.l 0))]))))))) (.seq 
(.reg [] [(q4_13,(.t q4_9))]) .ret)))))))))), [(q4_13, none)]⟩
def a46 : FN := ⟨full 2, [some q2_1,some q2_0], (.seq 
(.reg [⟨none, .box (.t q2_0)⟩] [(q2_2,(.l 0)),(q2_3,(.c (.bool false)))]) (.seq 
(.drw [(⟨none, .call (.c (.fn 33 [])) [(.t q2_1)]⟩,[]),(⟨none, .load 9 true (.t q2_2)⟩,[0]),(⟨none, .call (.c (.fn 84 [])) [(.l 1),(.l 0),k0]⟩,[]),(⟨none, .call (.c (.fn 20 [])) [(.t q2_1),(.l 0)]⟩,[]),(⟨(some ((.l 0),true)), .mov (.t q2_1)⟩,[]),(⟨(some ((.l 1),true)), .call (.c (.fn 33 [])) [(.l 0)]⟩,[]),(⟨(some ((.l 2),true)), .load 9 true (.t q2_2)⟩,[5]),(⟨(some ((.l 3),true)), .call (.c (.fn 84 [])) [(.l 1),(.l 0),k1]⟩,[]),(⟨(some ((.l 4),true)), .mov (.t q2_1)⟩,[7, 5]),(⟨(some ((.l 5),true)), .call (.c (.fn 20 [])) [(.l 0),(.l 1)]⟩,[]),(⟨none, .pick (.l 6) (.l 0) (.c (.bool false))⟩,[])] [(q2_3,(.l 0))]) .ret)), [(q2_3, none)]⟩
def a47 : FN := ⟨full 4, [some q4_0,some q4_1], (.seq 
(.reg [⟨none, .box (.t q4_0)⟩,⟨none, .box (.t q4_1)⟩,⟨none, .box (.c (.agg [(.int .i64 (.ofNat 0)),(.int .i64 (.ofNat 0)),(.int .i64 (.ofNat 0)),(.int .i64 (.ofNat 0)),(.int .i64 (.ofNat 0)),(.int .u32 (.ofNat 0)),(.int .u32 (.ofNat 0)),(.int .u32 (.ofNat 0)),(.int .u32 (.ofNat 0)),(.int .i64 (.ofNat 0)),(.int .i64 (.ofNat 0)),(.int .u32 (.ofNat 0)),(.int .u32 (.ofNat 0)),(.int .u32 (.ofNat 0)),(.int .u32 (.ofNat 0)),(.int .i64 (.ofNat 0)),(.int .i64 (.ofNat 0)),(.int .u32 (.ofNat 0)),(.int .u32 (.ofNat 0)),(.int .u32 (.ofNat 0)),(.int .u32 (.ofNat 0)),(.int .i64 (.ofNat 0)),.nilsl,.nilsl,.nilsl,.nilsl,.nilsl,.nilsl,.nilsl,.nilsl]))⟩] [(q4_2,(.l 2)),(q4_3,(.l 1)),(q4_7,(.l 0)),(q4_10,(.c (.bool false)))]) (.seq 
(.reg [⟨none, .box (.c (.agg [(.int .i64 (.ofNat 0)),(.int .i64 (.ofNat 0)),(.int .i64 (.ofNat 0)),(.int .i64 (.ofNat 0)),(.int .i64 (.ofNat 0)),(.int .u32 (.ofNat 0)),(.int .u32 (.ofNat 0)),(.int .u32 (.ofNat 0)),(.int .u32 (.ofNat 0)),(.int .i64 (.ofNat 0)),(.int .i64 (.ofNat 0)),(.int .u32 (.ofNat 0)),(.int .u32 (.ofNat 0)),(.int .u32 (.ofNat 0)),(.int .u32 (.ofNat 0)),(.int .i64 (.ofNat 0)),(.int .i64 (.ofNat 0)),(.int .u32 (.ofNat 0)),(.int .u32 (.ofNat 0)),(.int .u32 (.ofNat 0)),(.int .u32 (.ofNat 0)),(.int .i64 (.ofNat 0)),.nilsl,.nilsl,.nilsl,.nilsl,.nilsl,.nilsl,.nilsl,.nilsl]))⟩] [(q4_5,(.l 0))]) (.seq 
(.reg [⟨none, .load 5 true (.t q4_2)⟩,⟨none, .load 6 true (.t q4_3)⟩,⟨none, .call (.c (.fn 49 [])) [(.l 1),(.l 0),k6]⟩,⟨none, .ext (.l 0) 0⟩,⟨none, .ext (.l 1) 1⟩] [(q4_4,(.l 1)),(q4_6,(.l 0))]) (.seq (.seq 
(.reg [⟨none, .call (.c (.fn 85 [])) [(.t q4_4)]⟩,⟨none, .ext (.l 0) 0⟩,⟨none, .ext (.l 1) 1⟩,⟨none, .fa 0 (.t q4_5)⟩,⟨none, .store 22 (.l 0) (.l 2)⟩] [(q4_6,(.l 2))]) (.seq 
(.reg [⟨none, .not (.t q4_6)⟩,⟨(some ((.l 0),false)), .fa 0 (.t q4_5)⟩,⟨(some ((.l 1),false)), .fa 0 (.l 0)⟩,⟨(some ((.l 2),false)), .load 1 false (.l 0)⟩,⟨(some ((.l 3),false)), .fa 1 (.t q4_3)⟩,⟨(some ((.l 4),false)), .load 1 false (.l 0)⟩,⟨(some ((.l 5),false)), .bin .ne (.l 2) (.l 0)⟩,⟨none, .pick (.l 6) (.c (.bool true)) (.l 0)⟩] [(q4_8,(.l 0))]) (.cond (.t q4_8) (.seq 
(.reg [⟨none, .build [(.int .i64 (.ofNat 0)),(.int .i64 (.ofNat 0)),(.int .i64 (.ofNat 0)),(.int .i64 (.ofNat 0)),(.int .i64 (.ofNat 0)),(.int .u32 (.ofNat 0)),(.int .u32 (.ofNat 0)),(.int .u32 (.ofNat 0)),(.int .u32 (.ofNat 0)),(.int .i64 (.ofNat 0)),(.int .i64 (.ofNat 0)),(.int .u32 (.ofNat 0)),(.int .u32 (.ofNat 0)),(.int .u32 (.ofNat 0)),(.int .u32 (.ofNat 0)),(.int .i64 (.ofNat 0)),(.int .i64 (.ofNat 0)),(.int .u32 (.ofNat 0)),(.int .u32 (.ofNat 0)),(.int .u32 (.ofNat 0)),(.int .u32 (.ofNat 0)),(.int .i64 (.ofNat 0)),.nilsl,.nilsl,.nilsl,.nilsl,.nilsl,.nilsl,.nilsl,.nilsl] []⟩,⟨none, .store 30 (.t q4_7) (.l 0)⟩] [(q4_10,(.c (.bool false)))]) .ret) .skip))) (.seq 
(.reg [⟨none, .load 5 true (.t q4_2)⟩,⟨none, .fa 0 (.t q4_5)⟩,⟨none, .fa 3 (.l 0)⟩,⟨none, .load 6 true (.l 0)⟩,⟨none, .call (.c (.fn 49 [])) [(.l 3),(.l 0),k4]⟩,⟨none, .ext (.l 0) 0⟩,⟨none, .ext (.l 1) 1⟩] [(q4_4,(.l 1))]) (.seq (.seq 
(.reg [⟨none, .call (.c (.fn 86 [])) [(.t q4_4)]⟩,⟨none, .ext (.l 0) 0⟩,⟨none, .ext (.l 1) 1⟩,⟨none, .ext (.l 2) 2⟩,⟨none, .fa 26 (.t q4_5)⟩,⟨none, .store 1 (.l 0) (.l 3)⟩,⟨none, .fa 27 (.t q4_5)⟩,⟨none, .store 1 (.l 0) (.l 4)⟩] [(q4_6,(.l 4))]) (.seq 
(.reg [⟨none, .not (.t q4_6)⟩] [(q4_9,(.l 0))]) (.cond (.t q4_9) (.seq 
(.reg [⟨none, .build [(.int .i64 (.ofNat 0)),(.int .i64 (.ofNat 0)),(.int .i64 (.ofNat 0)),(.int .i64 (.ofNat 0)),(.int .i64 (.ofNat 0)),(.int .u32 (.ofNat 0)),(.int .u32 (.ofNat 0)),(.int .u32 (.ofNat 0)),(.int .u32 (.ofNat 0)),(.int .i64 (.ofNat 0)),(.int .i64 (.ofNat 0)),(.int .u32 (.ofNat 0)),(.int .u32 (.ofNat 0)),(.int .u32 (.ofNat 0)),(.int .u32 (.ofNat 0)),(.int .i64 (.ofNat 0)),(.int .i64 (.ofNat 0)),(.int .u32 (.ofNat 0)),(.int .u32 (.ofNat 0)),(.int .u32 (.ofNat 0)),(.int .u32 (.ofNat 0)),(.int .i64 (.ofNat 0)),.nilsl,.nilsl,.nilsl,.nilsl,.nilsl,.nilsl,.nilsl,.nilsl] []⟩,⟨none, .store 30 (.t q4_7) (.l 0)⟩] [(q4_10,(.c (.bool false)))]) .ret) .skip))) (.seq 
(.reg [⟨none, .load 30 true (.t q4_5)⟩,⟨none, .store 30 (.t q4_7) (.l 0)⟩] [(q4_10,(.c (.bool true)))]) .ret))))))), [(q4_7, some (30,true)),(q4_10, none)]⟩
def a48 : FN := ⟨full 4, [some q4_0,some q4_1], (.seq 
(.reg [⟨none, .box (.t q4_0)⟩] [(q4_5,(.l 0)),(q4_11,(.c (.bool false)))]) (.seq 
(.reg [] [(q4_9,(.c (.bool true)))]) (.seq (.seq 
(.reg [⟨none, .nilc (.t q4_1)⟩,⟨none, .fa 27 (.l 0)⟩,⟨none, .load 1 false (.l 0)⟩,⟨none, .len (.l 0)⟩] [(q4_2,k0),(q4_3,(.l 0)),(q4_4,(.l 1))]) (.block 0 (.loop (.seq 
(.reg [⟨none, .bin .lt (.t q4_2) (.t q4_3)⟩] [(q4_10,(.l 0))]) (.seq (.cond (.t q4_10) .skip (.exit 0)) (.seq (.block 1 (.seq 
(.reg [⟨none, .ia 6 (.t q4_4) (.t q4_2)⟩,⟨none, .load 6 true (.l 0)⟩,⟨none, .box (.c (.agg [(.int .i64 (.ofNat 0)),(.int .i64 (.ofNat 0)),(.int .u32 (.ofNat 0)),(.int .u32 (.ofNat 0)),(.int .u32 (.ofNat 0)),(.int .u32 (.ofNat 0))]))⟩,⟨none, .store 6 (.l 0) (.l 1)⟩] [(q4_6,(.l 1)),(q4_8,(.t q4_2))]) (.seq 
(.reg [⟨none, .load 5 true (.t q4_5)⟩,⟨none, .load 6 true (.t q4_6)⟩,⟨none, .call (.c (.fn 87 [])) [(.l 1),(.l 0)]⟩,⟨none, .box (.c (.agg [.nilsl,.nilsl,(.int .i64 (.ofNat 0)),(.int .i64 (.ofNat 0)),(.bool false),.nilsl,.nilsl,.nilsl,(.bool false)]))⟩,⟨none, .store 9 (.l 0) (.l 1)⟩] [(q4_7,(.l 1))]) (.seq 
(.drw [(⟨none, .nilc (.t q4_1)⟩,[]),(⟨none, .fa 28 (.l 0)⟩,[]),(⟨none, .load 1 false (.l 0)⟩,[]),(⟨none, .fa 6 (.t q4_7)⟩,[]),(⟨none, .load 1 false (.l 0)⟩,[]),(⟨none, .mks 1 1 [.nilsl] [(0,1,(.l 0))]⟩,[]),(⟨none, .app 1 (.l 3) (.l 0)⟩,[]),(⟨none, .nilc (.t q4_1)⟩,[6]),(⟨none, .fa 29 (.l 0)⟩,[6]),(⟨none, .load 1 false (.l 0)⟩,[6]),(⟨none, .fa 7 (.t q4_7)⟩,[6]),(⟨none, .load 1 false (.l 0)⟩,[6]),(⟨none, .mks 1 1 [.nilsl] [(0,1,(.l 0))]⟩,[6]),(⟨none, .app 1 (.l 3) (.l 0)⟩,[]),(⟨none, .nilc (.t q4_1)⟩,[13, 6]),(⟨none, .fa 26 (.l 0)⟩,[13, 6]),(⟨none, .load 1 false (.l 0)⟩,[13, 6]),(⟨none, .fa 5 (.t q4_7)⟩,[13, 6]),(⟨none, .load 1 false (.l 0)⟩,[13, 6]),(⟨none, .ia 5 (.l 2) (.t q4_8)⟩,[]),(⟨none, .fa 4 (.l 0)⟩,[]),(⟨none, .store 1 (.l 0) (.l 2)⟩,[]),(⟨none, .nilc (.t q4_1)⟩,[]),(⟨none, .fa 28 (.l 0)⟩,[]),(⟨none, .store 1 (.l 0) (.l 17)⟩,[]),(⟨none, .nilc (.t q4_1)⟩,[]),(⟨none, .fa 29 (.l 0)⟩,[]),(⟨none, .store 1 (.l 0) (.l 13)⟩,[])] []) 
(.reg [⟨(some ((.t q4_9),true)), .fa 8 (.t q4_7)⟩,⟨(some ((.t q4_9),true)), .load 1 false (.l 0)⟩,⟨(some ((.t q4_9),true)), .not (.l 0)⟩,⟨none, .pick (.t q4_9) (.l 0) (.c (.bool false))⟩] [(q4_9,(.l 0))]))))) 
(.reg [⟨none, .bin .add (.t q4_2) k1⟩] [(q4_2,(.l 0))]))))))) (.seq 
(.reg [] [(q4_11,(.t q4_9))]) .ret)))), [(q4_11, none)]⟩
def a49 : FN := ⟨full 3, [some q3_0,some q3_1,some q3_4], (.seq 
(.reg [⟨none, .box (.t q3_0)⟩,⟨none, .box (.t q3_1)⟩] [(q3_2,(.l 1)),(q3_3,(.l 0)),(q3_6,(.c (.str []))),(q3_7,(.c (.bool false)))]) (.seq (.seq 
(.drw [(⟨none, .load 5 true (.t q3_2)⟩,[]),(⟨none, .call (.c (.fn 51 [])) [(.l 0)]⟩,[]),(⟨none, .fa 0 (.t q3_3)⟩,[1]),(⟨none, .load 1 false (.l 0)⟩,[1]),(⟨none, .bin .add (.c (.int .i64 (.ofNat 14))) (.l 2)⟩,[]),(⟨none, .bin .ge (.l 1) (.l 0)⟩,[])] [(q3_5,(.l 0))]) (.cond (.t q3_5) (.seq 
(.reg [] [(q3_6,(.c (.str []))),(q3_7,(.c (.bool false)))]) .ret) .skip)) (.seq 
(.reg [⟨none, .fa 0 (.t q3_2)⟩,⟨none, .load 5 true (.l 0)⟩,⟨none, .load 6 true (.t q3_3)⟩,⟨none, .call (.c (.fn 88 [])) [(.l 1),(.l 0),(.t q3_4)]⟩,⟨none, .ext (.l 0) 0⟩,⟨none, .ext (.l 1) 1⟩] [(q3_6,(.l 1)),(q3_7,(.l 0))]) .ret))), [(q3_6, none),(q3_7, none)]⟩
def a50 : FN := ⟨full 4, [some q4_3,some q4_0], (.seq 
(.reg [⟨none, .box (.c (.agg [.nilsl,.nilsl,.nilsl,.nilsl]))⟩] [(q4_7,(.l 0)),(q4_12,(.c (.bool false)))]) (.seq 
(.reg [⟨none, .box (.c (.agg [.nilsl,.nilsl,.nilsl,.nilsl]))⟩] [(q4_5,(.l 0))]) (.seq 
(.reg [] [(q4_4,(.t q4_0)),(q4_6,(.c (.bool true)))]) (.seq (.seq 
(.reg [] [(q4_1,k0)]) (.block 0 (.loop (.seq 
(.reg [⟨none, .bin .lt (.t q4_1) k4⟩] [(q4_9,(.l 0))]) (.seq (.cond (.t q4_9) .skip (.exit 0)) (.seq (.block 1 (.seq 
(.reg [] [(q4_2,(.t q4_1))]) (.seq 
(.reg [⟨none, .call (.c (.fn 89 [])) [(.t q4_3),(.t q4_4)]⟩,⟨none, .ext (.l 0) 0⟩,⟨none, .ext (.l 1) 1⟩,⟨none, .ext (.l 2) 2⟩,⟨none, .iap 4 1 (.t q4_5) (.t q4_2)⟩,⟨none, .store 1 (.l 0) (.l 3)⟩] [(q4_4,(.l 3)),(q4_6,(.l 2))]) (.seq 
(.reg [⟨none, .not (.t q4_6)⟩] [(q4_10,(.l 0))]) (.cond (.t q4_10) (.seq 
(.reg [⟨none, .build [.nilsl,.nilsl,.nilsl,.nilsl] []⟩,⟨none, .store 4 (.t q4_7) (.l 0)⟩] [(q4_12,(.c (.bool false)))]) .ret) .skip))))) 
(.reg [⟨none, .bin .add (.t q4_1) k1⟩] [(q4_1,(.l 0))]))))))) (.seq 
(.reg [⟨none, .iap 4 1 (.t q4_5) k0⟩,⟨none, .load 1 false (.l 0)⟩,⟨none, .iap 4 1 (.t q4_5) k1⟩,⟨none, .load 1 false (.l 0)⟩,⟨none, .iap 4 1 (.t q4_5) k2⟩,⟨none, .load 1 false (.l 0)⟩,⟨none, .iap 4 1 (.t q4_5) k3⟩,⟨none, .load 1 false (.l 0)⟩,⟨none, .build [.nilsl,.nilsl,.nilsl,.nilsl] [(0,1,(.l 6)),(1,1,(.l 4)),(2,1,(.l 2)),(3,1,(.l 0))]⟩,⟨none, .box (.c (.agg [.nilsl,.nilsl,.nilsl,.nilsl]))⟩,⟨none, .store 4 (.l 0) (.l 1)⟩] [(q4_8,(.l 1))]) (.seq (.seq 
(.reg [⟨none, .load 4 true (.t q4_8)⟩,⟨none, .call (.c (.fn 80 [])) [(.t q4_3),(.l 0)]⟩,⟨none, .bin .ne (.l 0) (.t q4_0)⟩] [(q4_11,(.l 0))]) (.cond (.t q4_11) (.seq 
(.reg [⟨none, .build [.nilsl,.nilsl,.nilsl,.nilsl] []⟩,⟨none, .store 4 (.t q4_7) (.l 0)⟩] [(q4_12,(.c (.bool false)))]) .ret) .skip)) (.seq 
(.reg [⟨none, .load 4 true (.t q4_8)⟩,⟨none, .store 4 (.t q4_7) (.l 0)⟩] [(q4_12,(.c (.bool true)))]) .ret))))))), [(q4_7, some (4,true)),(q4_12, none)]⟩
def a51 : FN := ⟨full 2, [some q2_0], (.seq 
(.reg [⟨none, .box (.t q2_0)⟩] [(q2_1,(.l 0)),(q2_2,k0)]) (.seq 
(.reg [⟨none, .fa 0 (.t q2_1)⟩,⟨none, .fa 0 (.l 0)⟩,⟨none, .load 1 false (.l 0)⟩,⟨none, .len (.l 0)⟩,⟨none, .bin .sub (.l 0) (.c (.int .i64 (.ofNat 28)))⟩] [(q2_2,(.l 0))]) .ret)), [(q2_2, none)]⟩
def a52 : FN := ⟨full 2, [some q2_0], (.seq 
(.reg [] [(q2_2,(.c .nilsl))]) (.seq (.seq 
(.reg [⟨none, .eqs false (.t q2_0) (.c .nilsl)⟩] [(q2_1,(.l 0))]) (.cond (.t q2_1) (.seq 
(.reg [] [(q2_2,(.c .nilsl))]) .ret) .skip)) (.seq 
(.reg [⟨none, .mks 0 1 [(.str [])] []⟩,⟨none, .app 1 (.l 0) (.t q2_0)⟩] [(q2_2,(.l 0))]) .ret))), [(q2_2, none)]⟩
def a53 : FN := ⟨full 2, [some q2_0], (.seq 
(.reg [] [(q2_2,(.c .nilsl))]) (.seq (.seq 
(.reg [⟨none, .eqs false (.t q2_0) (.c .nilsl)⟩] [(q2_1,(.l 0))]) (.cond (.t q2_1) (.seq 
(.reg [] [(q2_2,(.c .nilsl))]) .ret) .skip)) (.seq 
(.reg [⟨none, .mks 0 2 [(.int .i64 (.ofNat 0)),(.str [])] []⟩,⟨none, .app 2 (.l 0) (.t q2_0)⟩] [(q2_2,(.l 0))]) .ret))), [(q2_2, none)]⟩
def a54 : FN := ⟨full 2, [some q2_0], (.seq 
(.reg [] [(q2_2,(.c .nilsl))]) (.seq (.seq 
(.reg [⟨none, .eqs false (.t q2_0) (.c .nilsl)⟩] [(q2_1,(.l 0))]) (.cond (.t q2_1) (.seq 
(.reg [] [(q2_2,(.c .nilsl))]) .ret) .skip)) (.seq 
(.reg [⟨none, .mks 0 2 [(.int .i64 (.ofNat 0)),(.int .i64 (.ofNat 0))] []⟩,⟨none, .app 2 (.l 0) (.t q2_0)⟩] [(q2_2,(.l 0))]) .ret))), [(q2_2, none)]⟩
def a55 : FN := ⟨full 2, [some q2_0], (.seq 
(.reg [] [(q2_2,(.c .nilsl))]) (.seq (.seq 
(.reg [⟨none, .eqs false (.t q2_0) (.c .nilsl)⟩] [(q2_1,(.l 0))]) (.cond (.t q2_1) (.seq 
(.reg [] [(q2_2,(.c .nilsl))]) .ret) .skip)) (.seq 
(.reg [⟨none, .mks 0 5 [(.int .i64 (.ofNat 0)),(.int .i64 (.ofNat 0)),(.int .i64 (.ofNat 0)),(.int .i64 (.ofNat 0)),.nilsl] []⟩,⟨none, .app 5 (.l 0) (.t q2_0)⟩] [(q2_2,(.l 0))]) .ret))), [(q2_2, none)]⟩
def a56 : FN := ⟨full 2, [some q2_0], (.seq 
(.reg [] [(q2_2,(.c .nilsl))]) (.seq (.seq 
(.reg [⟨none, .eqs false (.t q2_0) (.c .nilsl)⟩] [(q2_1,(.l 0))]) (.cond (.t q2_1) (.seq 
(.reg [] [(q2_2,(.c .nilsl))]) .ret) .skip)) (.seq 
(.reg [⟨none, .mks 0 5 [(.int .i64 (.ofNat 0)),(.int .i64 (.ofNat 0)),(.str []),(.str []),(.int .i64 (.ofNat 0))] []⟩,⟨none, .app 5 (.l 0) (.t q2_0)⟩] [(q2_2,(.l 0))]) .ret))), [(q2_2, none)]⟩
def a57 : FN := ⟨full 2, [some q2_0], (.seq 
(.reg [⟨none, .box (.t q2_0)⟩] [(q2_1,(.l 0)),(q2_2,(.c (.bool false)))]) (.seq 
(.reg [⟨none, .fa 0 (.t q2_1)⟩,⟨none, .load 1 false (.l 0)⟩,⟨none, .bin .ge (.l 0) k0⟩,⟨(some ((.l 0),true)), .fa 0 (.t q2_1)⟩,⟨(some ((.l 1),true)), .load 1 false (.l 0)⟩,⟨(some ((.l 2),true)), .bin .le (.l 0) (.c (.int .i64 (.ofNat 65535)))⟩,⟨none, .pick (.l 3) (.l 0) (.c (.bool false))⟩,⟨(some ((.l 0),true)), .fa 1 (.t q2_1)⟩,⟨(some ((.l 1),true)), .load 1 false (.l 0)⟩,⟨(some ((.l 2),true)), .call (.c (.fn 28 [])) [(.l 0)]⟩,⟨none, .pick (.l 3) (.l 0) (.c (.bool false))⟩,⟨(some ((.l 0),true)), .fa 0 (.t q2_1)⟩,⟨(some ((.l 1),true)), .load 1 false (.l 0)⟩,⟨(some ((.l 2),true)), .bin .gt (.l 0) k0⟩,⟨(some ((.l 3),true)), .mov (.l 0)⟩,⟨(some ((.l 0),false)), .load 6 true (.t q2_1)⟩,⟨(some ((.l 1),false)), .build [(.int .i64 (.ofNat 0)),(.int .i64 (.ofNat 0)),(.int .u32 (.ofNat 0)),(.int .u32 (.ofNat 0)),(.int .u32 (.ofNat 0)),(.int .u32 (.ofNat 0))] []⟩,⟨(some ((.l 2),false)), .eqa [1, 1, 1, 1, 1, 1] false (.l 1) (.l 0)⟩,⟨(some ((.l 7),true)), .pick (.l 3) (.c (.bool true)) (.l 0)⟩,⟨none, .pick (.l 8) (.l 0) (.c (.bool false))⟩] [(q2_2,(.l 0))]) .ret)), [(q2_2, none)]⟩
def a58 : FN := ⟨full 2, [some q2_0], (.seq 
(.reg [⟨none, .box (.t q2_0)⟩] [(q2_1,(.l 0)),(q2_2,(.c (.bool false)))]) (.seq 
(.reg [⟨none, .fa 0 (.t q2_1)⟩,⟨none, .load 1 false (.l 0)⟩,⟨none, .bin .ge (.l 0) k1⟩,⟨(some ((.l 0),true)), .fa 0 (.t q2_1)⟩,⟨(some ((.l 1),true)), .load 1 false (.l 0)⟩,⟨(some ((.l 2),true)), .call (.c (.fn 28 [])) [(.l 0)]⟩,⟨none, .pick (.l 3) (.l 0) (.c (.bool false))⟩,⟨(some ((.l 0),true)), .fa 1 (.t q2_1)⟩,⟨(some ((.l 1),true)), .load 1 false (.l 0)⟩,⟨(some ((.l 2),true)), .call (.c (.fn 28 [])) [(.l 0)]⟩,⟨none, .pick (.l 3) (.l 0) (.c (.bool false))⟩,⟨(some ((.l 0),true)), .fa 2 (.t q2_1)⟩,⟨(some ((.l 1),true)), .load 1 false (.l 0)⟩,⟨(some ((.l 2),true)), .bin .ge (.l 0) k0⟩,⟨none, .pick (.l 3) (.l 0) (.c (.bool false))⟩,⟨(some ((.l 0),true)), .fa 2 (.t q2_1)⟩,⟨(some ((.l 1),true)), .load 1 false (.l 0)⟩,⟨(some ((.l 2),true)), .bin .lt (.l 0) k6⟩,⟨none, .pick (.l 3) (.l 0) (.c (.bool false))⟩,⟨(some ((.l 0),true)), .fa 3 (.t q2_1)⟩,⟨(some ((.l 1),true)), .load 6 true (.l 0)⟩,⟨(some ((.l 2),true)), .call (.c (.fn 57 [])) [(.l 0)]⟩,⟨none, .pick (.l 3) (.l 0) (.c (.bool false))⟩,⟨(some ((.l 0),true)), .fa 3 (.t q2_1)⟩,⟨(some ((.l 1),true)), .fa 0 (.l 0)⟩,⟨(some ((.l 2),true)), .load 1 false (.l 0)⟩,⟨(some ((.l 3),true)), .bin .gt (.l 0) k0⟩,⟨none, .pick (.l 4) (.l 0) (.c (.bool false))⟩] [(q2_2,(.l 0))]) .ret)), [(q2_2, none)]⟩
def a59 : FN := ⟨full 3, [some q3_1], (.seq 
(.reg [] [(q3_6,(.c (.str [])))]) (.seq 
(.reg [] [(q3_2,(.c (.str [])))]) (.seq (.seq 
(.reg [] [(q3_0,k0)]) (.block 0 (.loop (.seq (.seq 
(.reg [⟨none, .len (.t q3_1)⟩,⟨none, .bin .lt (.t q3_0) (.l 0)⟩] [(q3_4,(.l 0))]) (.cond (.t q3_4) .skip (.exit 0))) (.seq (.block 1 (.seq (.seq 
(.reg [⟨none, .ia 6 (.t q3_1) (.t q3_0)⟩,⟨none, .load 6 true (.l 0)⟩,⟨none, .call (.c (.fn 57 [])) [(.l 0)]⟩,⟨none, .not (.l 0)⟩] [(q3_5,(.l 0))]) (.cond (.t q3_5) (.seq 
(.reg [] [(q3_6,(.c (.str [])))]) .ret) .skip)) (.seq 
(.reg [⟨none, .ia 6 (.t q3_1) (.t q3_0)⟩,⟨none, .load 6 true (.l 0)⟩,⟨none, .box (.c (.agg [(.int .i64 (.ofNat 0)),(.int .i64 (.ofNat 0)),(.int .u32 (.ofNat 0)),(.int .u32 (.ofNat 0)),(.int .u32 (.ofNat 0)),(.int .u32 (.ofNat 0))]))⟩,⟨none, .store 6 (.l 0) (.l 1)⟩] [(q3_3,(.l 1))]) 
(.reg [⟨none, .fa 0 (.t q3_3)⟩,⟨none, .load 1 false (.l 0)⟩,⟨none, .fa 1 (.t q3_3)⟩,⟨none, .load 1 false (.l 0)⟩,⟨none, .fa 2 (.t q3_3)⟩,⟨none, .iap 4 1 (.l 0) k0⟩,⟨none, .load 1 false (.l 0)⟩,⟨none, .conv .i64 (.l 0)⟩,⟨none, .fa 2 (.t q3_3)⟩,⟨none, .iap 4 1 (.l 0) k1⟩,⟨none, .load 1 false (.l 0)⟩,⟨none, .conv .i64 (.l 0)⟩,⟨none, .fa 2 (.t q3_3)⟩,⟨none, .iap 4 1 (.l 0) k2⟩,⟨none, .load 1 false (.l 0)⟩,⟨none, .conv .i64 (.l 0)⟩,⟨none, .fa 2 (.t q3_3)⟩,⟨none, .iap 4 1 (.l 0) k3⟩,⟨none, .load 1 false (.l 0)⟩,⟨none, .conv .i64 (.l 0)⟩,⟨none, .mks 6 1 [(.int .i64 (.ofNat 0))] [(0,1,(.l 18)),(1,1,(.l 16)),(2,1,(.l 12)),(3,1,(.l 8)),(4,1,(.l 4)),(5,1,(.l 0))]⟩,⟨none, .call (.c (.fn 30 [])) [(.c (.str [50,52,52,52,52,52])),(.l 0)]⟩,⟨none, .bin .add (.t q3_2) (.l 0)⟩] [(q3_2,(.l 0))])))) 
(.reg [⟨none, .bin .add (.t q3_0) k1⟩] [(q3_0,(.l 0))])))))) (.seq 
(.reg [] [(q3_6,(.t q3_2))]) .ret)))), [(q3_6, none)]⟩
def a60 : FN := ⟨full 1, [some q1_0], (.seq 
(.reg [⟨none, .box (.c (.agg [(.int .u32 (.ofNat 0)),(.int .u32 (.ofNat 0)),(.int .u32 (.ofNat 0)),(.int .u32 (.ofNat 0))]))⟩] [(q1_1,(.l 0))]) (.seq 
(.reg [⟨none, .mks 1 1 [(.str [])] [(0,1,(.t q1_0))]⟩,⟨none, .call (.c (.fn 90 [])) [(.l 0)]⟩,⟨none, .store 4 (.t q1_1) (.l 0)⟩] []) .ret)), [(q1_1, some (4,true))]⟩
def a61 : FN := ⟨full 1, [some q1_0], (.seq 
(.reg [] [(q1_1,(.c (.str [])))]) (.seq 
(.reg [⟨none, .mx (.t q1_0) k0⟩,⟨none, .mksl 1 1 [(.int .u8 (.ofNat 0))] (.l 0) (.l 0)⟩,⟨none, .b2s (.l 0)⟩] [(q1_1,(.l 0))]) .ret)), [(q1_1, none)]⟩
def a62 : FN := ⟨full 4, [some q4_0], (.seq 
(.reg [⟨none, .box (.t q4_0)⟩] [(q4_1,(.l 0)),(q4_8,(.c (.bool false)))]) (.seq (.seq 
(.reg [⟨none, .fa 4 (.t q4_1)⟩,⟨none, .load 1 false (.l 0)⟩,⟨none, .bin .lt (.l 0) (.c (.int .i64 (.ofNat 40)))⟩,⟨(some ((.l 0),false)), .fa 4 (.t q4_1)⟩,⟨(some ((.l 1),false)), .load 1 false (.l 0)⟩,⟨(some ((.l 2),false)), .bin .gt (.l 0) (.c (.int .i64 (.ofNat 240)))⟩,⟨none, .pick (.l 3) (.c (.bool true)) (.l 0)⟩] [(q4_5,(.l 0))]) (.cond (.t q4_5) (.seq 
(.reg [] [(q4_8,(.c (.bool false)))]) .ret) .skip)) (.seq (.seq 
(.reg [⟨none, .fa 0 (.t q4_1)⟩,⟨none, .load 4 true (.l 0)⟩,⟨none, .call (.c (.fn 64 [])) [(.l 0)]⟩] [(q4_2,k0),(q4_3,(.l 0))]) (.block 0 (.loop (.seq 
(.reg [⟨none, .bin .lt (.t q4_2) k4⟩] [(q4_6,(.l 0))]) (.seq (.cond (.t q4_6) .skip (.exit 0)) (.seq (.block 1 (.seq 
(.reg [⟨none, .idxa 4 1 false (.t q4_3) (.t q4_2)⟩] [(q4_4,(.l 0))]) (.seq 
(.reg [⟨none, .call (.c (.fn 91 [])) [(.t q4_4)]⟩,⟨none, .not (.l 0)⟩,⟨(some ((.l 0),false)), .mov (.t q4_4)⟩,⟨(some ((.l 1),false)), .load 5 true (.t q4_1)⟩,⟨(some ((.l 2),false)), .call (.c (.fn 63 [])) [(.l 0)]⟩,⟨(some ((.l 3),false)), .call (.c (.fn 65 [])) [(.l 2),(.l 0)]⟩,⟨(some ((.l 4),false)), .len (.l 0)⟩,⟨(some ((.l 5),false)), .bin .gt (.l 0) k0⟩,⟨none, .pick (.l 6) (.c (.bool true)) (.l 0)⟩] [(q4_7,(.l 0))]) (.cond (.t q4_7) (.seq 
(.reg [] [(q4_8,(.c (.bool false)))]) .ret) .skip)))) 
(.reg [⟨none, .bin .add (.t q4_2) k1⟩] [(q4_2,(.l 0))]))))))) (.seq 
(.drw [(⟨none, .fa 0 (.t q4_1)⟩,[]),(⟨none, .fa 0 (.l 0)⟩,[]),(⟨none, .fa 0 (.l 0)⟩,[]),(⟨none, .load 1 false (.l 0)⟩,[]),(⟨none, .fa 0 (.t q4_1)⟩,[]),(⟨none, .fa 0 (.l 0)⟩,[]),(⟨none, .fa 1 (.l 0)⟩,[]),(⟨none, .load 1 false (.l 0)⟩,[]),(⟨none, .call (.c (.fn 92 [])) [(.l 4),(.l 0)]⟩,[]),(⟨none, .len (.l 0)⟩,[]),(⟨none, .bin .eq (.l 0) k0⟩,[]),(⟨(some ((.l 0),true)), .fa 0 (.t q4_1)⟩,[]),(⟨(some ((.l 1),true)), .fa 0 (.l 0)⟩,[]),(⟨(some ((.l 2),true)), .fa 0 (.l 0)⟩,[]),(⟨(some ((.l 3),true)), .load 1 false (.l 0)⟩,[]),(⟨(some ((.l 4),true)), .fa 0 (.t q4_1)⟩,[]),(⟨(some ((.l 5),true)), .fa 0 (.l 0)⟩,[]),(⟨(some ((.l 6),true)), .fa 1 (.l 0)⟩,[]),(⟨(some ((.l 7),true)), .load 1 false (.l 0)⟩,[]),(⟨(some ((.l 8),true)), .call (.c (.fn 93 [])) [(.l 4),(.l 0)]⟩,[]),(⟨(some ((.l 9),true)), .fa 0 (.t q4_1)⟩,[19]),(⟨(some ((.l 10),true)), .fa 0 (.l 0)⟩,[19]),(⟨(some ((.l 11),true)), .fa 2 (.l 0)⟩,[19]),(⟨(some ((.l 12),true)), .load 1 false (.l 0)⟩,[19]),(⟨(some ((.l 13),true)), .call (.c (.fn 92 [])) [(.l 4),(.l 0)]⟩,[]),(⟨(some ((.l 14),true)), .len (.l 0)⟩,[]),(⟨(some ((.l 15),true)), .bin .eq (.l 0) k0⟩,[]),(⟨none, .pick (.l 16) (.l 0) (.c (.bool false))⟩,[])] [(q4_8,(.l 0))]) .ret)))), [(q4_8, none)]⟩
def a63 : FN := ⟨full 2, [some q2_0], (.seq 
(.reg [⟨none, .box (.t q2_0)⟩] [(q2_1,(.l 0)),(q2_2,(.c .nilsl))]) (.seq 
(.reg [⟨none, .fa 4 (.t q2_1)⟩,⟨none, .load 1 false (.l 0)⟩,⟨none, .bin .add (.c (.int .i64 (.ofNat 14))) (.l 0)⟩,⟨none, .build [(.int .i64 (.ofNat 0)),(.int .i64 (.ofNat 0))] [(0,1,(.c (.int .i64 (.ofNat 14)))),(1,1,(.l 0))]⟩,⟨none, .mks 1 2 [(.int .i64 (.ofNat 0)),(.int .i64 (.ofNat 0))] [(0,2,(.l 0))]⟩] [(q2_2,(.l 0))]) .ret)), [(q2_2, none)]⟩
def a64 : FN := ⟨full 2, [some q2_0], (.seq 
(.reg [⟨none, .box (.t q2_0)⟩,⟨none, .box (.c (.agg [.nilsl,.nilsl,.nilsl,.nilsl]))⟩] [(q2_1,(.l 1)),(q2_2,(.l 0))]) (.seq 
(.reg [⟨none, .fa 0 (.t q2_1)⟩,⟨none, .fa 0 (.l 0)⟩,⟨none, .load 1 false (.l 0)⟩,⟨none, .fa 0 (.t q2_1)⟩,⟨none, .fa 1 (.l 0)⟩,⟨none, .load 1 false (.l 0)⟩,⟨none, .fa 0 (.t q2_1)⟩,⟨none, .fa 2 (.l 0)⟩,⟨none, .load 1 false (.l 0)⟩,⟨none, .fa 0 (.t q2_1)⟩,⟨none, .fa 3 (.l 0)⟩,⟨none, .load 1 false (.l 0)⟩,⟨none, .build [.nilsl,.nilsl,.nilsl,.nilsl] [(0,1,(.l 9)),(1,1,(.l 6)),(2,1,(.l 3)),(3,1,(.l 0))]⟩,⟨none, .store 4 (.t q2_2) (.l 0)⟩] []) .ret)), [(q2_2, some (4,true))]⟩
def a65 : FN := ⟨full 2, [some q2_0,some q2_1], (.seq 
(.reg [] [(q2_2,(.c .nilsl))]) (.seq 
(.reg [⟨none, .build [.nilsl,.nilsl] [(0,1,(.t q2_0)),(1,1,(.t q2_1))]⟩,⟨none, .call (.c (.fn 94 [])) [(.l 0),(.c (.fn 95 []))]⟩] [(q2_2,(.l 0))]) .ret)), [(q2_2, none)]⟩
def a66 : FN := ⟨full 2, [some q2_0,some q2_1], (.seq 
(.reg [] [(q2_2,(.c (.bool false)))]) (.seq 
(.reg [⟨none, .call (.c (.fn 96 [])) [(.t q2_0),(.t q2_1)]⟩] [(q2_2,(.l 0))]) .ret)), [(q2_2, none)]⟩
def a67 : FN := ⟨full 4, [some q4_0,some q4_1,some q4_6], (.seq 
(.reg [] [(q4_12,(.c (.bool false)))]) (.seq (.seq 
(.reg [⟨none, .len (.t q4_0)⟩,⟨none, .len (.t q4_1)⟩,⟨none, .bin .ne (.l 1) (.l 0)⟩] [(q4_9,(.l 0))]) (.cond (.t q4_9) (.seq 
(.reg [] [(q4_12,(.c (.bool false)))]) .ret) .skip)) (.seq (.seq 
(.reg [⟨none, .len (.t q4_0)⟩] [(q4_2,k0),(q4_3,(.l 0)),(q4_4,(.t q4_0))]) (.block 0 (.loop (.seq 
(.reg [⟨none, .bin .lt (.t q4_2) (.t q4_3)⟩] [(q4_10,(.l 0))]) (.seq (.cond (.t q4_10) .skip (.exit 0)) (.seq (.block 1 (.seq 
(.reg [⟨none, .ia 5 (.t q4_4) (.t q4_2)⟩,⟨none, .load 5 true (.l 0)⟩,⟨none, .box (.c (.agg [(.int .i64 (.ofNat 0)),(.int .i64 (.ofNat 0)),(.int .i64 (.ofNat 0)),(.int .i64 (.ofNat 0)),.nilsl]))⟩,⟨none, .store 5 (.l 0) (.l 1)⟩] [(q4_5,(.t q4_2)),(q4_7,(.l 1))]) (.seq 
(.reg [⟨none, .ia 5 (.t q4_1) (.t q4_5)⟩,⟨none, .load 5 true (.l 0)⟩,⟨none, .box (.c (.agg [(.int .i64 (.ofNat 0)),(.int .i64 (.ofNat 0)),(.int .i64 (.ofNat 0)),(.int .i64 (.ofNat 0)),.nilsl]))⟩,⟨none, .store 5 (.l 0) (.l 1)⟩] [(q4_8,(.l 1))]) (.seq 
(.reg [⟨none, .load 5 true (.t q4_7)⟩,⟨none, .load 5 true (.t q4_8)⟩,⟨none, .call (.t q4_6) [(.l 1),(.l 0)]⟩,⟨none, .not (.l 0)⟩] [(q4_11,(.l 0))]) (.cond (.t q4_11) (.seq 
(.reg [] [(q4_12,(.c (.bool false)))]) .ret) .skip))))) 
(.reg [⟨none, .bin .add (.t q4_2) k1⟩] [(q4_2,(.l 0))]))))))) (.seq 
(.reg [] [(q4_12,(.c (.bool true)))]) .ret)))), [(q4_12, none)]⟩
def a68 : FN := ⟨full 3, [some q3_0,some q3_1], (.seq 
(.reg [⟨none, .box (.t q3_0)⟩,⟨none, .box (.t q3_1)⟩] [(q3_2,(.l 1)),(q3_3,(.l 0)),(q3_4,(.c (.bool false)))]) (.seq 
(.reg [⟨none, .fa 0 (.t q3_2)⟩,⟨none, .load 1 false (.l 0)⟩,⟨none, .fa 0 (.t q3_3)⟩,⟨none, .load 1 false (.l 0)⟩,⟨none, .bin .eq (.l 2) (.l 0)⟩,⟨(some ((.l 0),true)), .fa 1 (.t q3_2)⟩,⟨(some ((.l 1),true)), .load 1 false (.l 0)⟩,⟨(some ((.l 2),true)), .fa 1 (.t q3_3)⟩,⟨(some ((.l 3),true)), .load 1 false (.l 0)⟩,⟨(some ((.l 4),true)), .bin .eq (.l 2) (.l 0)⟩,⟨none, .pick (.l 5) (.l 0) (.c (.bool false))⟩,⟨(some ((.l 0),true)), .fa 2 (.t q3_2)⟩,⟨(some ((.l 1),true)), .load 1 false (.l 0)⟩,⟨(some ((.l 2),true)), .fa 2 (.t q3_3)⟩,⟨(some ((.l 3),true)), .load 1 false (.l 0)⟩,⟨(some ((.l 4),true)), .bin .eq (.l 2) (.l 0)⟩,⟨none, .pick (.l 5) (.l 0) (.c (.bool false))⟩,⟨(some ((.l 0),true)), .fa 3 (.t q3_2)⟩,⟨(some ((.l 1),true)), .load 1 false (.l 0)⟩,⟨(some ((.l 2),true)), .fa 3 (.t q3_3)⟩,⟨(some ((.l 3),true)), .load 1 false (.l 0)⟩,⟨(some ((.l 4),true)), .bin .eq (.l 2) (.l 0)⟩,⟨none, .pick (.l 5) (.l 0) (.c (.bool false))⟩,⟨(some ((.l 0),true)), .fa 4 (.t q3_2)⟩,⟨(some ((.l 1),true)), .load 1 false (.l 0)⟩,⟨(some ((.l 2),true)), .fa 4 (.t q3_3)⟩,⟨(some ((.l 3),true)), .load 1 false (.l 0)⟩,⟨(some ((.l 4),true)), .call (.c (.fn 69 [])) [(.l 2),(.l 0)]⟩,⟨none, .pick (.l 5) (.l 0) (.c (.bool false))⟩] [(q3_4,(.l 0))]) .ret)), [(q3_4, none)]⟩
def a69 : FN := ⟨full 2, [some q2_0,some q2_1], (.seq 
(.reg [] [(q2_2,(.c (.bool false)))]) (.seq 
(.reg [⟨none, .call (.c (.fn 97 [])) [(.t q2_0),(.t q2_1)]⟩] [(q2_2,(.l 0))]) .ret)), [(q2_2, none)]⟩
def a70 : FN := ⟨full 4, [some q4_0], (.seq 
(.reg [⟨none, .box (.c (.agg [(.int .u32 (.ofNat 0)),(.int .u32 (.ofNat 0)),(.int .u32 (.ofNat 0)),(.int .u32 (.ofNat 0))]))⟩] [(q4_12,(.l 0))]) (.seq 
(.reg [⟨none, .box (.c (.agg [(.int .u32 (.ofNat 0)),(.int .u32 (.ofNat 0)),(.int .u32 (.ofNat 0)),(.int .u32 (.ofNat 0))]))⟩] [(q4_11,(.l 0))]) (.seq 
(.reg [⟨none, .call (.c (.fn 98 [])) [(.t q4_0),(.c (.str []))]⟩] [(q4_2,(.l 0))]) (.seq (.seq 
(.reg [] [(q4_1,k0)]) (.block 0 (.loop (.seq (.seq 
(.reg [⟨none, .lens (.t q4_2)⟩,⟨none, .bin .lt (.t q4_1) (.l 0)⟩] [(q4_13,(.l 0))]) (.cond (.t q4_13) .skip (.exit 0))) (.seq (.block 1 (.seq 
(.reg [] [(q4_6,(.c (.int .u32 (.ofNat 0))))]) (.seq (.seq 
(.reg [⟨none, .bin .add (.t q4_1) k4⟩,⟨none, .lens (.t q4_2)⟩,⟨none, .mn (.l 1) (.l 0)⟩,⟨none, .slc 0 (.t q4_2) (some (.t q4_1)) (some (.l 0)) none⟩,⟨none, .s2b (.l 0)⟩,⟨none, .len (.l 0)⟩] [(q4_3,k0),(q4_4,(.l 0)),(q4_5,(.l 1))]) (.block 2 (.loop (.seq 
(.reg [⟨none, .bin .lt (.t q4_3) (.t q4_4)⟩] [(q4_14,(.l 0))]) (.seq (.cond (.t q4_14) .skip (.exit 2)) (.seq (.block 3 (.seq 
(.reg [⟨none, .ia 1 (.t q4_5) (.t q4_3)⟩,⟨none, .load 1 false (.l 0)⟩] [(q4_7,(.l 0)),(q4_8,(.t q4_3))]) 
(.reg [⟨none, .conv .u32 (.t q4_7)⟩,⟨none, .bin .mul k8 (.t q4_8)⟩,⟨none, .bin .shl (.l 1) (.l 0)⟩,⟨none, .bin .or (.t q4_6) (.l 0)⟩] [(q4_6,(.l 0))]))) 
(.reg [⟨none, .bin .add (.t q4_3) k1⟩] [(q4_3,(.l 0))]))))))) (.seq 
(.reg [] [(q4_9,k0)]) (.block 4 (.loop (.seq 
(.reg [⟨none, .bin .lt (.t q4_9) k4⟩] [(q4_15,(.l 0))]) (.seq (.cond (.t q4_15) .skip (.exit 4)) (.seq (.block 5 (.seq 
(.reg [] [(q4_10,(.t q4_9))]) (.seq 
(.reg [⟨none, .iap 4 1 (.t q4_11) (.t q4_10)⟩,⟨none, .load 1 false (.l 0)⟩,⟨none, .bin .add (.l 0) (.t q4_6)⟩,⟨none, .iap 4 1 (.t q4_11) (.t q4_10)⟩,⟨none, .store 1 (.l 0) (.l 1)⟩] []) 
(.reg [⟨none, .iap 4 1 (.t q4_11) (.t q4_10)⟩,⟨none, .load 1 false (.l 0)⟩] [(q4_6,(.l 0))])))) 
(.reg [⟨none, .bin .add (.t q4_9) k1⟩] [(q4_9,(.l 0))])))))))))) 
(.reg [⟨none, .bin .add (.t q4_1) k4⟩] [(q4_1,(.l 0))])))))) (.seq 
(.reg [⟨none, .load 4 true (.t q4_11)⟩,⟨none, .store 4 (.t q4_12) (.l 0)⟩] []) .ret))))), [(q4_12, some (4,true))]⟩
def a72 : FN := ⟨full 4, [some q4_0], (.seq 
(.reg [] [(q4_6,(.c .nilsl)),(q4_7,k0),(q4_10,(.c (.bool false)))]) (.seq (.seq 
(.reg [⟨none, .s2b (.t q4_0)⟩,⟨none, .len (.l 0)⟩] [(q4_1,k0),(q4_2,(.l 0)),(q4_3,(.l 1))]) (.block 0 (.loop (.seq 
(.reg [⟨none, .bin .lt (.t q4_1) (.t q4_2)⟩] [(q4_8,(.l 0))]) (.seq (.cond (.t q4_8) .skip (.exit 0)) (.seq (.block 1 (.seq 
(.reg [⟨none, .ia 1 (.t q4_3) (.t q4_1)⟩,⟨none, .load 1 false (.l 0)⟩] [(q4_4,(.l 0))]) (.seq 
(.reg [⟨none, .conv .i64 (.t q4_4)⟩,⟨none, .bin .sub (.l 0) (.c (.int .i64 (.ofNat 48)))⟩] [(q4_5,(.l 0))]) (.seq (.seq 
(.reg [⟨none, .bin .lt (.t q4_5) k1⟩,⟨(some ((.l 0),false)), .mov (.t q4_5)⟩,⟨(some ((.l 1),false)), .bin .gt (.l 0) k4⟩,⟨none, .pick (.l 2) (.c (.bool true)) (.l 0)⟩] [(q4_9,(.l 0))]) (.cond (.t q4_9) (.seq 
(.reg [] [(q4_6,(.c .nilsl)),(q4_7,k0),(q4_10,(.c (.bool false)))]) .ret) .skip)) 
(.reg [⟨none, .mks 1 1 [(.int .i64 (.ofNat 0))] [(0,1,(.t q4_5))]⟩,⟨none, .app 1 (.t q4_6) (.l 0)⟩,⟨none, .bin .add (.t q4_7) (.t q4_5)⟩] [(q4_6,(.l 1)),(q4_7,(.l 0))]))))) 
(.reg [⟨none, .bin .add (.t q4_1) k1⟩] [(q4_1,(.l 0))]))))))) (.seq 
(.reg [] [(q4_6,(.t q4_6)),(q4_7,(.t q4_7)),(q4_10,(.c (.bool true)))]) .ret))), [(q4_6, none),(q4_7, none),(q4_10, none)]⟩
def a73 : FN := ⟨full 2, [some q2_0], (.seq 
(.reg [⟨none, .box (.t q2_0)⟩,⟨none, .box (.c (.agg [.nilsl,.nilsl,(.int .i64 (.ofNat 0)),(.int .i64 (.ofNat 0)),(.bool false)]))⟩] [(q2_1,(.l 1)),(q2_2,(.l 0))]) (.seq 
(.drw [(⟨none, .fa 0 (.t q2_1)⟩,[]),(⟨none, .load 1 false (.l 0)⟩,[]),(⟨none, .call (.c (.fn 52 [])) [(.l 0)]⟩,[]),(⟨none, .fa 1 (.t q2_1)⟩,[2]),(⟨none, .load 1 false (.l 0)⟩,[2]),(⟨none, .call (.c (.fn 53 [])) [(.l 0)]⟩,[]),(⟨none, .fa 0 (.t q2_1)⟩,[5]),(⟨none, .store 1 (.l 0) (.l 4)⟩,[]),(⟨none, .fa 1 (.t q2_1)⟩,[]),(⟨none, .store 1 (.l 0) (.l 3)⟩,[])] []) (.seq 
(.reg [⟨none, .load 5 true (.t q2_1)⟩,⟨none, .store 5 (.t q2_2) (.l 0)⟩] []) .ret))), [(q2_2, some (5,true))]⟩
def a74 : FN := ⟨full 2, [some q2_0,some q2_1], (.seq 
(.reg [⟨none, .box (.t q2_0)⟩] [(q2_2,(.l 0)),(q2_3,(.c (.bool false)))]) (.seq 
(.reg [⟨none, .bin .ge (.t q2_1) k0⟩,⟨(some ((.l 0),true)), .mov (.t q2_1)⟩,⟨(some ((.l 1),true)), .fa 0 (.t q2_2)⟩,⟨(some ((.l 2),true)), .load 1 false (.l 0)⟩,⟨(some ((.l 3),true)), .len (.l 0)⟩,⟨(some ((.l 4),true)), .bin .lt (.l 3) (.l 0)⟩,⟨none, .pick (.l 5) (.l 0) (.c (.bool false))⟩] [(q2_3,(.l 0))]) .ret)), [(q2_3, none)]⟩
def a75 : FN := ⟨full 4, [some q4_0,some q4_5], (.seq (.seq 
(.reg [⟨none, .nilc (.t q4_0)⟩,⟨none, .fa 1 (.l 0)⟩,⟨none, .load 1 false (.l 0)⟩,⟨none, .len (.l 0)⟩] [(q4_1,k0),(q4_2,(.l 0)),(q4_3,(.l 1))]) (.block 0 (.loop (.seq 
(.reg [⟨none, .bin .lt (.t q4_1) (.t q4_2)⟩] [(q4_7,(.l 0))]) (.seq (.cond (.t q4_7) .skip (.exit 0)) (.seq (.block 1 (.seq 
(.reg [⟨none, .ia 2 (.t q4_3) (.t q4_1)⟩,⟨none, .load 2 true (.l 0)⟩,⟨none, .box (.c (.agg [(.int .i64 (.ofNat 0)),(.str [])]))⟩,⟨none, .store 2 (.l 0) (.l 1)⟩] [(q4_4,(.l 1)),(q4_6,(.t q4_1))]) (.seq 
(.drw [(⟨none, .nilc (.t q4_0)⟩,[]),(⟨none, .load 5 true (.l 0)⟩,[]),(⟨none, .fa 0 (.t q4_4)⟩,[]),(⟨none, .load 1 false (.l 0)⟩,[]),(⟨none, .call (.c (.fn 74 [])) [(.l 2),(.l 0)]⟩,[])] [(q4_8,(.l 0))]) (.cond (.t q4_8) 
(.drw [(⟨none, .call (.t q4_5) [(.t q4_6)]⟩,[]),(⟨none, .nilc (.t q4_0)⟩,[0]),(⟨none, .fa 0 (.l 0)⟩,[0]),(⟨none, .load 1 false (.l 0)⟩,[0]),(⟨none, .fa 0 (.t q4_4)⟩,[0]),(⟨none, .load 1 false (.l 0)⟩,[0]),(⟨none, .ia 1 (.l 2) (.l 0)⟩,[0]),(⟨none, .load 1 false (.l 0)⟩,[0]),(⟨none, .fa 1 (.t q4_4)⟩,[0]),(⟨none, .load 1 false (.l 0)⟩,[0]),(⟨none, .call (.c (.fn 105 [])) [(.l 2),(.l 0),(.l 9)]⟩,[]),(⟨none, .nilc (.t q4_0)⟩,[10, 0]),(⟨none, .fa 0 (.l 0)⟩,[10, 0]),(⟨none, .load 1 false (.l 0)⟩,[10, 0]),(⟨none, .fa 0 (.t q4_4)⟩,[10, 0]),(⟨none, .load 1 false (.l 0)⟩,[10, 0]),(⟨none, .ia 1 (.l 2) (.l 0)⟩,[]),(⟨none, .store 1 (.l 0) (.l 6)⟩,[])] []) .skip)))) 
(.reg [⟨none, .bin .add (.t q4_1) k1⟩] [(q4_1,(.l 0))]))))))) 
(.reg [⟨none, .nilc (.t q4_0)⟩,⟨none, .fa 1 (.l 0)⟩,⟨none, .store 1 (.l 0) (.c .nilsl)⟩] [])), []⟩
def a76 : FN := ⟨full 0, [none], (.seq 
(.reg [] [(q0_0,k0)]) (.seq 
(.reg [] [(q0_0,k3)]) .ret)), [(q0_0, none)]⟩
def a77 : FN := ⟨full 3, [some q3_0], (.seq 
(.reg [⟨none, .box (.t q3_0)⟩] [(q3_1,(.l 0)),(q3_6,(.c (.bool false)))]) (.seq (.seq 
(.reg [⟨none, .fa 0 (.t q3_1)⟩,⟨none, .fa 0 (.l 0)⟩,⟨none, .load 1 false (.l 0)⟩,⟨none, .bin .lt (.l 0) k1⟩,⟨(some ((.l 0),false)), .fa 0 (.t q3_1)⟩,⟨(some ((.l 1),false)), .fa 0 (.l 0)⟩,⟨(some ((.l 2),false)), .load 1 false (.l 0)⟩,⟨(some ((.l 3),false)), .bin .gt (.l 0) (.c (.int .i64 (.ofNat 65535)))⟩,⟨none, .pick (.l 4) (.c (.bool true)) (.l 0)⟩,⟨(some ((.l 0),false)), .fa 0 (.t q3_1)⟩,⟨(some ((.l 1),false)), .fa 4 (.l 0)⟩,⟨(some ((.l 2),false)), .load 1 false (.l 0)⟩,⟨(some ((.l 3),false)), .call (.c (.fn 106 [])) [(.l 0)]⟩,⟨(some ((.l 4),false)), .not (.l 0)⟩,⟨none, .pick (.l 5) (.c (.bool true)) (.l 0)⟩,⟨(some ((.l 0),false)), .fa 0 (.t q3_1)⟩,⟨(some ((.l 1),false)), .fa 3 (.l 0)⟩,⟨(some ((.l 2),false)), .load 1 false (.l 0)⟩,⟨(some ((.l 3),false)), .bin .lt (.l 0) k0⟩,⟨none, .pick (.l 4) (.c (.bool true)) (.l 0)⟩,⟨(some ((.l 0),false)), .fa 0 (.t q3_1)⟩,⟨(some ((.l 1),false)), .fa 3 (.l 0)⟩,⟨(some ((.l 2),false)), .load 1 false (.l 0)⟩,⟨(some ((.l 3),false)), .bin .gt (.l 0) (.c (.int .i64 (.ofNat 255)))⟩,⟨none, .pick (.l 4) (.c (.bool true)) (.l 0)⟩] [(q3_3,(.l 0))]) (.cond (.t q3_3) (.seq 
(.reg [] [(q3_6,(.c (.bool false)))]) .ret) .skip)) (.seq (.seq 
(.reg [⟨none, .fa 0 (.t q3_1)⟩,⟨none, .fa 1 (.l 0)⟩,⟨none, .load 1 false (.l 0)⟩] [(q3_2,(.l 0))]) (.block 0 (.seq 
(.reg [⟨none, .bin .eq (.t q3_2) k1⟩] [(q3_4,(.l 0))]) (.cond (.t q3_4) (.seq 
(.reg [⟨none, .fa 0 (.t q3_1)⟩,⟨none, .fa 2 (.l 0)⟩,⟨none, .load 1 false (.l 0)⟩,⟨none, .bin .eq (.l 0) k0⟩,⟨(some ((.l 0),false)), .fa 5 (.t q3_1)⟩,⟨(some ((.l 1),false)), .load 1 false (.l 0)⟩,⟨(some ((.l 2),false)), .fa 0 (.t q3_1)⟩,⟨(some ((.l 3),false)), .fa 2 (.l 0)⟩,⟨(some ((.l 4),false)), .load 1 false (.l 0)⟩,⟨(some ((.l 5),false)), .call (.c (.fn 107 [])) [(.l 3),(.l 0),k2]⟩,⟨(some ((.l 6),false)), .mov (.l 0)⟩,⟨(some ((.l 0),true)), .fa 5 (.t q3_1)⟩,⟨(some ((.l 1),true)), .load 1 false (.l 0)⟩,⟨(some ((.l 2),true)), .fa 0 (.t q3_1)⟩,⟨(some ((.l 3),true)), .fa 0 (.l 0)⟩,⟨(some ((.l 4),true)), .load 1 false (.l 0)⟩,⟨(some ((.l 5),true)), .call (.c (.fn 108 [])) [(.l 3),(.l 0)]⟩,⟨(some ((.l 6),true)), .not (.l 0)⟩,⟨(some ((.l 14),false)), .pick (.l 7) (.l 0) (.c (.bool false))⟩,⟨none, .pick (.l 15) (.c (.bool true)) (.l 0)⟩] [(q3_6,(.l 0))]) .ret) (.seq 
(.reg [⟨none, .bin .eq (.t q3_2) k2⟩] [(q3_5,(.l 0))]) (.cond (.t q3_5) (.seq 
(.reg [⟨none, .fa 0 (.t q3_1)⟩,⟨none, .fa 3 (.l 0)⟩,⟨none, .load 1 false (.l 0)⟩,⟨none, .bin .eq (.l 0) k0⟩,⟨(some ((.l 0),true)), .fa 5 (.t q3_1)⟩,⟨(some ((.l 1),true)), .load 1 false (.l 0)⟩,⟨(some ((.l 2),true)), .fa 0 (.t q3_1)⟩,⟨(some ((.l 3),true)), .fa 2 (.l 0)⟩,⟨(some ((.l 4),true)), .load 1 false (.l 0)⟩,⟨(some ((.l 5),true)), .call (.c (.fn 107 [])) [(.l 3),(.l 0),k1]⟩,⟨none, .pick (.l 6) (.l 0) (.c (.bool false))⟩] [(q3_6,(.l 0))]) .ret) .skip)))))) (.seq 
(.reg [] [(q3_6,(.c (.bool false)))]) .ret)))), [(q3_6, none)]⟩
def a78 : FN := ⟨full 4, [some q4_1,some q4_2,some q4_0,some q4_4], (.seq 
(.reg [⟨none, .box (.c (.agg [.nilsl,.nilsl,(.int .i64 (.ofNat 0)),(.int .i64 (.ofNat 0)),(.int .u32 (.ofNat 0)),(.int .u32 (.ofNat 0)),(.int .u32 (.ofNat 0)),(.int .u32 (.ofNat 0)),.nilsl,.nilsl]))⟩] [(q4_3,(.l 0)),(q4_15,(.c (.bool false)))]) (.seq (.seq 
(.reg [⟨none, .call (.c (.fn 43 [])) [(.t q4_0)]⟩,⟨none, .not (.l 0)⟩,⟨(some ((.l 0),false)), .mov (.t q4_1)⟩,⟨(some ((.l 1),false)), .bin .lt (.l 0) k1⟩,⟨none, .pick (.l 2) (.c (.bool true)) (.l 0)⟩,⟨(some ((.l 0),false)), .mov (.t q4_1)⟩,⟨(some ((.l 1),false)), .bin .gt (.l 0) (.c (.int .i64 (.ofNat 1073741824)))⟩,⟨none, .pick (.l 2) (.c (.bool true)) (.l 0)⟩,⟨(some ((.l 0),false)), .mov (.t q4_2)⟩,⟨(some ((.l 1),false)), .call (.c (.fn 91 [])) [(.l 0)]⟩,⟨(some ((.l 2),false)), .not (.l 0)⟩,⟨none, .pick (.l 3) (.c (.bool true)) (.l 0)⟩] [(q4_12,(.l 0))]) (.cond (.t q4_12) (.seq 
(.reg [⟨none, .build [.nilsl,.nilsl,(.int .i64 (.ofNat 0)),(.int .i64 (.ofNat 0)),(.int .u32 (.ofNat 0)),(.int .u32 (.ofNat 0)),(.int .u32 (.ofNat 0)),(.int .u32 (.ofNat 0)),.nilsl,.nilsl] []⟩,⟨none, .store 10 (.t q4_3) (.l 0)⟩] [(q4_15,(.c (.bool false)))]) .ret) .skip)) (.seq 
(.reg [⟨none, .call (.c (.fn 109 [])) [(.t q4_4)]⟩,⟨none, .build [.nilsl,.nilsl,(.int .i64 (.ofNat 0)),(.int .i64 (.ofNat 0)),(.int .u32 (.ofNat 0)),(.int .u32 (.ofNat 0)),(.int .u32 (.ofNat 0)),(.int .u32 (.ofNat 0)),.nilsl,.nilsl,(.int .i64 (.ofNat 0)),.nilsl,.nilsl,.nilsl] [(10,1,(.t q4_1)),(12,1,(.l 0))]⟩,⟨none, .box (.l 0)⟩] [(q4_5,(.l 0))]) (.seq 
(.reg [⟨none, .call (.c (.fn 31 [])) [(.t q4_2)]⟩,⟨none, .mn (.l 0) (.c (.int .i64 (.ofNat 331)))⟩,⟨none, .call (.c (.fn 110 [])) [(.t q4_2),(.l 0)]⟩,⟨none, .ext (.l 0) 0⟩,⟨none, .ext (.l 1) 1⟩,⟨none, .nilc (.t q4_5)⟩,⟨none, .fa 11 (.l 0)⟩,⟨none, .store 1 (.l 0) (.l 3)⟩] []) (.seq 
(.reg [] [(q4_9,(.c .nilsl))]) (.seq (.seq 
(.reg [⟨none, .len (.t q4_0)⟩] [(q4_6,k0),(q4_7,(.l 0)),(q4_8,(.t q4_0))]) (.block 0 (.loop (.seq 
(.reg [⟨none, .bin .lt (.t q4_6) (.t q4_7)⟩] [(q4_13,(.l 0))]) (.seq (.cond (.t q4_13) .skip (.exit 0)) (.seq (.block 1 (.seq 
(.reg [⟨none, .ia 5 (.t q4_8) (.t q4_6)⟩,⟨none, .load 5 true (.l 0)⟩,⟨none, .box (.c (.agg [(.int .i64 (.ofNat 0)),(.int .i64 (.ofNat 0)),(.int .i64 (.ofNat 0)),(.int .i64 (.ofNat 0)),.nilsl]))⟩,⟨none, .store 5 (.l 0) (.l 1)⟩] [(q4_10,(.l 1))]) 
(.reg [⟨none, .load 5 true (.t q4_10)⟩,⟨none, .call (.c (.fn 111 [])) [(.t q4_5),(.l 0)]⟩,⟨none, .mks 1 6 [(.int .i64 (.ofNat 0)),(.int .i64 (.ofNat 0)),(.int .u32 (.ofNat 0)),(.int .u32 (.ofNat 0)),(.int .u32 (.ofNat 0)),(.int .u32 (.ofNat 0))] [(0,6,(.l 0))]⟩,⟨none, .app 6 (.t q4_9) (.l 0)⟩] [(q4_9,(.l 0))]))) 
(.reg [⟨none, .bin .add (.t q4_6) k1⟩] [(q4_6,(.l 0))]))))))) (.seq 
(.reg [⟨none, .call (.c (.fn 113 [])) [(.t q4_0),(.t q4_9)]⟩,⟨none, .call (.c (.fn 112 [])) [(.t q4_5),k4,(.l 0)]⟩,⟨none, .nilc (.t q4_5)⟩,⟨none, .fa 0 (.l 0)⟩,⟨none, .fa 2 (.l 0)⟩,⟨none, .store 6 (.l 0) (.l 3)⟩] []) (.seq 
(.reg [⟨none, .nilc (.t q4_5)⟩,⟨none, .fa 0 (.l 0)⟩,⟨none, .fa 0 (.l 0)⟩,⟨none, .load 1 false (.l 0)⟩,⟨none, .len (.l 0)⟩] [(q4_11,(.l 0))]) (.seq (.seq 
(.reg [⟨none, .bin .add (.t q4_11) k2⟩,⟨none, .nilc (.t q4_5)⟩,⟨none, .fa 11 (.l 0)⟩,⟨none, .load 1 false (.l 0)⟩,⟨none, .len (.l 0)⟩,⟨none, .bin .gt (.l 4) (.l 0)⟩] [(q4_14,(.l 0))]) (.cond (.t q4_14) (.seq 
(.reg [⟨none, .build [.nilsl,.nilsl,(.int .i64 (.ofNat 0)),(.int .i64 (.ofNat 0)),(.int .u32 (.ofNat 0)),(.int .u32 (.ofNat 0)),(.int .u32 (.ofNat 0)),(.int .u32 (.ofNat 0)),.nilsl,.nilsl] []⟩,⟨none, .store 10 (.t q4_3) (.l 0)⟩] [(q4_15,(.c (.bool false)))]) .ret) .skip)) (.seq 
(.reg [⟨none, .nilc (.t q4_5)⟩,⟨none, .fa 11 (.l 0)⟩,⟨none, .load 1 false (.l 0)⟩,⟨none, .slc 1 (.l 0) (some (.t q4_11)) none none⟩,⟨none, .slc 1 (.l 0) none (some k2) none⟩,⟨none, .call (.c (.fn 114 [])) [(.l 0)]⟩,⟨none, .nilc (.t q4_5)⟩,⟨none, .fa 0 (.l 0)⟩,⟨none, .fa 9 (.l 0)⟩,⟨none, .store 1 (.l 0) (.l 3)⟩] []) (.seq 
(.drw [(⟨none, .nilc (.t q4_5)⟩,[]),(⟨none, .fa 13 (.l 0)⟩,[]),(⟨none, .load 1 false (.l 0)⟩,[]),(⟨none, .nilc (.t q4_5)⟩,[]),(⟨none, .fa 0 (.l 0)⟩,[]),(⟨none, .fa 9 (.l 0)⟩,[]),(⟨none, .load 1 false (.l 0)⟩,[]),(⟨none, .app 1 (.l 4) (.l 0)⟩,[]),(⟨none, .call (.c (.fn 115 [])) [(.l 0)]⟩,[]),(⟨none, .nilc (.t q4_5)⟩,[]),(⟨none, .fa 0 (.l 0)⟩,[]),(⟨none, .fa 8 (.l 0)⟩,[]),(⟨none, .store 1 (.l 0) (.l 3)⟩,[])] []) (.seq 
(.reg [⟨none, .nilc (.t q4_5)⟩,⟨none, .fa 0 (.l 0)⟩,⟨none, .load 10 true (.l 0)⟩,⟨none, .store 10 (.t q4_3) (.l 0)⟩] [(q4_15,(.c (.bool true)))]) .ret)))))))))))), [(q4_3, some (10,true)),(q4_15, none)]⟩
def a79 : FN := ⟨full 3, [some q3_0,some q3_2], (.seq 
(.reg [⟨none, .box (.t q3_0)⟩,⟨none, .box (.c (.agg [.nilsl,.nilsl,.nilsl,.nilsl]))⟩] [(q3_1,(.l 1)),(q3_4,(.l 0))]) (.seq 
(.reg [⟨none, .fa 0 (.t q3_1)⟩,⟨none, .load 1 false (.l 0)⟩,⟨none, .call (.c (.fn 65 [])) [(.l 0),(.t q3_2)]⟩] [(q3_3,(.l 0))]) (.seq 
(.drw [(⟨none, .call (.c (.fn 116 [])) [(.t q3_2)]⟩,[]),(⟨none, .fa 1 (.t q3_1)⟩,[0]),(⟨none, .load 1 false (.l 0)⟩,[0]),(⟨none, .call (.c (.fn 65 [])) [(.l 0),(.t q3_2)]⟩,[]),(⟨none, .call (.c (.fn 65 [])) [(.l 0),(.t q3_3)]⟩,[]),(⟨none, .fa 3 (.t q3_1)⟩,[4, 3, 0]),(⟨none, .load 1 false (.l 0)⟩,[4, 3, 0]),(⟨none, .call (.c (.fn 116 [])) [(.l 0)]⟩,[]),(⟨none, .build [.nilsl,.nilsl,.nilsl,.nilsl] [(0,1,(.l 7)),(1,1,(.t q3_3)),(2,1,(.l 3)),(3,1,(.l 0))]⟩,[]),(⟨none, .store 4 (.t q3_4) (.l 0)⟩,[])] []) .ret))), [(q3_4, some (4,true))]⟩
def a80 : FN := ⟨full 3, [some q3_1,some q3_0], (.seq 
(.reg [⟨none, .box (.t q3_0)⟩] [(q3_2,(.l 0)),(q3_4,(.c (.str [])))]) (.seq (.seq 
(.reg [⟨none, .load 4 true (.t q3_2)⟩,⟨none, .call (.c (.fn 117 [])) [(.t q3_1),(.l 0)]⟩,⟨none, .not (.l 0)⟩] [(q3_3,(.l 0))]) (.cond (.t q3_3) (.seq 
(.reg [] [(q3_4,(.c (.str [])))]) .ret) .skip)) (.seq 
(.drw [(⟨none, .fa 0 (.t q3_2)⟩,[]),(⟨none, .load 1 false (.l 0)⟩,[]),(⟨none, .call (.c (.fn 118 [])) [(.t q3_1),(.l 0)]⟩,[]),(⟨none, .fa 1 (.t q3_2)⟩,[2]),(⟨none, .load 1 false (.l 0)⟩,[2]),(⟨none, .call (.c (.fn 118 [])) [(.t q3_1),(.l 0)]⟩,[]),(⟨none, .fa 2 (.t q3_2)⟩,[5, 2]),(⟨none, .load 1 false (.l 0)⟩,[5, 2]),(⟨none, .call (.c (.fn 118 [])) [(.t q3_1),(.l 0)]⟩,[]),(⟨none, .fa 3 (.t q3_2)⟩,[8, 5, 2]),(⟨none, .load 1 false (.l 0)⟩,[8, 5, 2]),(⟨none, .call (.c (.fn 118 [])) [(.t q3_1),(.l 0)]⟩,[]),(⟨none, .bin .add (.l 9) (.l 6)⟩,[11, 8]),(⟨none, .bin .add (.l 0) (.l 4)⟩,[11]),(⟨none, .bin .add (.l 0) (.l 2)⟩,[])] [(q3_4,(.l 0))]) .ret))), [(q3_4, none)]⟩
def a81 : FN := ⟨full 2, [some q2_2,some q2_0], (.seq 
(.reg [⟨none, .box (.t q2_0)⟩,⟨none, .box (.c (.agg [(.int .i64 (.ofNat 0)),(.int .i64 (.ofNat 0)),(.int .u32 (.ofNat 0)),(.int .u32 (.ofNat 0)),(.int .u32 (.ofNat 0)),(.int .u32 (.ofNat 0))]))⟩] [(q2_1,(.l 1)),(q2_3,(.l 0))]) (.seq 
(.drw [(⟨none, .load 3 true (.t q2_1)⟩,[]),(⟨none, .call (.c (.fn 83 [])) [(.l 0)]⟩,[]),(⟨none, .fa 1 (.t q2_1)⟩,[1]),(⟨none, .load 1 false (.l 0)⟩,[1]),(⟨none, .call (.c (.fn 119 [])) [(.t q2_2),(.l 2),(.l 0)]⟩,[]),(⟨none, .store 6 (.t q2_3) (.l 0)⟩,[])] []) .ret)), [(q2_3, some (6,true))]⟩
def a82 : FN := ⟨full 3, [some q3_0], (.seq 
(.reg [⟨none, .box (.t q3_0)⟩] [(q3_1,(.l 0)),(q3_5,(.c (.str [])))]) (.seq (.seq 
(.reg [⟨none, .fa 0 (.t q3_1)⟩,⟨none, .load 1 false (.l 0)⟩,⟨none, .bin .lt (.l 0) k1⟩,⟨(some ((.l 0),false)), .fa 0 (.t q3_1)⟩,⟨(some ((.l 1),false)), .load 1 false (.l 0)⟩,⟨(some ((.l 2),false)), .call (.c (.fn 120 [])) [(.l 0),(.c (.int .i64 (.ofNat 1073741824)))]⟩,⟨(some ((.l 3),false)), .not (.l 0)⟩,⟨none, .pick (.l 4) (.c (.bool true)) (.l 0)⟩,⟨(some ((.l 0),false)), .fa 1 (.t q3_1)⟩,⟨(some ((.l 1),false)), .load 1 false (.l 0)⟩,⟨(some ((.l 2),false)), .call (.c (.fn 120 [])) [(.l 0),(.c (.int .i64 (.ofNat 1073741824)))]⟩,⟨(some ((.l 3),false)), .not (.l 0)⟩,⟨none, .pick (.l 4) (.c (.bool true)) (.l 0)⟩,⟨(some ((.l 0),false)), .fa 2 (.t q3_1)⟩,⟨(some ((.l 1),false)), .load 1 false (.l 0)⟩,⟨(some ((.l 2),false)), .call (.c (.fn 120 [])) [(.l 0),(.c (.int .i64 (.ofNat 1073741824)))]⟩,⟨(some ((.l 3),false)), .not (.l 0)⟩,⟨none, .pick (.l 4) (.c (.bool true)) (.l 0)⟩,⟨(some ((.l 0),false)), .fa 21 (.t q3_1)⟩,⟨(some ((.l 1),false)), .load 1 false (.l 0)⟩,⟨(some ((.l 2),false)), .call (.c (.fn 120 [])) [(.l 0),(.c (.int .i64 (.ofNat 1073741824)))]⟩,⟨(some ((.l 3),false)), .not (.l 0)⟩,⟨none, .pick (.l 4) (.c (.bool true)) (.l 0)⟩] [(q3_3,(.l 0))]) (.cond (.t q3_3) (.seq 
(.reg [] [(q3_5,(.c (.str [])))]) .ret) .skip)) (.seq 
(.reg [⟨none, .fa 3 (.t q3_1)⟩,⟨none, .load 6 true (.l 0)⟩,⟨none, .fa 9 (.t q3_1)⟩,⟨none, .load 6 true (.l 0)⟩,⟨none, .fa 15 (.t q3_1)⟩,⟨none, .load 6 true (.l 0)⟩,⟨none, .mks 3 6 [(.int .i64 (.ofNat 0)),(.int .i64 (.ofNat 0)),(.int .u32 (.ofNat 0)),(.int .u32 (.ofNat 0)),(.int .u32 (.ofNat 0)),(.int .u32 (.ofNat 0))] [(0,6,(.l 4)),(6,6,(.l 2)),(12,6,(.l 0))]⟩,⟨none, .call (.c (.fn 121 [])) [(.l 0)]⟩] [(q3_2,(.l 0))]) (.seq (.seq 
(.reg [⟨none, .bin .eq (.t q3_2) (.c (.str []))⟩] [(q3_4,(.l 0))]) (.cond (.t q3_4) (.seq 
(.reg [] [(q3_5,(.c (.str [])))]) .ret) .skip)) (.seq 
(.drw [(⟨none, .fa 0 (.t q3_1)⟩,[]),(⟨none, .load 1 false (.l 0)⟩,[]),(⟨none, .fa 1 (.t q3_1)⟩,[]),(⟨none, .load 1 false (.l 0)⟩,[]),(⟨none, .fa 2 (.t q3_1)⟩,[]),(⟨none, .load 1 false (.l 0)⟩,[]),(⟨none, .mks 3 1 [(.int .i64 (.ofNat 0))] [(0,1,(.l 4)),(1,1,(.l 2)),(2,1,(.l 0))]⟩,[]),(⟨none, .call (.c (.fn 39 [])) [(.c (.str [52,52,52])),(.l 0)]⟩,[]),(⟨none, .fa 21 (.t q3_1)⟩,[7]),(⟨none, .load 1 false (.l 0)⟩,[7]),(⟨none, .mks 1 1 [(.int .i64 (.ofNat 0))] [(0,1,(.l 0))]⟩,[7]),(⟨none, .call (.c (.fn 39 [])) [(.c (.str [52])),(.l 0)]⟩,[]),(⟨none, .bin .add (.l 4) (.t q3_2)⟩,[11]),(⟨none, .bin .add (.l 0) (.l 1)⟩,[])] [(q3_5,(.l 0))]) .ret))))), [(q3_5, none)]⟩
def a83 : FN := ⟨full 2, [some q2_0], (.seq 
(.reg [⟨none, .box (.t q2_0)⟩] [(q2_1,(.l 0)),(q2_2,(.c (.str [])))]) (.seq 
(.reg [⟨none, .load 3 true (.t q2_1)⟩,⟨none, .build [(.int .i64 (.ofNat 0)),(.int .i64 (.ofNat 0)),(.str [])] [(0,3,(.l 0))]⟩,⟨none, .call (.c (.fn 122 [])) [(.l 0)]⟩] [(q2_2,(.l 0))]) .ret)), [(q2_2, none)]⟩
def a84 : FN := ⟨full 4, [some q4_1,some q4_0,some q4_3], (.seq 
(.reg [⟨none, .box (.t q4_0)⟩] [(q4_2,(.l 0)),(q4_8,(.c .nilsl))]) (.seq (.seq 
(.reg [⟨none, .call (.c (.fn 40 [])) [(.t q4_1)]⟩,⟨none, .not (.l 0)⟩,⟨(some ((.l 0),false)), .load 9 true (.t q4_2)⟩,⟨(some ((.l 1),false)), .call (.c (.fn 123 [])) [(.l 0)]⟩,⟨(some ((.l 2),false)), .not (.l 0)⟩,⟨none, .pick (.l 3) (.c (.bool true)) (.l 0)⟩,⟨(some ((.l 0),false)), .mov (.t q4_3)⟩,⟨(some ((.l 1),false)), .bin .lt (.l 0) k0⟩,⟨none, .pick (.l 2) (.c (.bool true)) (.l 0)⟩,⟨(some ((.l 0),false)), .mov (.t q4_3)⟩,⟨(some ((.l 1),false)), .bin .ge (.l 0) k2⟩,⟨none, .pick (.l 2) (.c (.bool true)) (.l 0)⟩] [(q4_6,(.l 0))]) (.cond (.t q4_6) (.seq 
(.reg [] [(q4_8,(.c .nilsl))]) .ret) .skip)) (.seq 
(.reg [] [(q4_5,(.c .nilsl))]) (.seq (.seq 
(.reg [] [(q4_4,(.t q4_3))]) (.block 0 (.loop (.seq (.seq 
(.reg [⟨none, .bin .lt (.t q4_4) k4⟩] [(q4_7,(.l 0))]) (.cond (.t q4_7) .skip (.exit 0))) (.seq (.block 1 
(.drw [(⟨none, .fa 2 (.t q4_2)⟩,[]),(⟨none, .load 1 false (.l 0)⟩,[]),(⟨none, .call (.c (.fn 124 [])) [(.t q4_1),(.t q4_4),(.l 0)]⟩,[]),(⟨none, .load 9 true (.t q4_2)⟩,[2]),(⟨none, .call (.c (.fn 125 [])) [(.l 0)]⟩,[]),(⟨none, .build [(.int .i64 (.ofNat 0)),(.str [])] [(0,1,(.l 2)),(1,1,(.l 0))]⟩,[]),(⟨none, .mks 1 2 [(.int .i64 (.ofNat 0)),(.str [])] [(0,2,(.l 0))]⟩,[]),(⟨none, .app 2 (.t q4_5) (.l 0)⟩,[])] [(q4_5,(.l 0))])) 
(.reg [⟨none, .bin .add (.t q4_4) k2⟩] [(q4_4,(.l 0))])))))) (.seq 
(.reg [] [(q4_8,(.t q4_5))]) .ret))))), [(q4_8, none)]⟩
def a85 : FN := ⟨full 4, [some q4_0], (.seq 
(.reg [⟨none, .box (.c (.agg [(.int .i64 (.ofNat 0)),(.int .i64 (.ofNat 0)),(.int .i64 (.ofNat 0)),(.int .i64 (.ofNat 0)),(.int .i64 (.ofNat 0)),(.int .u32 (.ofNat 0)),(.int .u32 (.ofNat 0)),(.int .u32 (.ofNat 0)),(.int .u32 (.ofNat 0)),(.int .i64 (.ofNat 0)),(.int .i64 (.ofNat 0)),(.int .u32 (.ofNat 0)),(.int .u32 (.ofNat 0)),(.int .u32 (.ofNat 0)),(.int .u32 (.ofNat 0)),(.int .i64 (.ofNat 0)),(.int .i64 (.ofNat 0)),(.int .u32 (.ofNat 0)),(.int .u32 (.ofNat 0)),(.int .u32 (.ofNat 0)),(.int .u32 (.ofNat 0)),(.int .i64 (.ofNat 0))]))⟩] [(q4_2,(.l 0)),(q4_12,(.c (.bool false)))]) (.seq 
(.reg [⟨none, .call (.c (.fn 126 [])) [(.c (.str [52,52,52])),(.t q4_0)]⟩,⟨none, .ext (.l 0) 0⟩,⟨none, .ext (.l 1) 1⟩,⟨none, .ext (.l 2) 2⟩] [(q4_1,(.l 0)),(q4_3,(.l 1)),(q4_4,(.l 2))]) (.seq (.seq 
(.reg [⟨none, .not (.t q4_1)⟩] [(q4_8,(.l 0))]) (.cond (.t q4_8) (.seq 
(.reg [⟨none, .build [(.int .i64 (.ofNat 0)),(.int .i64 (.ofNat 0)),(.int .i64 (.ofNat 0)),(.int .i64 (.ofNat 0)),(.int .i64 (.ofNat 0)),(.int .u32 (.ofNat 0)),(.int .u32 (.ofNat 0)),(.int .u32 (.ofNat 0)),(.int .u32 (.ofNat 0)),(.int .i64 (.ofNat 0)),(.int .i64 (.ofNat 0)),(.int .u32 (.ofNat 0)),(.int .u32 (.ofNat 0)),(.int .u32 (.ofNat 0)),(.int .u32 (.ofNat 0)),(.int .i64 (.ofNat 0)),(.int .i64 (.ofNat 0)),(.int .u32 (.ofNat 0)),(.int .u32 (.ofNat 0)),(.int .u32 (.ofNat 0)),(.int .u32 (.ofNat 0)),(.int .i64 (.ofNat 0))] []⟩,⟨none, .store 22 (.t q4_2) (.l 0)⟩] [(q4_12,(.c (.bool false)))]) .ret) .skip)) (.seq 
(.reg [⟨none, .call (.c (.fn 127 [])) [(.t q4_3),k3]⟩,⟨none, .ext (.l 0) 0⟩,⟨none, .ext (.l 1) 1⟩,⟨none, .ext (.l 2) 2⟩] [(q4_1,(.l 0)),(q4_3,(.l 1)),(q4_5,(.l 2))]) (.seq (.seq 
(.reg [⟨none, .not (.t q4_1)⟩] [(q4_9,(.l 0))]) (.cond (.t q4_9) (.seq 
(.reg [⟨none, .build [(.int .i64 (.ofNat 0)),(.int .i64 (.ofNat 0)),(.int .i64 (.ofNat 0)),(.int .i64 (.ofNat 0)),(.int .i64 (.ofNat 0)),(.int .u32 (.ofNat 0)),(.int .u32 (.ofNat 0)),(.int .u32 (.ofNat 0)),(.int .u32 (.ofNat 0)),(.int .i64 (.ofNat 0)),(.int .i64 (.ofNat 0)),(.int .u32 (.ofNat 0)),(.int .u32 (.ofNat 0)),(.int .u32 (.ofNat 0)),(.int .u32 (.ofNat 0)),(.int .i64 (.ofNat 0)),(.int .i64 (.ofNat 0)),(.int .u32 (.ofNat 0)),(.int .u32 (.ofNat 0)),(.int .u32 (.ofNat 0)),(.int .u32 (.ofNat 0)),(.int .i64 (.ofNat 0))] []⟩,⟨none, .store 22 (.t q4_2) (.l 0)⟩] [(q4_12,(.c (.bool false)))]) .ret) .skip)) (.seq 
(.reg [⟨none, .call (.c (.fn 126 [])) [(.c (.str [52])),(.t q4_3)]⟩,⟨none, .ext (.l 0) 0⟩,⟨none, .ext (.l 1) 1⟩,⟨none, .ext (.l 2) 2⟩] [(q4_1,(.l 0)),(q4_6,(.l 2))]) (.seq (.seq 
(.reg [⟨none, .not (.t q4_1)⟩] [(q4_10,(.l 0))]) (.cond (.t q4_10) (.seq 
(.reg [⟨none, .build [(.int .i64 (.ofNat 0)),(.int .i64 (.ofNat 0)),(.int .i64 (.ofNat 0)),(.int .i64 (.ofNat 0)),(.int .i64 (.ofNat 0)),(.int .u32 (.ofNat 0)),(.int .u32 (.ofNat 0)),(.int .u32 (.ofNat 0)),(.int .u32 (.ofNat 0)),(.int .i64 (.ofNat 0)),(.int .i64 (.ofNat 0)),(.int .u32 (.ofNat 0)),(.int .u32 (.ofNat 0)),(.int .u32 (.ofNat 0)),(.int .u32 (.ofNat 0)),(.int .i64 (.ofNat 0)),(.int .i64 (.ofNat 0)),(.int .u32 (.ofNat 0)),(.int .u32 (.ofNat 0)),(.int .u32 (.ofNat 0)),(.int .u32 (.ofNat 0)),(.int .i64 (.ofNat 0))] []⟩,⟨none, .store 22 (.t q4_2) (.l 0)⟩] [(q4_12,(.c (.bool false)))]) .ret) .skip)) (.seq 
(.drw [(⟨none, .ia 1 (.t q4_4) k0⟩,[]),(⟨none, .load 1 false (.l 0)⟩,[]),(⟨none, .ia 1 (.t q4_4) k1⟩,[]),(⟨none, .load 1 false (.l 0)⟩,[]),(⟨none, .ia 1 (.t q4_4) k2⟩,[]),(⟨none, .load 1 false (.l 0)⟩,[]),(⟨none, .ia 6 (.t q4_5) k0⟩,[]),(⟨none, .load 6 true (.l 0)⟩,[]),(⟨none, .ia 6 (.t q4_5) k1⟩,[]),(⟨none, .load 6 true (.l 0)⟩,[]),(⟨none, .ia 6 (.t q4_5) k2⟩,[]),(⟨none, .load 6 true (.l 0)⟩,[]),(⟨none, .ia 1 (.t q4_6) k0⟩,[]),(⟨none, .load 1 false (.l 0)⟩,[]),(⟨none, .build [(.int .i64 (.ofNat 0)),(.int .i64 (.ofNat 0)),(.int .i64 (.ofNat 0)),(.int .i64 (.ofNat 0)),(.int .i64 (.ofNat 0)),(.int .u32 (.ofNat 0)),(.int .u32 (.ofNat 0)),(.int .u32 (.ofNat 0)),(.int .u32 (.ofNat 0)),(.int .i64 (.ofNat 0)),(.int .i64 (.ofNat 0)),(.int .u32 (.ofNat 0)),(.int .u32 (.ofNat 0)),(.int .u32 (.ofNat 0)),(.int .u32 (.ofNat 0)),(.int .i64 (.ofNat 0)),(.int .i64 (.ofNat 0)),(.int .u32 (.ofNat 0)),(.int .u32 (.ofNat 0)),(.int .u32 (.ofNat 0)),(.int .u32 (.ofNat 0)),(.int .i64 (.ofNat 0))] [(0,1,(.l 12)),(1,1,(.l 10)),(2,1,(.l 8)),(3,6,(.l 6)),(9,6,(.l 4)),(15,6,(.l 2)),(21,1,(.l 0))]⟩,[]),(⟨none, .box (.c (.agg [(.int .i64 (.ofNat 0)),(.int .i64 (.ofNat 0)),(.int .i64 (.ofNat 0)),(.int .i64 (.ofNat 0)),(.int .i64 (.ofNat 0)),(.int .u32 (.ofNat 0)),(.int .u32 (.ofNat 0)),(.int .u32 (.ofNat 0)),(.int .u32 (.ofNat 0)),(.int .i64 (.ofNat 0)),(.int .i64 (.ofNat 0)),(.int .u32 (.ofNat 0)),(.int .u32 (.ofNat 0)),(.int .u32 (.ofNat 0)),(.int .u32 (.ofNat 0)),(.int .i64 (.ofNat 0)),(.int .i64 (.ofNat 0)),(.int .u32 (.ofNat 0)),(.int .u32 (.ofNat 0)),(.int .u32 (.ofNat 0)),(.int .u32 (.ofNat 0)),(.int .i64 (.ofNat 0))]))⟩,[]),(⟨none, .store 22 (.l 0) (.l 1)⟩,[])] [(q4_7,(.l 1))]) (.seq (.seq 
(.reg [⟨none, .load 22 true (.t q4_7)⟩,⟨none, .call (.c (.fn 82 [])) [(.l 0)]⟩,⟨none, .bin .ne (.l 0) (.t q4_0)⟩] [(q4_11,(.l 0))]) (.cond (.t q4_11) (.seq 
(.reg [⟨none, .build [(.int .i64 (.ofNat 0)),(.int .i64 (.ofNat 0)),(.int .i64 (.ofNat 0)),(.int .i64 (.ofNat 0)),(.int .i64 (.ofNat 0)),(.int .u32 (.ofNat 0)),(.int .u32 (.ofNat 0)),(.int .u32 (.ofNat 0)),(.int .u32 (.ofNat 0)),(.int .i64 (.ofNat 0)),(.int .i64 (.ofNat 0)),(.int .u32 (.ofNat 0)),(.int .u32 (.ofNat 0)),(.int .u32 (.ofNat 0)),(.int .u32 (.ofNat 0)),(.int .i64 (.ofNat 0)),(.int .i64 (.ofNat 0)),(.int .u32 (.ofNat 0)),(.int .u32 (.ofNat 0)),(.int .u32 (.ofNat 0)),(.int .u32 (.ofNat 0)),(.int .i64 (.ofNat 0))] []⟩,⟨none, .store 22 (.t q4_2) (.l 0)⟩] [(q4_12,(.c (.bool false)))]) .ret) .skip)) (.seq 
(.reg [⟨none, .load 22 true (.t q4_7)⟩,⟨none, .store 22 (.t q4_2) (.l 0)⟩] [(q4_12,(.c (.bool true)))]) .ret)))))))))), [(q4_2, some (22,true)),(q4_12, none)]⟩
def a86 : FN := ⟨full 5, [some q5_0], (.seq 
(.reg [] [(q5_1,(.c (.bool false))),(q5_8,(.c .nilsl)),(q5_10,(.c .nilsl))]) (.seq 
(.reg [⟨none, .call (.c (.fn 126 [])) [(.c (.str [49])),(.t q5_0)]⟩,⟨none, .ext (.l 0) 0⟩,⟨none, .ext (.l 1) 1⟩,⟨none, .ext (.l 2) 2⟩] [(q5_1,(.l 0)),(q5_2,(.l 2)),(q5_5,(.l 1))]) (.seq (.seq 
(.reg [⟨none, .not (.t q5_1)⟩] [(q5_12,(.l 0))]) (.cond (.t q5_12) (.seq 
(.reg [] [(q5_1,(.c (.bool false))),(q5_8,(.c .nilsl)),(q5_10,(.c .nilsl))]) .ret) .skip)) (.seq (.seq 
(.reg [⟨none, .ia 1 (.t q5_2) k0⟩,⟨none, .load 1 false (.l 0)⟩] [(q5_3,k0),(q5_4,(.l 0))]) (.block 0 (.loop (.seq 
(.reg [⟨none, .bin .lt (.t q5_3) (.t q5_4)⟩] [(q5_13,(.l 0))]) (.seq (.cond (.t q5_13) .skip (.exit 0)) (.seq (.block 1 (.seq 
(.reg [⟨none, .call (.c (.fn 126 [])) [(.c (.str [50,49,50,49])),(.t q5_5)]⟩,⟨none, .ext (.l 0) 0⟩,⟨none, .ext (.l 1) 1⟩,⟨none, .ext (.l 2) 2⟩] [(q5_6,(.l 0)),(q5_7,(.l 1)),(q5_9,(.l 2))]) (.seq (.seq 
(.reg [⟨none, .not (.t q5_6)⟩] [(q5_14,(.l 0))]) (.cond (.t q5_14) (.seq 
(.reg [] [(q5_1,(.c (.bool false))),(q5_8,(.c .nilsl)),(q5_10,(.c .nilsl))]) .ret) .skip)) (.seq 
(.reg [⟨none, .call (.c (.fn 127 [])) [(.t q5_7),k1]⟩,⟨none, .ext (.l 0) 0⟩,⟨none, .ext (.l 1) 1⟩,⟨none, .ext (.l 2) 2⟩] [(q5_6,(.l 0)),(q5_7,(.l 1)),(q5_11,(.l 2))]) (.seq (.seq 
(.reg [⟨none, .not (.t q5_6)⟩] [(q5_15,(.l 0))]) (.cond (.t q5_15) (.seq 
(.reg [] [(q5_1,(.c (.bool false))),(q5_8,(.c .nilsl)),(q5_10,(.c .nilsl))]) .ret) .skip)) 
(.drw [(⟨none, .ia 1 (.t q5_9) k0⟩,[]),(⟨none, .load 1 false (.l 0)⟩,[]),(⟨none, .ia 1 (.t q5_9) k1⟩,[]),(⟨none, .load 1 false (.l 0)⟩,[]),(⟨none, .ia 1 (.t q5_9) k2⟩,[]),(⟨none, .load 1 false (.l 0)⟩,[]),(⟨none, .ia 1 (.t q5_9) k3⟩,[]),(⟨none, .load 1 false (.l 0)⟩,[]),(⟨none, .build [(.int .i64 (.ofNat 0)),(.int .i64 (.ofNat 0)),(.int .i64 (.ofNat 0)),(.int .i64 (.ofNat 0)),.nilsl] [(0,1,(.l 6)),(1,1,(.l 4)),(2,1,(.l 2)),(3,1,(.l 0))]⟩,[]),(⟨none, .mks 1 5 [(.int .i64 (.ofNat 0)),(.int .i64 (.ofNat 0)),(.int .i64 (.ofNat 0)),(.int .i64 (.ofNat 0)),.nilsl] [(0,5,(.l 0))]⟩,[]),(⟨none, .app 5 (.t q5_8) (.l 0)⟩,[]),(⟨none, .ia 6 (.t q5_11) k0⟩,[10]),(⟨none, .load 6 true (.l 0)⟩,[10]),(⟨none, .mks 1 6 [(.int .i64 (.ofNat 0)),(.int .i64 (.ofNat 0)),(.int .u32 (.ofNat 0)),(.int .u32 (.ofNat 0)),(.int .u32 (.ofNat 0)),(.int .u32 (.ofNat 0))] [(0,6,(.l 0))]⟩,[10]),(⟨none, .app 6 (.t q5_10) (.l 0)⟩,[])] [(q5_5,(.t q5_7)),(q5_8,(.l 4)),(q5_10,(.l 0))])))))) 
(.reg [⟨none, .bin .add (.t q5_3) k1⟩] [(q5_3,(.l 0))]))))))) (.seq (.seq 
(.reg [⟨none, .call (.c (.fn 113 [])) [(.t q5_8),(.t q5_10)]⟩,⟨none, .bin .ne (.l 0) (.t q5_0)⟩] [(q5_16,(.l 0))]) (.cond (.t q5_16) (.seq 
(.reg [] [(q5_1,(.c (.bool false))),(q5_8,(.c .nilsl)),(q5_10,(.c .nilsl))]) .ret) .skip)) (.seq 
(.reg [] [(q5_1,(.c (.bool true))),(q5_8,(.t q5_8)),(q5_10,(.t q5_10))]) .ret)))))), [(q5_8, none),(q5_10, none),(q5_1, none)]⟩
def a87 : FN := ⟨full 5, [some q5_0,some q5_1], (.seq 
(.reg [⟨none, .box (.t q5_0)⟩,⟨none, .box (.t q5_1)⟩,⟨none, .box (.c (.agg [.nilsl,.nilsl,(.int .i64 (.ofNat 0)),(.int .i64 (.ofNat 0)),(.bool false),.nilsl,.nilsl,.nilsl,(.bool false)]))⟩] [(q5_2,(.l 2)),(q5_3,(.l 1)),(q5_7,(.l 0))]) (.seq 
(.drw [(⟨none, .call (.c (.fn 18 [])) []⟩,[]),(⟨none, .load 5 true (.t q5_2)⟩,[0]),(⟨none, .mksl 6 32 [(.int .i64 (.ofNat 0)),(.int .i64 (.ofNat 0)),(.int .u32 (.ofNat 0)),(.int .u32 (.ofNat 0)),(.int .u32 (.ofNat 0)),(.int .u32 (.ofNat 0))] k8 k8⟩,[0]),(⟨none, .mksl 6 32 [(.int .i64 (.ofNat 0)),(.int .i64 (.ofNat 0)),(.int .u32 (.ofNat 0)),(.int .u32 (.ofNat 0)),(.int .u32 (.ofNat 0)),(.int .u32 (.ofNat 0))] (.c (.int .i64 (.ofNat 32))) (.c (.int .i64 (.ofNat 32)))⟩,[0]),(⟨none, .build [.nilsl,.nilsl,(.int .i64 (.ofNat 0)),(.int .i64 (.ofNat 0)),(.bool false),.nilsl,.nilsl,.nilsl,(.bool false)] [(0,5,(.l 2)),(5,1,(.l 3)),(6,1,(.l 1)),(7,1,(.l 0))]⟩,[]),(⟨none, .box (.c (.agg [.nilsl,.nilsl,(.int .i64 (.ofNat 0)),(.int .i64 (.ofNat 0)),(.bool false),.nilsl,.nilsl,.nilsl,(.bool false)]))⟩,[0]),(⟨none, .store 9 (.l 0) (.l 1)⟩,[])] [(q5_6,(.l 1))]) (.seq 
(.reg [⟨none, .load 5 true (.t q5_2)⟩,⟨none, .load 6 true (.t q5_3)⟩,⟨none, .call (.c (.fn 49 [])) [(.l 1),(.l 0),k3]⟩,⟨none, .ext (.l 0) 0⟩,⟨none, .ext (.l 1) 1⟩] [(q5_4,(.l 1))]) (.seq 
(.reg [⟨none, .call (.c (.fn 128 [])) [(.t q5_4)]⟩,⟨none, .ext (.l 0) 0⟩,⟨none, .ext (.l 1) 1⟩] [(q5_5,(.l 0)),(q5_8,(.l 1))]) (.seq (.seq 
(.reg [⟨none, .not (.t q5_5)⟩] [(q5_14,(.l 0))]) (.cond (.t q5_14) (.seq 
(.reg [⟨none, .call (.c (.fn 129 [])) [(.t q5_6)]⟩] []) (.seq 
(.reg [⟨none, .load 9 true (.t q5_6)⟩,⟨none, .store 9 (.t q5_7) (.l 0)⟩] []) .ret)) .skip)) (.seq 
(.reg [⟨none, .fa 6 (.t q5_6)⟩,⟨none, .store 1 (.l 0) (.t q5_8)⟩] []) (.seq (.seq 
(.reg [⟨none, .len (.t q5_8)⟩] [(q5_9,k0),(q5_10,(.l 0)),(q5_11,(.t q5_8))]) (.block 0 (.loop (.seq 
(.reg [⟨none, .bin .lt (.t q5_9) (.t q5_10)⟩] [(q5_15,(.l 0))]) (.seq (.cond (.t q5_15) .skip (.exit 0)) (.seq (.block 1 (.seq 
(.reg [⟨none, .ia 6 (.t q5_11) (.t q5_9)⟩,⟨none, .load 6 true (.l 0)⟩,⟨none, .box (.c (.agg [(.int .i64 (.ofNat 0)),(.int .i64 (.ofNat 0)),(.int .u32 (.ofNat 0)),(.int .u32 (.ofNat 0)),(.int .u32 (.ofNat 0)),(.int .u32 (.ofNat 0))]))⟩,⟨none, .store 6 (.l 0) (.l 1)⟩] [(q5_12,(.t q5_9)),(q5_13,(.l 1))]) (.seq 
(.reg [⟨none, .bin .eq (.t q5_12) k0⟩,⟨(some ((.l 0),false)), .load 6 true (.t q5_13)⟩,⟨(some ((.l 1),false)), .build [(.int .i64 (.ofNat 0)),(.int .i64 (.ofNat 0)),(.int .u32 (.ofNat 0)),(.int .u32 (.ofNat 0)),(.int .u32 (.ofNat 0)),(.int .u32 (.ofNat 0))] []⟩,⟨(some ((.l 2),false)), .eqa [1, 1, 1, 1, 1, 1] true (.l 1) (.l 0)⟩,⟨none, .pick (.l 3) (.c (.bool true)) (.l 0)⟩] [(q5_16,(.l 0))]) (.cond (.t q5_16) 
(.reg [⟨none, .call (.c (.fn 130 [])) [(.t q5_6),(.t q5_12)]⟩] []) .skip)))) 
(.reg [⟨none, .bin .add (.t q5_9) k1⟩] [(q5_9,(.l 0))]))))))) (.seq (.seq 
(.reg [⟨none, .fa 5 (.t q5_6)⟩,⟨none, .load 1 false (.l 0)⟩,⟨none, .call (.c (.fn 131 [])) [(.l 0)]⟩,⟨none, .not (.l 0)⟩] [(q5_17,(.l 0))]) (.cond (.t q5_17) 
(.reg [⟨none, .call (.c (.fn 129 [])) [(.t q5_6)]⟩] []) .skip)) (.seq 
(.reg [⟨none, .load 9 true (.t q5_6)⟩,⟨none, .store 9 (.t q5_7) (.l 0)⟩] []) .ret))))))))), [(q5_7, some (9,true))]⟩
def a88 : FN := ⟨full 4, [some q4_0,some q4_1,some q4_7], (.seq 
(.reg [⟨none, .box (.t q4_0)⟩,⟨none, .box (.t q4_1)⟩] [(q4_2,(.l 0)),(q4_3,(.l 1)),(q4_10,(.c (.str []))),(q4_11,(.c (.bool false)))]) (.seq (.seq 
(.reg [⟨none, .fa 0 (.t q4_2)⟩,⟨none, .load 1 false (.l 0)⟩,⟨none, .bin .lt (.l 0) (.c (.int .i64 (.ofNat 14)))⟩] [(q4_8,(.l 0))]) (.cond (.t q4_8) (.seq 
(.reg [] [(q4_10,(.c (.str []))),(q4_11,(.c (.bool false)))]) .ret) .skip)) (.seq 
(.reg [⟨none, .load 5 true (.t q4_3)⟩,⟨none, .fa 0 (.t q4_2)⟩,⟨none, .load 1 false (.l 0)⟩,⟨none, .call (.c (.fn 132 [])) [(.l 2),(.l 0)]⟩,⟨none, .ext (.l 0) 0⟩,⟨none, .ext (.l 1) 1⟩] [(q4_4,(.l 1)),(q4_5,(.l 0))]) (.seq (.seq 
(.reg [⟨none, .call (.c (.fn 133 [])) [(.t q4_4)]⟩,⟨none, .box (.c (.agg [(.int .i64 (.ofNat 0)),(.int .i64 (.ofNat 0)),(.str []),(.bool false)]))⟩,⟨none, .store 4 (.l 0) (.l 1)⟩] [(q4_6,(.l 1))]) (.seq 
(.reg [⟨(some ((.t q4_5),true)), .load 4 true (.t q4_6)⟩,⟨(some ((.t q4_5),true)), .load 6 true (.t q4_2)⟩,⟨(some ((.t q4_5),true)), .mov (.t q4_7)⟩,⟨(some ((.t q4_5),true)), .call (.c (.fn 134 [])) [(.l 2),(.l 1),(.l 0)]⟩,⟨none, .pick (.t q4_5) (.l 0) (.c (.bool false))⟩] [(q4_9,(.l 0))]) (.cond (.t q4_9) (.seq 
(.reg [⟨none, .fa 0 (.t q4_6)⟩,⟨none, .fa 0 (.l 0)⟩,⟨none, .fa 2 (.l 0)⟩,⟨none, .load 1 false (.l 0)⟩] [(q4_10,(.l 0)),(q4_11,(.c (.bool true)))]) .ret) .skip))) (.seq 
(.reg [] [(q4_10,(.c (.str []))),(q4_11,(.c (.bool false)))]) .ret))))), [(q4_10, none),(q4_11, none)]⟩
def a89 : FN := ⟨full 4, [some q4_0,some q4_1], (.seq 
(.reg [] [(q4_10,(.c .nilsl)),(q4_11,(.c (.str []))),(q4_12,(.c (.bool false)))]) (.seq (.seq 
(.reg [⟨none, .call (.c (.fn 135 [])) [(.t q4_0)]⟩,⟨none, .not (.l 0)⟩,⟨(some ((.l 0),false)), .mov (.t q4_1)⟩,⟨(some ((.l 1),false)), .lens (.l 0)⟩,⟨(some ((.l 2),false)), .mov (.t q4_0)⟩,⟨(some ((.l 3),false)), .call (.c (.fn 136 [])) [(.l 0)]⟩,⟨(some ((.l 4),false)), .bin .lt (.l 2) (.l 0)⟩,⟨none, .pick (.l 5) (.c (.bool true)) (.l 0)⟩] [(q4_6,(.l 0))]) (.cond (.t q4_6) (.seq 
(.reg [] [(q4_10,(.c .nilsl)),(q4_11,(.c (.str []))),(q4_12,(.c (.bool false)))]) .ret) .skip)) (.seq 
(.reg [] [(q4_5,(.c .nilsl))]) (.seq (.seq 
(.reg [⟨none, .call (.c (.fn 136 [])) [(.t q4_0)]⟩,⟨none, .bin .mul k8 (.l 0)⟩] [(q4_2,k0),(q4_3,(.l 0))]) (.block 0 (.loop (.seq 
(.reg [⟨none, .bin .lt (.t q4_2) (.t q4_3)⟩] [(q4_7,(.l 0))]) (.seq (.cond (.t q4_7) .skip (.exit 0)) (.seq (.block 1 (.seq 
(.reg [] [(q4_4,(.t q4_2))]) (.seq (.seq 
(.reg [⟨none, .bin .quo (.t q4_4) k8⟩,⟨none, .idx (.t q4_1) (.l 0)⟩,⟨none, .bin .rem (.t q4_4) k8⟩,⟨none, .bin .shr (.l 1) (.l 0)⟩,⟨none, .bin .and (.l 0) (.c (.int .u8 (.ofNat 1)))⟩,⟨none, .bin .eq (.l 0) (.c (.int .u8 (.ofNat 0)))⟩] [(q4_8,(.l 0))]) (.cond (.t q4_8) (.exit 1) .skip)) (.seq (.seq 
(.reg [⟨none, .bin .ge (.t q4_4) (.t q4_0)⟩] [(q4_9,(.l 0))]) (.cond (.t q4_9) (.seq 
(.reg [] [(q4_10,(.c .nilsl)),(q4_11,(.c (.str []))),(q4_12,(.c (.bool false)))]) .ret) .skip)) 
(.reg [⟨none, .bin .add (.c (.int .i64 (.ofNat 14))) (.t q4_4)⟩,⟨none, .mks 1 1 [(.int .i64 (.ofNat 0))] [(0,1,(.l 0))]⟩,⟨none, .app 1 (.t q4_5) (.l 0)⟩] [(q4_5,(.l 0))]))))) 
(.reg [⟨none, .bin .add (.t q4_2) k1⟩] [(q4_2,(.l 0))]))))))) (.seq 
(.drw [(⟨none, .call (.c (.fn 115 [])) [(.t q4_5)]⟩,[]),(⟨none, .call (.c (.fn 136 [])) [(.t q4_0)]⟩,[]),(⟨none, .slc 0 (.t q4_1) (some (.l 0)) none none⟩,[])] [(q4_10,(.l 2)),(q4_11,(.l 0)),(q4_12,(.c (.bool true)))]) .ret))))), [(q4_10, none),(q4_11, none),(q4_12, none)]⟩
def a90 : FN := ⟨full 4, [some q4_1], (.seq 
(.reg [⟨none, .box (.c (.agg [(.int .u32 (.ofNat 0)),(.int .u32 (.ofNat 0)),(.int .u32 (.ofNat 0)),(.int .u32 (.ofNat 0))]))⟩] [(q4_8,(.l 0))]) (.seq 
(.reg [] [(q4_2,(.c (.str [])))]) (.seq (.seq 
(.reg [] [(q4_0,k0)]) (.block 0 (.loop (.seq (.seq 
(.reg [⟨none, .len (.t q4_1)⟩,⟨none, .bin .lt (.t q4_0) (.l 0)⟩] [(q4_9,(.l 0))]) (.cond (.t q4_9) .skip (.exit 0))) (.seq (.block 1 
(.reg [⟨none, .ia 1 (.t q4_1) (.t q4_0)⟩,⟨none, .load 1 false (.l 0)⟩,⟨none, .bin .add (.t q4_2) (.l 0)⟩] [(q4_2,(.l 0))])) 
(.reg [⟨none, .bin .add (.t q4_0) k1⟩] [(q4_0,(.l 0))])))))) (.seq 
(.reg [⟨none, .box (.c (.agg [(.int .u32 (.ofNat 0)),(.int .u32 (.ofNat 0)),(.int .u32 (.ofNat 0)),(.int .u32 (.ofNat 0))]))⟩] [(q4_7,(.l 0))]) (.seq (.seq 
(.reg [] [(q4_3,k0)]) (.block 2 (.loop (.seq (.seq 
(.reg [⟨none, .lens (.t q4_2)⟩,⟨none, .bin .lt (.t q4_3) (.l 0)⟩] [(q4_10,(.l 0))]) (.cond (.t q4_10) .skip (.exit 2))) (.seq (.block 3 (.seq 
(.reg [] [(q4_5,(.c (.int .u32 (.ofNat 0))))]) (.seq (.seq 
(.reg [] [(q4_4,k3)]) (.block 4 (.loop (.seq (.seq 
(.reg [⟨none, .bin .ge (.t q4_4) k0⟩] [(q4_11,(.l 0))]) (.cond (.t q4_11) .skip (.exit 4))) (.seq (.block 5 (.seq 
(.reg [⟨none, .bin .mul (.t q4_5) (.c (.int .u32 (.ofNat 256)))⟩] [(q4_5,(.l 0))]) (.seq 
(.reg [⟨none, .bin .add (.t q4_3) (.t q4_4)⟩,⟨none, .lens (.t q4_2)⟩,⟨none, .bin .lt (.l 1) (.l 0)⟩] [(q4_12,(.l 0))]) (.cond (.t q4_12) 
(.reg [⟨none, .bin .add (.t q4_3) (.t q4_4)⟩,⟨none, .idx (.t q4_2) (.l 0)⟩,⟨none, .conv .u32 (.l 0)⟩,⟨none, .bin .add (.t q4_5) (.l 0)⟩] [(q4_5,(.l 0))]) .skip)))) 
(.reg [⟨none, .bin .sub (.t q4_4) k1⟩] [(q4_4,(.l 0))])))))) (.seq 
(.reg [] [(q4_6,k0)]) (.block 6 (.loop (.seq (.seq 
(.reg [⟨none, .bin .lt (.t q4_6) k4⟩] [(q4_13,(.l 0))]) (.cond (.t q4_13) .skip (.exit 6))) (.seq (.block 7 (.seq 
(.reg [⟨none, .iap 4 1 (.t q4_7) (.t q4_6)⟩,⟨none, .load 1 false (.l 0)⟩,⟨none, .bin .add (.l 0) (.t q4_5)⟩,⟨none, .iap 4 1 (.t q4_7) (.t q4_6)⟩,⟨none, .store 1 (.l 0) (.l 1)⟩] []) 
(.reg [⟨none, .iap 4 1 (.t q4_7) (.t q4_6)⟩,⟨none, .load 1 false (.l 0)⟩] [(q4_5,(.l 0))]))) 
(.reg [⟨none, .bin .add (.t q4_6) k1⟩] [(q4_6,(.l 0))]))))))))) 
(.reg [⟨none, .bin .add (.t q4_3) k4⟩] [(q4_3,(.l 0))])))))) (.seq 
(.reg [⟨none, .load 4 true (.t q4_7)⟩,⟨none, .store 4 (.t q4_8) (.l 0)⟩] []) .ret)))))), [(q4_8, some (4,true))]⟩
def a91 : FN := ⟨full 4, [some q4_0], (.seq 
(.reg [] [(q4_8,(.c (.bool false)))]) (.seq 
(.reg [] [(q4_5,(.c (.int .i64 (.negSucc 0))))]) (.seq (.seq 
(.reg [⟨none, .len (.t q4_0)⟩] [(q4_1,k0),(q4_2,(.l 0)),(q4_3,(.t q4_0))]) (.block 0 (.loop (.seq 
(.reg [⟨none, .bin .lt (.t q4_1) (.t q4_2)⟩] [(q4_6,(.l 0))]) (.seq (.cond (.t q4_6) .skip (.exit 0)) (.seq (.block 1 (.seq 
(.reg [⟨none, .ia 2 (.t q4_3) (.t q4_1)⟩,⟨none, .load 2 true (.l 0)⟩,⟨none, .box (.c (.agg [(.int .i64 (.ofNat 0)),(.int .i64 (.ofNat 0))]))⟩,⟨none, .store 2 (.l 0) (.l 1)⟩] [(q4_4,(.l 1))]) (.seq (.seq 
(.reg [⟨none, .fa 0 (.t q4_4)⟩,⟨none, .load 1 false (.l 0)⟩,⟨none, .bin .le (.l 0) (.t q4_5)⟩,⟨(some ((.l 0),false)), .fa 0 (.t q4_4)⟩,⟨(some ((.l 1),false)), .load 1 false (.l 0)⟩,⟨(some ((.l 2),false)), .fa 1 (.t q4_4)⟩,⟨(some ((.l 3),false)), .load 1 false (.l 0)⟩,⟨(some ((.l 4),false)), .bin .ge (.l 2) (.l 0)⟩,⟨none, .pick (.l 5) (.c (.bool true)) (.l 0)⟩,⟨(some ((.l 0),false)), .fa 1 (.t q4_4)⟩,⟨(some ((.l 1),false)), .load 1 false (.l 0)⟩,⟨(some ((.l 2),false)), .bin .gt (.l 0) (.c (.int .i64 (.ofNat 1073741824)))⟩,⟨none, .pick (.l 3) (.c (.bool true)) (.l 0)⟩] [(q4_7,(.l 0))]) (.cond (.t q4_7) (.seq 
(.reg [] [(q4_8,(.c (.bool false)))]) .ret) .skip)) 
(.reg [⟨none, .fa 1 (.t q4_4)⟩,⟨none, .load 1 false (.l 0)⟩] [(q4_5,(.l 0))])))) 
(.reg [⟨none, .bin .add (.t q4_1) k1⟩] [(q4_1,(.l 0))]))))))) (.seq 
(.reg [] [(q4_8,(.c (.bool true)))]) .ret)))), [(q4_8, none)]⟩
def a92 : FN := ⟨full 2, [some q2_0,some q2_1], (.seq 
(.reg [] [(q2_2,(.c .nilsl))]) (.seq 
(.reg [⟨none, .build [.nilsl,.nilsl] [(0,1,(.t q2_0)),(1,1,(.t q2_1))]⟩,⟨none, .call (.c (.fn 94 [])) [(.l 0),(.c (.fn 137 []))]⟩] [(q2_2,(.l 0))]) .ret)), [(q2_2, none)]⟩
def a93 : FN := ⟨full 2, [some q2_0,some q2_1], (.seq 
(.reg [] [(q2_2,(.c .nilsl))]) (.seq 
(.reg [⟨none, .build [.nilsl,.nilsl] [(0,1,(.t q2_0)),(1,1,(.t q2_1))]⟩,⟨none, .call (.c (.fn 94 [])) [(.l 0),(.c (.fn 138 []))]⟩] [(q2_2,(.l 0))]) .ret)), [(q2_2, none)]⟩
def a94 : FN := ⟨full 4, [some q4_0,some q4_4], (.seq 
(.reg [⟨none, .box (.t q4_0)⟩] [(q4_1,(.l 0)),(q4_8,(.c .nilsl))]) (.seq 
(.reg [] [(q4_5,(.c .nilsl))]) (.seq 
(.reg [⟨none, .load 2 true (.t q4_1)⟩,⟨none, .call (.c (.fn 139 [])) [(.l 0)]⟩] [(q4_3,(.l 0))]) (.seq (.seq 
(.reg [] [(q4_2,k1)]) (.block 0 (.loop (.seq (.seq 
(.reg [⟨none, .len (.t q4_3)⟩,⟨none, .bin .lt (.t q4_2) (.l 0)⟩] [(q4_6,(.l 0))]) (.cond (.t q4_6) .skip (.exit 0))) (.seq (.block 1 (.seq 
(.drw [(⟨none, .fa 0 (.t q4_1)⟩,[]),(⟨none, .load 1 false (.l 0)⟩,[]),(⟨none, .bin .sub (.t q4_2) k1⟩,[]),(⟨none, .ia 1 (.t q4_3) (.l 0)⟩,[]),(⟨none, .load 1 false (.l 0)⟩,[]),(⟨none, .call (.c (.fn 140 [])) [(.l 3),(.l 0)]⟩,[]),(⟨none, .fa 1 (.t q4_1)⟩,[5]),(⟨none, .load 1 false (.l 0)⟩,[5]),(⟨none, .bin .sub (.t q4_2) k1⟩,[5]),(⟨none, .ia 1 (.t q4_3) (.l 0)⟩,[5]),(⟨none, .load 1 false (.l 0)⟩,[5]),(⟨none, .call (.c (.fn 140 [])) [(.l 3),(.l 0)]⟩,[]),(⟨none, .call (.t q4_4) [(.l 6),(.l 0)]⟩,[])] [(q4_7,(.l 0))]) (.cond (.t q4_7) 
(.drw [(⟨none, .bin .sub (.t q4_2) k1⟩,[]),(⟨none, .ia 1 (.t q4_3) (.l 0)⟩,[]),(⟨none, .load 1 false (.l 0)⟩,[]),(⟨none, .ia 1 (.t q4_3) (.t q4_2)⟩,[]),(⟨none, .load 1 false (.l 0)⟩,[]),(⟨none, .build [(.int .i64 (.ofNat 0)),(.int .i64 (.ofNat 0))] [(0,1,(.l 2)),(1,1,(.l 0))]⟩,[]),(⟨none, .call (.c (.fn 141 [])) [(.t q4_5),(.l 0)]⟩,[])] [(q4_5,(.l 0))]) .skip))) 
(.reg [⟨none, .bin .add (.t q4_2) k1⟩] [(q4_2,(.l 0))])))))) (.seq 
(.reg [] [(q4_8,(.t q4_5))]) .ret))))), [(q4_8, none)]⟩
def a95 : FN := ⟨full 2, [some q2_0,some q2_1], (.seq 
(.reg [] [(q2_2,(.c (.bool false)))]) (.seq 
(.reg [⟨(some ((.t q2_0),true)), .mov (.t q2_1)⟩,⟨(some ((.t q2_0),true)), .not (.l 0)⟩,⟨none, .pick (.t q2_0) (.l 0) (.c (.bool false))⟩] [(q2_2,(.l 0))]) .ret)), [(q2_2, none)]⟩
def a96 : FN := ⟨full 4, [some q4_0,some q4_1], (.seq 
(.reg [] [(q4_8,(.c (.bool false)))]) (.seq (.seq 
(.reg [⟨none, .len (.t q4_0)⟩,⟨none, .len (.t q4_1)⟩,⟨none, .bin .ne (.l 1) (.l 0)⟩] [(q4_5,(.l 0))]) (.cond (.t q4_5) (.seq 
(.reg [] [(q4_8,(.c (.bool false)))]) .ret) .skip)) (.seq (.seq 
(.reg [⟨none, .len (.t q4_0)⟩] [(q4_2,k0),(q4_3,(.l 0))]) (.block 0 (.loop (.seq 
(.reg [⟨none, .bin .lt (.t q4_2) (.t q4_3)⟩] [(q4_6,(.l 0))]) (.seq (.cond (.t q4_6) .skip (.exit 0)) (.seq (.block 1 (.seq 
(.reg [] [(q4_4,(.t q4_2))]) (.seq 
(.drw [(⟨none, .ia 2 (.t q4_0) (.t q4_4)⟩,[]),(⟨none, .load 2 true (.l 0)⟩,[]),(⟨none, .ia 2 (.t q4_1) (.t q4_4)⟩,[]),(⟨none, .load 2 true (.l 0)⟩,[]),(⟨none, .eqa [1, 1] true (.l 2) (.l 0)⟩,[])] [(q4_7,(.l 0))]) (.cond (.t q4_7) (.seq 
(.reg [] [(q4_8,(.c (.bool false)))]) .ret) .skip)))) 
(.reg [⟨none, .bin .add (.t q4_2) k1⟩] [(q4_2,(.l 0))]))))))) (.seq 
(.reg [] [(q4_8,(.c (.bool true)))]) .ret)))), [(q4_8, none)]⟩
def a97 : FN := ⟨full 4, [some q4_0,some q4_1], (.seq 
(.reg [] [(q4_8,(.c (.bool false)))]) (.seq (.seq 
(.reg [⟨none, .len (.t q4_0)⟩,⟨none, .len (.t q4_1)⟩,⟨none, .bin .ne (.l 1) (.l 0)⟩] [(q4_5,(.l 0))]) (.cond (.t q4_5) (.seq 
(.reg [] [(q4_8,(.c (.bool false)))]) .ret) .skip)) (.seq (.seq 
(.reg [⟨none, .len (.t q4_0)⟩] [(q4_2,k0),(q4_3,(.l 0))]) (.block 0 (.loop (.seq 
(.reg [⟨none, .bin .lt (.t q4_2) (.t q4_3)⟩] [(q4_6,(.l 0))]) (.seq (.cond (.t q4_6) .skip (.exit 0)) (.seq (.block 1 (.seq 
(.reg [] [(q4_4,(.t q4_2))]) (.seq 
(.drw [(⟨none, .ia 5 (.t q4_0) (.t q4_4)⟩,[]),(⟨none, .load 5 true (.l 0)⟩,[]),(⟨none, .ia 5 (.t q4_1) (.t q4_4)⟩,[]),(⟨none, .load 5 true (.l 0)⟩,[]),(⟨none, .eqa [1, 1, 2, 2, 1] true (.l 2) (.l 0)⟩,[])] [(q4_7,(.l 0))]) (.cond (.t q4_7) (.seq 
(.reg [] [(q4_8,(.c (.bool false)))]) .ret) .skip)))) 
(.reg [⟨none, .bin .add (.t q4_2) k1⟩] [(q4_2,(.l 0))]))))))) (.seq 
(.reg [] [(q4_8,(.c (.bool true)))]) .ret)))), [(q4_8, none)]⟩
def a98 : FN := ⟨full 5, [some q5_0,some q5_2], (.seq 
(.reg [] [(q5_20,(.c (.str [])))]) (.seq (.seq 
(.reg [⟨none, .len (.t q5_0)⟩] [(q5_1,(.l 0))]) (.block 0 (.seq 
(.reg [⟨none, .bin .eq (.t q5_1) k0⟩] [(q5_13,(.l 0))]) (.cond (.t q5_13) (.seq 
(.reg [] [(q5_20,(.c (.str [])))]) .ret) (.seq 
(.reg [⟨none, .bin .eq (.t q5_1) k1⟩] [(q5_14,(.l 0))]) (.cond (.t q5_14) (.seq 
(.reg [⟨none, .ia 1 (.t q5_0) k0⟩,⟨none, .load 1 false (.l 0)⟩] [(q5_20,(.l 0))]) .ret) .skip)))))) (.seq 
(.reg [] [(q5_3,k0)]) (.seq (.seq 
(.reg [⟨none, .lens (.t q5_2)⟩,⟨none, .bin .gt (.l 0) k0⟩] [(q5_15,(.l 0))]) (.cond (.t q5_15) (.seq (.seq 
(.reg [⟨none, .lens (.t q5_2)⟩,⟨none, .len (.t q5_0)⟩,⟨none, .bin .sub (.l 0) k1⟩,⟨none, .bin .quo (.c (.int .i64 (.ofNat 9223372036854775807))) (.l 0)⟩,⟨none, .bin .ge (.l 3) (.l 0)⟩] [(q5_16,(.l 0))]) (.cond (.t q5_16) 
(.reg [⟨none, .bad⟩,⟨none, .bad⟩] []) .skip)) 
(.reg [⟨none, .lens (.t q5_2)⟩,⟨none, .len (.t q5_0)⟩,⟨none, .bin .sub (.l 0) k1⟩,⟨none, .bin .mul (.l 2) (.l 0)⟩,⟨none, .bin .add (.t q5_3) (.l 0)⟩] [(q5_3,(.l 0))])) .skip)) (.seq (.seq 
(.reg [⟨none, .len (.t q5_0)⟩] [(q5_4,k0),(q5_5,(.l 0)),(q5_6,(.t q5_0))]) (.block 1 (.loop (.seq 
(.reg [⟨none, .bin .lt (.t q5_4) (.t q5_5)⟩] [(q5_17,(.l 0))]) (.seq (.cond (.t q5_17) .skip (.exit 1)) (.seq (.block 2 (.seq 
(.reg [⟨none, .ia 1 (.t q5_6) (.t q5_4)⟩,⟨none, .load 1 false (.l 0)⟩] [(q5_7,(.l 0))]) (.seq (.seq 
(.reg [⟨none, .lens (.t q5_7)⟩,⟨none, .bin .sub (.c (.int .i64 (.ofNat 9223372036854775807))) (.t q5_3)⟩,⟨none, .bin .gt (.l 1) (.l 0)⟩] [(q5_18,(.l 0))]) (.cond (.t q5_18) 
(.reg [⟨none, .bad⟩,⟨none, .bad⟩] []) .skip)) 
(.reg [⟨none, .lens (.t q5_7)⟩,⟨none, .bin .add (.t q5_3) (.l 0)⟩] [(q5_3,(.l 0))])))) 
(.reg [⟨none, .bin .add (.t q5_4) k1⟩] [(q5_4,(.l 0))]))))))) (.seq 
(.reg [⟨none, .box (.c (.agg [.nilptr,.nilsl]))⟩] [(q5_8,(.l 0))]) (.seq 
(.reg [⟨none, .call (.c (.fn 101 [])) [(.t q5_8),(.t q5_3)]⟩] []) (.seq 
(.reg [⟨none, .ia 1 (.t q5_0) k0⟩,⟨none, .load 1 false (.l 0)⟩,⟨none, .call (.c (.fn 102 [])) [(.t q5_8),(.l 0)]⟩] []) (.seq (.seq 
(.reg [⟨none, .slc 1 (.t q5_0) (some k1) none none⟩,⟨none, .len (.l 0)⟩] [(q5_9,k0),(q5_10,(.l 0)),(q5_11,(.l 1))]) (.block 3 (.loop (.seq 
(.reg [⟨none, .bin .lt (.t q5_9) (.t q5_10)⟩] [(q5_19,(.l 0))]) (.seq (.cond (.t q5_19) .skip (.exit 3)) (.seq (.block 4 (.seq 
(.reg [⟨none, .ia 1 (.t q5_11) (.t q5_9)⟩,⟨none, .load 1 false (.l 0)⟩] [(q5_12,(.l 0))]) (.seq 
(.reg [⟨none, .call (.c (.fn 102 [])) [(.t q5_8),(.t q5_2)]⟩] []) 
(.reg [⟨none, .call (.c (.fn 102 [])) [(.t q5_8),(.t q5_12)]⟩] [])))) 
(.reg [⟨none, .bin .add (.t q5_9) k1⟩] [(q5_9,(.l 0))]))))))) (.seq 
(.reg [⟨none, .call (.c (.fn 104 [])) [(.t q5_8)]⟩] [(q5_20,(.l 0))]) .ret)))))))))), [(q5_20, none)]⟩
def a105 : FN := ⟨full 3, [some q3_0,some q3_1,some q3_2], (.seq 
(.reg [] [(q3_6,(.c (.str [])))]) (.seq 
(.reg [⟨none, .build [(.str []),(.str [])] [(0,1,(.t q3_0)),(1,1,(.t q3_1))]⟩,⟨none, .box (.c (.agg [(.str []),(.str [])]))⟩,⟨none, .store 2 (.l 0) (.l 1)⟩] [(q3_3,(.l 1))]) (.seq 
(.drw [(⟨none, .bin .and (.t q3_2) k1⟩,[]),(⟨none, .iap 2 1 (.t q3_3) (.l 0)⟩,[]),(⟨none, .load 1 false (.l 0)⟩,[]),(⟨none, .bin .shr (.t q3_2) (.c (.int .u64 (.ofNat 1)))⟩,[]),(⟨none, .bin .and (.l 0) k1⟩,[]),(⟨none, .iap 2 1 (.t q3_3) (.l 0)⟩,[]),(⟨none, .load 1 false (.l 0)⟩,[])] [(q3_4,(.l 4)),(q3_5,(.l 0))]) (.seq 
(.drw [(⟨none, .lens (.t q3_4)⟩,[]),(⟨none, .mn (.c (.int .i64 (.ofNat 128))) (.l 0)⟩,[]),(⟨none, .slc 0 (.t q3_4) none (some (.l 0)) none⟩,[]),(⟨none, .lens (.t q3_5)⟩,[]),(⟨none, .mn (.c (.int .i64 (.ofNat 128))) (.l 0)⟩,[]),(⟨none, .slc 0 (.t q3_5) (some (.l 0)) none none⟩,[]),(⟨none, .bin .add (.l 3) (.l 0)⟩,[])] [(q3_6,(.l 0))]) .ret)))), [(q3_6, none)]⟩
def a106 : FN := ⟨full 1, [some q1_0], (.seq 
(.reg [] [(q1_1,(.c (.bool false)))]) (.seq 
(.reg [⟨none, .build [.nilsl] [(0,1,(.t q1_0))]⟩,⟨none, .call (.c (.fn 147 [])) [(.l 0)]⟩] [(q1_1,(.l 0))]) .ret)), [(q1_1, none)]⟩
def a109 : FN := ⟨full 4, [some q4_0], (.seq 
(.reg [] [(q4_14,(.c .nilsl))]) (.seq 
(.reg [] [(q4_9,(.c .nilsl))]) (.seq (.seq 
(.reg [⟨none, .len (.t q4_0)⟩] [(q4_1,k0),(q4_2,(.l 0)),(q4_3,(.t q4_0))]) (.block 0 (.loop (.seq 
(.reg [⟨none, .bin .lt (.t q4_1) (.t q4_2)⟩] [(q4_11,(.l 0))]) (.seq (.cond (.t q4_11) .skip (.exit 0)) (.seq (.block 1 (.seq 
(.reg [⟨none, .ia 30 (.t q4_3) (.t q4_1)⟩,⟨none, .load 30 true (.l 0)⟩,⟨none, .box (.c (.agg [(.int .i64 (.ofNat 0)),(.int .i64 (.ofNat 0)),(.int .i64 (.ofNat 0)),(.int .i64 (.ofNat 0)),(.int .i64 (.ofNat 0)),(.int .u32 (.ofNat 0)),(.int .u32 (.ofNat 0)),(.int .u32 (.ofNat 0)),(.int .u32 (.ofNat 0)),(.int .i64 (.ofNat 0)),(.int .i64 (.ofNat 0)),(.int .u32 (.ofNat 0)),(.int .u32 (.ofNat 0)),(.int .u32 (.ofNat 0)),(.int .u32 (.ofNat 0)),(.int .i64 (.ofNat 0)),(.int .i64 (.ofNat 0)),(.int .u32 (.ofNat 0)),(.int .u32 (.ofNat 0)),(.int .u32 (.ofNat 0)),(.int .u32 (.ofNat 0)),(.int .i64 (.ofNat 0)),.nilsl,.nilsl,.nilsl,.nilsl,.nilsl,.nilsl,.nilsl,.nilsl]))⟩,⟨none, .store 30 (.l 0) (.l 1)⟩] [(q4_4,(.l 1))]) (.seq 
(.reg [⟨none, .fa 26 (.t q4_4)⟩,⟨none, .load 1 false (.l 0)⟩,⟨none, .len (.l 0)⟩] [(q4_5,k0),(q4_6,(.l 0)),(q4_7,(.l 1))]) (.block 2 (.loop (.seq 
(.reg [⟨none, .bin .lt (.t q4_5) (.t q4_6)⟩] [(q4_12,(.l 0))]) (.seq (.cond (.t q4_12) .skip (.exit 2)) (.seq (.block 3 (.seq 
(.reg [⟨none, .ia 5 (.t q4_7) (.t q4_5)⟩,⟨none, .load 5 true (.l 0)⟩,⟨none, .box (.c (.agg [(.int .i64 (.ofNat 0)),(.int .i64 (.ofNat 0)),(.int .i64 (.ofNat 0)),(.int .i64 (.ofNat 0)),.nilsl]))⟩,⟨none, .store 5 (.l 0) (.l 1)⟩] [(q4_8,(.t q4_5)),(q4_10,(.l 1))]) (.seq 
(.reg [⟨none, .fa 27 (.t q4_4)⟩,⟨none, .load 1 false (.l 0)⟩,⟨none, .len (.l 0)⟩,⟨none, .bin .lt (.t q4_8) (.l 0)⟩,⟨(some ((.l 0),true)), .mov (.t q4_8)⟩,⟨(some ((.l 1),true)), .fa 28 (.t q4_4)⟩,⟨(some ((.l 2),true)), .load 1 false (.l 0)⟩,⟨(some ((.l 3),true)), .len (.l 0)⟩,⟨(some ((.l 4),true)), .bin .lt (.l 3) (.l 0)⟩,⟨none, .pick (.l 5) (.l 0) (.c (.bool false))⟩,⟨(some ((.l 0),true)), .mov (.t q4_8)⟩,⟨(some ((.l 1),true)), .fa 29 (.t q4_4)⟩,⟨(some ((.l 2),true)), .load 1 false (.l 0)⟩,⟨(some ((.l 3),true)), .len (.l 0)⟩,⟨(some ((.l 4),true)), .bin .lt (.l 3) (.l 0)⟩,⟨none, .pick (.l 5) (.l 0) (.c (.bool false))⟩] [(q4_13,(.l 0))]) (.cond (.t q4_13) 
(.drw [(⟨none, .load 5 true (.t q4_10)⟩,[]),(⟨none, .fa 27 (.t q4_4)⟩,[]),(⟨none, .load 1 false (.l 0)⟩,[]),(⟨none, .ia 6 (.l 0) (.t q4_8)⟩,[]),(⟨none, .load 6 true (.l 0)⟩,[]),(⟨none, .fa 28 (.t q4_4)⟩,[]),(⟨none, .load 1 false (.l 0)⟩,[]),(⟨none, .ia 1 (.l 0) (.t q4_8)⟩,[]),(⟨none, .load 1 false (.l 0)⟩,[]),(⟨none, .fa 29 (.t q4_4)⟩,[]),(⟨none, .load 1 false (.l 0)⟩,[]),(⟨none, .ia 1 (.l 0) (.t q4_8)⟩,[]),(⟨none, .load 1 false (.l 0)⟩,[]),(⟨none, .build [(.int .i64 (.ofNat 0)),(.int .i64 (.ofNat 0)),(.int .i64 (.ofNat 0)),(.int .i64 (.ofNat 0)),.nilsl,(.int .i64 (.ofNat 0)),(.int .i64 (.ofNat 0)),(.int .u32 (.ofNat 0)),(.int .u32 (.ofNat 0)),(.int .u32 (.ofNat 0)),(.int .u32 (.ofNat 0)),.nilsl,.nilsl] [(0,5,(.l 12)),(5,6,(.l 8)),(11,1,(.l 4)),(12,1,(.l 0))]⟩,[]),(⟨none, .mks 1 13 [(.int .i64 (.ofNat 0)),(.int .i64 (.ofNat 0)),(.int .i64 (.ofNat 0)),(.int .i64 (.ofNat 0)),.nilsl,(.int .i64 (.ofNat 0)),(.int .i64 (.ofNat 0)),(.int .u32 (.ofNat 0)),(.int .u32 (.ofNat 0)),(.int .u32 (.ofNat 0)),(.int .u32 (.ofNat 0)),.nilsl,.nilsl] [(0,13,(.l 0))]⟩,[]),(⟨none, .app 13 (.t q4_9) (.l 0)⟩,[])] [(q4_9,(.l 0))]) .skip)))) 
(.reg [⟨none, .bin .add (.t q4_5) k1⟩] [(q4_5,(.l 0))]))))))))) 
(.reg [⟨none, .bin .add (.t q4_1) k1⟩] [(q4_1,(.l 0))]))))))) (.seq 
(.reg [] [(q4_14,(.t q4_9))]) .ret)))), [(q4_14, none)]⟩
def a110 : FN := ⟨full 4, [some q4_1,some q4_0], (.seq 
(.reg [] [(q4_11,(.c .nilsl)),(q4_12,(.c (.bool false)))]) (.seq (.seq 
(.reg [⟨none, .bin .lt (.t q4_0) k0⟩,⟨(some ((.l 0),false)), .mov (.t q4_0)⟩,⟨(some ((.l 1),false)), .mov (.t q4_1)⟩,⟨(some ((.l 2),false)), .call (.c (.fn 31 [])) [(.l 0)]⟩,⟨(some ((.l 3),false)), .bin .gt (.l 2) (.l 0)⟩,⟨none, .pick (.l 4) (.c (.bool true)) (.l 0)⟩] [(q4_8,(.l 0))]) (.cond (.t q4_8) (.seq 
(.reg [] [(q4_11,(.c .nilsl)),(q4_12,(.c (.bool false)))]) .ret) .skip)) (.seq 
(.reg [] [(q4_7,(.c .nilsl))]) (.seq (.seq 
(.reg [⟨none, .len (.t q4_1)⟩] [(q4_2,k0),(q4_3,(.l 0)),(q4_4,(.t q4_1))]) (.block 0 (.loop (.seq 
(.reg [⟨none, .bin .lt (.t q4_2) (.t q4_3)⟩] [(q4_9,(.l 0))]) (.seq (.cond (.t q4_9) .skip (.exit 0)) (.seq (.block 1 (.seq 
(.reg [⟨none, .ia 2 (.t q4_4) (.t q4_2)⟩,⟨none, .load 2 true (.l 0)⟩,⟨none, .box (.c (.agg [(.int .i64 (.ofNat 0)),(.int .i64 (.ofNat 0))]))⟩,⟨none, .store 2 (.l 0) (.l 1)⟩] [(q4_5,(.l 1))]) (.seq 
(.reg [⟨none, .fa 0 (.t q4_5)⟩,⟨none, .load 1 false (.l 0)⟩] [(q4_6,(.l 0))]) (.block 2 (.loop (.seq (.seq 
(.reg [⟨none, .fa 1 (.t q4_5)⟩,⟨none, .load 1 false (.l 0)⟩,⟨none, .bin .lt (.t q4_6) (.l 0)⟩,⟨(some ((.l 0),true)), .mov (.t q4_7)⟩,⟨(some ((.l 1),true)), .len (.l 0)⟩,⟨(some ((.l 2),true)), .mov (.t q4_0)⟩,⟨(some ((.l 3),true)), .bin .lt (.l 1) (.l 0)⟩,⟨none, .pick (.l 4) (.l 0) (.c (.bool false))⟩] [(q4_10,(.l 0))]) (.cond (.t q4_10) .skip (.exit 2))) (.seq (.block 3 
(.reg [⟨none, .mks 1 1 [(.int .i64 (.ofNat 0))] [(0,1,(.t q4_6))]⟩,⟨none, .app 1 (.t q4_7) (.l 0)⟩] [(q4_7,(.l 0))])) 
(.reg [⟨none, .bin .add (.t q4_6) k1⟩] [(q4_6,(.l 0))])))))))) 
(.reg [⟨none, .bin .add (.t q4_2) k1⟩] [(q4_2,(.l 0))]))))))) (.seq 
(.reg [] [(q4_11,(.t q4_7)),(q4_12,(.c (.bool true)))]) .ret))))), [(q4_11, none),(q4_12, none)]⟩
def a111 : FN := ⟨full 4, [some q4_5,some q4_0], (.seq 
(.reg [⟨none, .box (.t q4_0)⟩,⟨none, .box (.c (.agg [(.int .i64 (.ofNat 0)),(.int .i64 (.ofNat 0)),(.int .u32 (.ofNat 0)),(.int .u32 (.ofNat 0)),(.int .u32 (.ofNat 0)),(.int .u32 (.ofNat 0))]))⟩] [(q4_1,(.l 1)),(q4_11,(.l 0))]) (.seq 
(.reg [⟨none, .load 5 true (.t q4_1)⟩,⟨none, .build [(.int .i64 (.ofNat 0)),(.int .i64 (.ofNat 0)),(.int .i64 (.ofNat 0)),(.int .i64 (.ofNat 0)),.nilsl,(.int .i64 (.ofNat 0)),(.int .i64 (.ofNat 0)),(.int .u32 (.ofNat 0)),(.int .u32 (.ofNat 0)),(.int .u32 (.ofNat 0)),(.int .u32 (.ofNat 0)),.nilsl,.nilsl] [(0,5,(.l 0))]⟩,⟨none, .box (.c (.agg [(.int .i64 (.ofNat 0)),(.int .i64 (.ofNat 0)),(.int .i64 (.ofNat 0)),(.int .i64 (.ofNat 0)),.nilsl,(.int .i64 (.ofNat 0)),(.int .i64 (.ofNat 0)),(.int .u32 (.ofNat 0)),(.int .u32 (.ofNat 0)),(.int .u32 (.ofNat 0)),(.int .u32 (.ofNat 0)),.nilsl,.nilsl]))⟩,⟨none, .store 13 (.l 0) (.l 1)⟩] [(q4_8,(.l 1))]) (.seq (.seq 
(.reg [⟨none, .fa 4 (.t q4_1)⟩,⟨none, .load 1 false (.l 0)⟩,⟨none, .len (.l 0)⟩] [(q4_2,k0),(q4_3,(.l 0)),(q4_4,(.l 1))]) (.block 0 (.loop (.seq 
(.reg [⟨none, .bin .lt (.t q4_2) (.t q4_3)⟩] [(q4_12,(.l 0))]) (.seq (.cond (.t q4_12) .skip (.exit 0)) (.seq (.block 1 (.seq 
(.reg [⟨none, .ia 5 (.t q4_4) (.t q4_2)⟩,⟨none, .load 5 true (.l 0)⟩,⟨none, .box (.c (.agg [(.int .i64 (.ofNat 0)),(.int .i64 (.ofNat 0)),(.str []),(.str []),(.int .i64 (.ofNat 0))]))⟩,⟨none, .store 5 (.l 0) (.l 1)⟩] [(q4_6,(.t q4_2)),(q4_7,(.l 1))]) (.seq 
(.reg [⟨none, .load 5 true (.t q4_7)⟩,⟨none, .call (.c (.fn 149 [])) [(.t q4_5),(.t q4_6),(.l 0)]⟩,⟨none, .ext (.l 0) 0⟩,⟨none, .ext (.l 1) 1⟩,⟨none, .box (.c (.agg [(.int .i64 (.ofNat 0)),(.int .i64 (.ofNat 0)),(.int .u32 (.ofNat 0)),(.int .u32 (.ofNat 0)),(.int .u32 (.ofNat 0)),(.int .u32 (.ofNat 0))]))⟩,⟨none, .store 6 (.l 0) (.l 2)⟩] [(q4_9,(.l 1)),(q4_10,(.l 2))]) 
(.drw [(⟨none, .fa 11 (.t q4_8)⟩,[]),(⟨none, .load 1 false (.l 0)⟩,[]),(⟨none, .load 6 true (.t q4_9)⟩,[]),(⟨none, .mks 1 6 [(.int .i64 (.ofNat 0)),(.int .i64 (.ofNat 0)),(.int .u32 (.ofNat 0)),(.int .u32 (.ofNat 0)),(.int .u32 (.ofNat 0)),(.int .u32 (.ofNat 0))] [(0,6,(.l 0))]⟩,[]),(⟨none, .app 6 (.l 2) (.l 0)⟩,[]),(⟨none, .fa 12 (.t q4_8)⟩,[4]),(⟨none, .load 1 false (.l 0)⟩,[4]),(⟨none, .app 6 (.l 0) (.t q4_10)⟩,[]),(⟨none, .fa 11 (.t q4_8)⟩,[7]),(⟨none, .store 1 (.l 0) (.l 4)⟩,[]),(⟨none, .fa 12 (.t q4_8)⟩,[]),(⟨none, .store 1 (.l 0) (.l 3)⟩,[])] [])))) 
(.reg [⟨none, .bin .add (.t q4_2) k1⟩] [(q4_2,(.l 0))]))))))) (.seq 
(.reg [⟨none, .fa 11 (.t q4_8)⟩,⟨none, .load 1 false (.l 0)⟩,⟨none, .call (.c (.fn 150 [])) [(.t q4_5),(.l 0)]⟩,⟨none, .fa 5 (.t q4_8)⟩,⟨none, .store 6 (.l 0) (.l 1)⟩] []) (.seq 
(.drw [(⟨none, .nilc (.t q4_5)⟩,[]),(⟨none, .fa 12 (.l 0)⟩,[]),(⟨none, .load 1 false (.l 0)⟩,[]),(⟨none, .load 13 true (.t q4_8)⟩,[]),(⟨none, .mks 1 13 [(.int .i64 (.ofNat 0)),(.int .i64 (.ofNat 0)),(.int .i64 (.ofNat 0)),(.int .i64 (.ofNat 0)),.nilsl,(.int .i64 (.ofNat 0)),(.int .i64 (.ofNat 0)),(.int .u32 (.ofNat 0)),(.int .u32 (.ofNat 0)),(.int .u32 (.ofNat 0)),(.int .u32 (.ofNat 0)),.nilsl,.nilsl] [(0,13,(.l 0))]⟩,[]),(⟨none, .app 13 (.l 2) (.l 0)⟩,[]),(⟨none, .nilc (.t q4_5)⟩,[]),(⟨none, .fa 12 (.l 0)⟩,[]),(⟨none, .store 1 (.l 0) (.l 2)⟩,[])] []) (.seq 
(.reg [⟨none, .fa 5 (.t q4_8)⟩,⟨none, .load 6 true (.l 0)⟩,⟨none, .store 6 (.t q4_11) (.l 0)⟩] []) .ret)))))), [(q4_11, some (6,true))]⟩
def a112 : FN := ⟨full 3, [some q3_1,some q3_0,some q3_2], (.seq 
(.reg [⟨none, .box (.c (.agg [(.int .i64 (.ofNat 0)),(.int .i64 (.ofNat 0)),(.int .u32 (.ofNat 0)),(.int .u32 (.ofNat 0)),(.int .u32 (.ofNat 0)),(.int .u32 (.ofNat 0))]))⟩] [(q3_5,(.l 0))]) (.seq 
(.reg [⟨none, .nilc (.t q3_1)⟩,⟨none, .fa 10 (.l 0)⟩,⟨none, .load 1 false (.l 0)⟩,⟨none, .build [(.int .i64 (.ofNat 0)),(.int .i64 (.ofNat 0)),(.str [])] [(0,1,(.t q3_0)),(1,1,(.l 0)),(2,1,(.t q3_2))]⟩,⟨none, .box (.c (.agg [(.int .i64 (.ofNat 0)),(.int .i64 (.ofNat 0)),(.str [])]))⟩,⟨none, .store 3 (.l 0) (.l 1)⟩] [(q3_3,(.l 1))]) (.seq 
(.reg [] [(q3_4,k0)]) (.seq (.seq 
(.drw [(⟨none, .nilc (.t q3_1)⟩,[]),(⟨none, .fa 0 (.l 0)⟩,[]),(⟨none, .fa 0 (.l 0)⟩,[]),(⟨none, .load 1 false (.l 0)⟩,[]),(⟨none, .len (.l 0)⟩,[]),(⟨none, .nilc (.t q3_1)⟩,[]),(⟨none, .fa 11 (.l 0)⟩,[]),(⟨none, .load 1 false (.l 0)⟩,[]),(⟨none, .len (.l 0)⟩,[]),(⟨none, .bin .lt (.l 4) (.l 0)⟩,[])] [(q3_6,(.l 0))]) (.cond (.t q3_6) 
(.drw [(⟨none, .nilc (.t q3_1)⟩,[]),(⟨none, .fa 11 (.l 0)⟩,[]),(⟨none, .load 1 false (.l 0)⟩,[]),(⟨none, .nilc (.t q3_1)⟩,[]),(⟨none, .fa 0 (.l 0)⟩,[]),(⟨none, .fa 0 (.l 0)⟩,[]),(⟨none, .load 1 false (.l 0)⟩,[]),(⟨none, .len (.l 0)⟩,[]),(⟨none, .ia 1 (.l 5) (.l 0)⟩,[]),(⟨none, .load 1 false (.l 0)⟩,[])] [(q3_4,(.l 0))]) .skip)) (.seq 
(.drw [(⟨none, .nilc (.t q3_1)⟩,[]),(⟨none, .fa 0 (.l 0)⟩,[]),(⟨none, .fa 0 (.l 0)⟩,[]),(⟨none, .load 1 false (.l 0)⟩,[]),(⟨none, .load 3 true (.t q3_3)⟩,[]),(⟨none, .mks 1 3 [(.int .i64 (.ofNat 0)),(.int .i64 (.ofNat 0)),(.str [])] [(0,3,(.l 0))]⟩,[]),(⟨none, .app 3 (.l 2) (.l 0)⟩,[]),(⟨none, .nilc (.t q3_1)⟩,[6]),(⟨none, .fa 0 (.l 0)⟩,[6]),(⟨none, .fa 1 (.l 0)⟩,[6]),(⟨none, .load 1 false (.l 0)⟩,[6]),(⟨none, .mks 1 1 [(.int .i64 (.ofNat 0))] [(0,1,(.t q3_4))]⟩,[6]),(⟨none, .app 1 (.l 1) (.l 0)⟩,[]),(⟨none, .nilc (.t q3_1)⟩,[]),(⟨none, .fa 0 (.l 0)⟩,[]),(⟨none, .fa 0 (.l 0)⟩,[]),(⟨none, .store 1 (.l 0) (.l 9)⟩,[]),(⟨none, .nilc (.t q3_1)⟩,[]),(⟨none, .fa 0 (.l 0)⟩,[]),(⟨none, .fa 1 (.l 0)⟩,[]),(⟨none, .store 1 (.l 0) (.l 7)⟩,[])] []) (.seq 
(.reg [⟨none, .load 3 true (.t q3_3)⟩,⟨none, .call (.c (.fn 81 [])) [(.t q3_4),(.l 0)]⟩,⟨none, .call (.c (.fn 151 [])) [(.t q3_1),(.l 0)]⟩,⟨none, .store 6 (.t q3_5) (.l 0)⟩] []) .ret)))))), [(q3_5, some (6,true))]⟩
def a113 : FN := ⟨full 4, [some q4_0,some q4_1], (.seq 
(.reg [] [(q4_13,(.c (.str [])))]) (.seq (.seq 
(.reg [⟨none, .len (.t q4_0)⟩,⟨none, .bin .gt (.l 0) k8⟩,⟨(some ((.l 0),false)), .mov (.t q4_0)⟩,⟨(some ((.l 1),false)), .len (.l 0)⟩,⟨(some ((.l 2),false)), .mov (.t q4_1)⟩,⟨(some ((.l 3),false)), .len (.l 0)⟩,⟨(some ((.l 4),false)), .bin .ne (.l 2) (.l 0)⟩,⟨none, .pick (.l 5) (.c (.bool true)) (.l 0)⟩] [(q4_10,(.l 0))]) (.cond (.t q4_10) (.seq 
(.reg [] [(q4_13,(.c (.str [])))]) .ret) .skip)) (.seq 
(.reg [⟨none, .len (.t q4_0)⟩,⟨none, .mks 1 1 [(.int .i64 (.ofNat 0))] [(0,1,(.l 0))]⟩,⟨none, .call (.c (.fn 39 [])) [(.c (.str [49])),(.l 0)]⟩] [(q4_8,k0),(q4_9,(.l 0))]) (.seq (.seq 
(.reg [⟨none, .len (.t q4_0)⟩] [(q4_2,k0),(q4_3,(.l 0)),(q4_4,(.t q4_0))]) (.block 0 (.loop (.seq 
(.reg [⟨none, .bin .lt (.t q4_2) (.t q4_3)⟩] [(q4_11,(.l 0))]) (.seq (.cond (.t q4_11) .skip (.exit 0)) (.seq (.block 1 (.seq 
(.reg [⟨none, .ia 5 (.t q4_4) (.t q4_2)⟩,⟨none, .load 5 true (.l 0)⟩,⟨none, .box (.c (.agg [(.int .i64 (.ofNat 0)),(.int .i64 (.ofNat 0)),(.int .i64 (.ofNat 0)),(.int .i64 (.ofNat 0)),.nilsl]))⟩,⟨none, .store 5 (.l 0) (.l 1)⟩] [(q4_5,(.l 1)),(q4_6,(.t q4_2))]) (.seq 
(.drw [(⟨none, .load 5 true (.t q4_5)⟩,[]),(⟨none, .ia 6 (.t q4_1) (.t q4_6)⟩,[]),(⟨none, .load 6 true (.l 0)⟩,[]),(⟨none, .build [(.int .i64 (.ofNat 0)),(.int .i64 (.ofNat 0)),(.int .i64 (.ofNat 0)),(.int .i64 (.ofNat 0)),.nilsl,(.int .i64 (.ofNat 0)),(.int .i64 (.ofNat 0)),(.int .u32 (.ofNat 0)),(.int .u32 (.ofNat 0)),(.int .u32 (.ofNat 0)),(.int .u32 (.ofNat 0))] [(0,5,(.l 2)),(5,6,(.l 0))]⟩,[]),(⟨none, .box (.c (.agg [(.int .i64 (.ofNat 0)),(.int .i64 (.ofNat 0)),(.int .i64 (.ofNat 0)),(.int .i64 (.ofNat 0)),.nilsl,(.int .i64 (.ofNat 0)),(.int .i64 (.ofNat 0)),(.int .u32 (.ofNat 0)),(.int .u32 (.ofNat 0)),(.int .u32 (.ofNat 0)),(.int .u32 (.ofNat 0))]))⟩,[]),(⟨none, .store 11 (.l 0) (.l 1)⟩,[])] [(q4_7,(.l 1))]) (.seq (.seq 
(.reg [⟨none, .load 11 true (.t q4_7)⟩,⟨none, .call (.c (.fn 152 [])) [(.l 0),(.t q4_8)]⟩,⟨none, .not (.l 0)⟩] [(q4_12,(.l 0))]) (.cond (.t q4_12) (.seq 
(.reg [] [(q4_13,(.c (.str [])))]) .ret) .skip)) 
(.drw [(⟨none, .load 11 true (.t q4_7)⟩,[]),(⟨none, .call (.c (.fn 153 [])) [(.l 0)]⟩,[]),(⟨none, .bin .add (.t q4_9) (.l 0)⟩,[]),(⟨none, .fa 0 (.t q4_7)⟩,[1]),(⟨none, .fa 0 (.l 0)⟩,[1]),(⟨none, .load 1 false (.l 0)⟩,[1])] [(q4_8,(.l 0)),(q4_9,(.l 3))]))))) 
(.reg [⟨none, .bin .add (.t q4_2) k1⟩] [(q4_2,(.l 0))]))))))) (.seq 
(.reg [] [(q4_13,(.t q4_9))]) .ret))))), [(q4_13, none)]⟩
def a114 : FN := ⟨full 2, [some q2_0], (.seq 
(.reg [] [(q2_2,(.c .nilsl))]) (.seq (.seq 
(.reg [⟨none, .eqs false (.t q2_0) (.c .nilsl)⟩] [(q2_1,(.l 0))]) (.cond (.t q2_1) (.seq 
(.reg [] [(q2_2,(.c .nilsl))]) .ret) .skip)) (.seq 
(.reg [⟨none, .mks 0 1 [(.int .i64 (.ofNat 0))] []⟩,⟨none, .app 1 (.l 0) (.t q2_0)⟩] [(q2_2,(.l 0))]) .ret))), [(q2_2, none)]⟩
def a115 : FN := ⟨full 4, [some q4_0], (.seq 
(.reg [] [(q4_8,(.c .nilsl))]) (.seq 
(.reg [] [(q4_5,(.c .nilsl))]) (.seq 
(.reg [⟨none, .call (.c (.fn 114 [])) [(.t q4_0)]⟩] [(q4_0,(.l 0))]) (.seq 
(.reg [⟨none, .call (.c (.fn 154 [])) [(.t q4_0)]⟩] []) (.seq (.seq 
(.reg [⟨none, .call (.c (.fn 155 [])) [(.t q4_0)]⟩,⟨none, .len (.l 0)⟩] [(q4_1,k0),(q4_2,(.l 0)),(q4_3,(.l 1))]) (.block 0 (.loop (.seq 
(.reg [⟨none, .bin .lt (.t q4_1) (.t q4_2)⟩] [(q4_6,(.l 0))]) (.seq (.cond (.t q4_6) .skip (.exit 0)) (.seq (.block 1 (.seq 
(.reg [⟨none, .ia 1 (.t q4_3) (.t q4_1)⟩,⟨none, .load 1 false (.l 0)⟩] [(q4_4,(.l 0))]) (.seq 
(.reg [⟨none, .bin .ge (.t q4_4) k0⟩,⟨(some ((.l 0),true)), .mov (.t q4_4)⟩,⟨(some ((.l 1),true)), .bin .lt (.l 0) (.c (.int .i64 (.ofNat 1073741824)))⟩,⟨none, .pick (.l 2) (.l 0) (.c (.bool false))⟩] [(q4_7,(.l 0))]) (.cond (.t q4_7) 
(.reg [⟨none, .bin .add (.t q4_4) k1⟩,⟨none, .build [(.int .i64 (.ofNat 0)),(.int .i64 (.ofNat 0))] [(0,1,(.t q4_4)),(1,1,(.l 0))]⟩,⟨none, .call (.c (.fn 141 [])) [(.t q4_5),(.l 0)]⟩] [(q4_5,(.l 0))]) .skip)))) 
(.reg [⟨none, .bin .add (.t q4_1) k1⟩] [(q4_1,(.l 0))]))))))) (.seq 
(.reg [] [(q4_8,(.t q4_5))]) .ret)))))), [(q4_8, none)]⟩
def a116 : FN := ⟨full 1, [some q1_0], (.seq 
(.reg [] [(q1_1,(.c .nilsl))]) (.seq 
(.reg [⟨none, .app 2 (.c .nilsl) (.t q1_0)⟩] [(q1_1,(.l 0))]) .ret)), [(q1_1, none)]⟩
def a117 : FN := ⟨full 2, [some q2_2,some q2_0], (.seq 
(.reg [⟨none, .box (.t q2_0)⟩] [(q2_1,(.l 0)),(q2_3,(.c (.bool false)))]) (.seq 
(.reg [⟨none, .load 4 true (.t q2_1)⟩,⟨none, .build [.nilsl,.nilsl,.nilsl,.nilsl] [(0,4,(.l 0))]⟩,⟨none, .build [.nilsl,.nilsl,.nilsl,.nilsl,(.int .i64 (.ofNat 0))] [(0,4,(.l 0)),(4,1,(.t q2_2))]⟩,⟨none, .call (.c (.fn 62 [])) [(.l 0)]⟩] [(q2_3,(.l 0))]) .ret)), [(q2_3, none)]⟩
def a118 : FN := ⟨full 4, [some q4_0,some q4_1], (.seq 
(.reg [] [(q4_10,(.c (.str [])))]) (.seq 
(.reg [⟨none, .bin .add (.c (.int .i64 (.ofNat 14))) (.t q4_0)⟩,⟨none, .build [(.int .i64 (.ofNat 0)),(.int .i64 (.ofNat 0))] [(0,1,(.c (.int .i64 (.ofNat 14)))),(1,1,(.l 0))]⟩,⟨none, .mks 1 2 [(.int .i64 (.ofNat 0)),(.int .i64 (.ofNat 0))] [(0,2,(.l 0))]⟩] [(q4_2,(.l 0))]) (.seq (.seq 
(.reg [⟨none, .call (.c (.fn 135 [])) [(.t q4_0)]⟩,⟨none, .not (.l 0)⟩,⟨(some ((.l 0),false)), .mov (.t q4_1)⟩,⟨(some ((.l 1),false)), .call (.c (.fn 91 [])) [(.l 0)]⟩,⟨(some ((.l 2),false)), .not (.l 0)⟩,⟨none, .pick (.l 3) (.c (.bool true)) (.l 0)⟩,⟨(some ((.l 0),false)), .mov (.t q4_1)⟩,⟨(some ((.l 1),false)), .mov (.t q4_2)⟩,⟨(some ((.l 2),false)), .call (.c (.fn 65 [])) [(.l 1),(.l 0)]⟩,⟨(some ((.l 3),false)), .len (.l 0)⟩,⟨(some ((.l 4),false)), .bin .gt (.l 0) k0⟩,⟨none, .pick (.l 5) (.c (.bool true)) (.l 0)⟩] [(q4_7,(.l 0))]) (.cond (.t q4_7) (.seq 
(.reg [] [(q4_10,(.c (.str [])))]) .ret) .skip)) (.seq 
(.reg [⟨none, .call (.c (.fn 136 [])) [(.t q4_0)]⟩,⟨none, .mksl 1 1 [(.int .u8 (.ofNat 0))] (.l 0) (.l 0)⟩] [(q4_6,(.l 0))]) (.seq (.seq 
(.reg [] [(q4_3,k0),(q4_4,(.t q4_0))]) (.block 0 (.loop (.seq 
(.reg [⟨none, .bin .lt (.t q4_3) (.t q4_4)⟩] [(q4_8,(.l 0))]) (.seq (.cond (.t q4_8) .skip (.exit 0)) (.seq (.block 1 (.seq 
(.reg [] [(q4_5,(.t q4_3))]) (.seq 
(.reg [⟨none, .bin .add (.c (.int .i64 (.ofNat 14))) (.t q4_5)⟩,⟨none, .call (.c (.fn 140 [])) [(.t q4_1),(.l 0)]⟩] [(q4_9,(.l 0))]) (.cond (.t q4_9) 
(.drw [(⟨none, .bin .quo (.t q4_5) k8⟩,[]),(⟨none, .ia 1 (.t q4_6) (.l 0)⟩,[]),(⟨none, .load 1 false (.l 0)⟩,[]),(⟨none, .bin .rem (.t q4_5) k8⟩,[]),(⟨none, .bin .shl (.c (.int .u8 (.ofNat 1))) (.l 0)⟩,[]),(⟨none, .bin .or (.l 2) (.l 0)⟩,[]),(⟨none, .ia 1 (.t q4_6) (.l 5)⟩,[]),(⟨none, .store 1 (.l 0) (.l 1)⟩,[])] []) .skip)))) 
(.reg [⟨none, .bin .add (.t q4_3) k1⟩] [(q4_3,(.l 0))]))))))) (.seq 
(.reg [⟨none, .b2s (.t q4_6)⟩] [(q4_10,(.l 0))]) .ret)))))), [(q4_10, none)]⟩
def a119 : FN := ⟨full 2, [some q2_0,some q2_2,some q2_1], (.seq 
(.reg [⟨none, .box (.c (.agg [(.int .i64 (.ofNat 0)),(.int .i64 (.ofNat 0)),(.int .u32 (.ofNat 0)),(.int .u32 (.ofNat 0)),(.int .u32 (.ofNat 0)),(.int .u32 (.ofNat 0))]))⟩] [(q2_3,(.l 0))]) (.seq 
(.reg [⟨none, .mks 1 1 [(.str [])] [(0,1,(.t q2_2))]⟩,⟨none, .call (.c (.fn 70 [])) [(.l 0)]⟩,⟨none, .build [(.int .i64 (.ofNat 0)),(.int .i64 (.ofNat 0)),(.int .u32 (.ofNat 0)),(.int .u32 (.ofNat 0)),(.int .u32 (.ofNat 0)),(.int .u32 (.ofNat 0))] [(0,1,(.t q2_0)),(1,1,(.t q2_1)),(2,4,(.l 0))]⟩,⟨none, .store 6 (.t q2_3) (.l 0)⟩] []) .ret)), [(q2_3, some (6,true))]⟩
def a120 : FN := ⟨full 2, [some q2_0,some q2_1], (.seq 
(.reg [] [(q2_2,(.c (.bool false)))]) (.seq 
(.reg [⟨none, .bin .ge (.t q2_0) k0⟩,⟨(some ((.l 0),true)), .mov (.t q2_0)⟩,⟨(some ((.l 1),true)), .mov (.t q2_1)⟩,⟨(some ((.l 2),true)), .bin .le (.l 1) (.l 0)⟩,⟨none, .pick (.l 3) (.l 0) (.c (.bool false))⟩] [(q2_2,(.l 0))]) .ret)), [(q2_2, none)]⟩
def a121 : FN := ⟨full 4, [some q4_0], (.seq 
(.reg [] [(q4_8,(.c (.str [])))]) (.seq 
(.reg [] [(q4_5,(.c (.str [])))]) (.seq (.seq 
(.reg [⟨none, .len (.t q4_0)⟩] [(q4_1,k0),(q4_2,(.l 0)),(q4_3,(.t q4_0))]) (.block 0 (.loop (.seq 
(.reg [⟨none, .bin .lt (.t q4_1) (.t q4_2)⟩] [(q4_6,(.l 0))]) (.seq (.cond (.t q4_6) .skip (.exit 0)) (.seq (.block 1 (.seq 
(.reg [⟨none, .ia 6 (.t q4_3) (.t q4_1)⟩,⟨none, .load 6 true (.l 0)⟩,⟨none, .box (.c (.agg [(.int .i64 (.ofNat 0)),(.int .i64 (.ofNat 0)),(.int .u32 (.ofNat 0)),(.int .u32 (.ofNat 0)),(.int .u32 (.ofNat 0)),(.int .u32 (.ofNat 0))]))⟩,⟨none, .store 6 (.l 0) (.l 1)⟩] [(q4_4,(.l 1))]) (.seq (.seq 
(.reg [⟨none, .load 6 true (.t q4_4)⟩,⟨none, .call (.c (.fn 156 [])) [(.l 0)]⟩,⟨none, .not (.l 0)⟩] [(q4_7,(.l 0))]) (.cond (.t q4_7) (.seq 
(.reg [] [(q4_8,(.c (.str [])))]) .ret) .skip)) 
(.reg [⟨none, .load 6 true (.t q4_4)⟩,⟨none, .build [(.int .i64 (.ofNat 0)),(.int .i64 (.ofNat 0)),(.int .u32 (.ofNat 0)),(.int .u32 (.ofNat 0)),(.int .u32 (.ofNat 0)),(.int .u32 (.ofNat 0))] [(0,6,(.l 0))]⟩,⟨none, .call (.c (.fn 157 [])) [(.l 0)]⟩,⟨none, .call (.c (.fn 39 [])) [(.c (.str [50,52,52,52,52,52])),(.l 0)]⟩,⟨none, .bin .add (.t q4_5) (.l 0)⟩] [(q4_5,(.l 0))])))) 
(.reg [⟨none, .bin .add (.t q4_1) k1⟩] [(q4_1,(.l 0))]))))))) (.seq 
(.reg [] [(q4_8,(.t q4_5))]) .ret)))), [(q4_8, none)]⟩
def a122 : FN := ⟨full 3, [some q3_0], (.seq 
(.reg [⟨none, .box (.t q3_0)⟩] [(q3_1,(.l 0)),(q3_4,(.c (.str [])))]) (.seq (.seq 
(.reg [⟨none, .load 3 true (.t q3_1)⟩,⟨none, .call (.c (.fn 158 [])) [(.l 0)]⟩,⟨none, .not (.l 0)⟩] [(q3_3,(.l 0))]) (.cond (.t q3_3) (.seq 
(.reg [] [(q3_4,(.c (.str [])))]) .ret) .skip)) (.seq 
(.drw [(⟨none, .fa 0 (.t q3_1)⟩,[]),(⟨none, .fa 0 (.l 0)⟩,[]),(⟨none, .load 1 false (.l 0)⟩,[]),(⟨none, .fa 0 (.t q3_1)⟩,[]),(⟨none, .fa 1 (.l 0)⟩,[]),(⟨none, .load 1 false (.l 0)⟩,[]),(⟨none, .fa 0 (.t q3_1)⟩,[]),(⟨none, .fa 2 (.l 0)⟩,[]),(⟨none, .load 1 false (.l 0)⟩,[]),(⟨none, .lens (.l 0)⟩,[]),(⟨none, .mks 3 1 [(.int .i64 (.ofNat 0))] [(0,1,(.l 7)),(1,1,(.l 4)),(2,1,(.l 0))]⟩,[]),(⟨none, .call (.c (.fn 39 [])) [(.c (.str [49,52,50])),(.l 0)]⟩,[]),(⟨none, .fa 0 (.t q3_1)⟩,[11]),(⟨none, .fa 2 (.l 0)⟩,[11]),(⟨none, .load 1 false (.l 0)⟩,[11]),(⟨none, .bin .add (.l 3) (.l 0)⟩,[])] [(q3_2,(.l 0))]) (.seq 
(.reg [⟨none, .lens (.t q3_2)⟩,⟨none, .bin .sub (.c (.int .i64 (.ofNat 256))) (.l 0)⟩,⟨none, .call (.c (.fn 71 [])) [(.c (.str [0])),(.l 0)]⟩,⟨none, .bin .add (.t q3_2) (.l 0)⟩] [(q3_4,(.l 0))]) .ret)))), [(q3_4, none)]⟩
def a123 : FN := ⟨full 2, [some q2_0], (.seq 
(.reg [⟨none, .box (.t q2_0)⟩] [(q2_1,(.l 0)),(q2_2,(.c (.bool false)))]) (.seq 
(.reg [⟨none, .load 9 true (.t q2_1)⟩,⟨none, .build [(.int .i64 (.ofNat 0)),(.int .i64 (.ofNat 0)),(.int .i64 (.ofNat 0)),(.int .i64 (.ofNat 0)),(.int .i64 (.ofNat 0)),(.int .u32 (.ofNat 0)),(.int .u32 (.ofNat 0)),(.int .u32 (.ofNat 0)),(.int .u32 (.ofNat 0))] [(0,9,(.l 0))]⟩,⟨none, .call (.c (.fn 159 [])) [(.l 0)]⟩] [(q2_2,(.l 0))]) .ret)), [(q2_2, none)]⟩
def a124 : FN := ⟨full 3, [some q3_0,some q3_1,some q3_3], (.seq 
(.reg [] [(q3_5,k0)]) (.seq 
(.reg [⟨none, .call (.c (.fn 19 [])) [(.t q3_0),(.t q3_1)]⟩] [(q3_2,(.l 0))]) (.seq (.seq 
(.reg [⟨none, .bin .lt (.t q3_2) k0⟩,⟨(some ((.l 0),false)), .mov (.t q3_3)⟩,⟨(some ((.l 1),false)), .bin .lt (.l 0) k0⟩,⟨none, .pick (.l 2) (.c (.bool true)) (.l 0)⟩,⟨(some ((.l 0),false)), .mov (.t q3_3)⟩,⟨(some ((.l 1),false)), .bin .ge (.l 0) k6⟩,⟨none, .pick (.l 2) (.c (.bool true)) (.l 0)⟩] [(q3_4,(.l 0))]) (.cond (.t q3_4) (.seq 
(.reg [] [(q3_5,(.c (.int .i64 (.negSucc 0))))]) .ret) .skip)) (.seq 
(.reg [⟨none, .bin .add (.t q3_2) k1⟩,⟨none, .bin .add (.l 0) (.t q3_3)⟩] [(q3_5,(.l 0))]) .ret)))), [(q3_5, none)]⟩
def a125 : FN := ⟨full 2, [some q2_0], (.seq 
(.reg [⟨none, .box (.t q2_0)⟩] [(q2_1,(.l 0)),(q2_2,(.c (.str [])))]) (.seq 
(.reg [⟨none, .load 9 true (.t q2_1)⟩,⟨none, .build [(.int .i64 (.ofNat 0)),(.int .i64 (.ofNat 0)),(.int .i64 (.ofNat 0)),(.int .i64 (.ofNat 0)),(.int .i64 (.ofNat 0)),(.int .u32 (.ofNat 0)),(.int .u32 (.ofNat 0)),(.int .u32 (.ofNat 0)),(.int .u32 (.ofNat 0))] [(0,9,(.l 0))]⟩,⟨none, .call (.c (.fn 160 [])) [(.l 0)]⟩] [(q2_2,(.l 0))]) .ret)), [(q2_2, none)]⟩
def a126 : FN := ⟨full 5, [some q5_0,some q5_2], (.seq 
(.reg [] [(q5_1,(.c (.bool false))),(q5_14,(.c .nilsl)),(q5_18,(.c (.str [])))]) (.seq 
(.reg [⟨none, .call (.c (.fn 72 [])) [(.t q5_0)]⟩,⟨none, .ext (.l 0) 0⟩,⟨none, .ext (.l 1) 1⟩,⟨none, .ext (.l 2) 2⟩] [(q5_1,(.l 0)),(q5_3,(.l 1)),(q5_4,(.l 2))]) (.seq (.seq 
(.reg [⟨none, .not (.t q5_1)⟩,⟨(some ((.l 0),false)), .mov (.t q5_2)⟩,⟨(some ((.l 1),false)), .lens (.l 0)⟩,⟨(some ((.l 2),false)), .mov (.t q5_3)⟩,⟨(some ((.l 3),false)), .bin .lt (.l 1) (.l 0)⟩,⟨none, .pick (.l 4) (.c (.bool true)) (.l 0)⟩] [(q5_15,(.l 0))]) (.cond (.t q5_15) (.seq 
(.reg [] [(q5_1,(.c (.bool false))),(q5_14,(.c .nilsl)),(q5_18,(.c (.str [])))]) .ret) .skip)) (.seq (.seq 
(.reg [⟨none, .len (.t q5_4)⟩] [(q5_5,k0),(q5_6,(.l 0)),(q5_7,(.t q5_4))]) (.block 0 (.loop (.seq 
(.reg [⟨none, .bin .lt (.t q5_5) (.t q5_6)⟩] [(q5_16,(.l 0))]) (.seq (.cond (.t q5_16) .skip (.exit 0)) (.seq (.block 1 (.seq 
(.reg [⟨none, .ia 1 (.t q5_7) (.t q5_5)⟩,⟨none, .load 1 false (.l 0)⟩] [(q5_8,(.l 0))]) (.seq 
(.reg [] [(q5_12,k0)]) (.seq (.seq 
(.reg [⟨none, .slc 0 (.t q5_2) none (some (.t q5_8)) none⟩,⟨none, .s2b (.l 0)⟩,⟨none, .len (.l 0)⟩] [(q5_9,k0),(q5_10,(.l 0)),(q5_11,(.l 1))]) (.block 2 (.loop (.seq 
(.reg [⟨none, .bin .lt (.t q5_9) (.t q5_10)⟩] [(q5_17,(.l 0))]) (.seq (.cond (.t q5_17) .skip (.exit 2)) (.seq (.block 3 (.seq 
(.reg [⟨none, .ia 1 (.t q5_11) (.t q5_9)⟩,⟨none, .load 1 false (.l 0)⟩] [(q5_13,(.l 0))]) 
(.reg [⟨none, .bin .shl (.t q5_12) (.c (.int .u64 (.ofNat 8)))⟩,⟨none, .conv .i64 (.t q5_13)⟩,⟨none, .bin .or (.l 1) (.l 0)⟩] [(q5_12,(.l 0))]))) 
(.reg [⟨none, .bin .add (.t q5_9) k1⟩] [(q5_9,(.l 0))]))))))) 
(.drw [(⟨none, .mks 1 1 [(.int .i64 (.ofNat 0))] [(0,1,(.t q5_12))]⟩,[]),(⟨none, .app 1 (.t q5_14) (.l 0)⟩,[]),(⟨none, .slc 0 (.t q5_2) (some (.t q5_8)) none none⟩,[1])] [(q5_2,(.l 0)),(q5_14,(.l 1))]))))) 
(.reg [⟨none, .bin .add (.t q5_5) k1⟩] [(q5_5,(.l 0))]))))))) (.seq 
(.reg [] [(q5_1,(.c (.bool true))),(q5_14,(.t q5_14)),(q5_18,(.t q5_2))]) .ret))))), [(q5_14, none),(q5_18, none),(q5_1, none)]⟩
def a127 : FN := ⟨full 4, [some q4_3,some q4_0], (.seq 
(.reg [] [(q4_6,(.c .nilsl)),(q4_10,(.c (.str []))),(q4_11,(.c (.bool false)))]) (.seq (.seq 
(.reg [⟨none, .mx (.t q4_0) k0⟩] [(q4_1,k0),(q4_2,(.l 0))]) (.block 0 (.loop (.seq 
(.reg [⟨none, .bin .lt (.t q4_1) (.t q4_2)⟩] [(q4_8,(.l 0))]) (.seq (.cond (.t q4_8) .skip (.exit 0)) (.seq (.block 1 (.seq 
(.reg [⟨none, .call (.c (.fn 126 [])) [(.c (.str [50,52,52,52,52,52])),(.t q4_3)]⟩,⟨none, .ext (.l 0) 0⟩,⟨none, .ext (.l 1) 1⟩,⟨none, .ext (.l 2) 2⟩] [(q4_4,(.l 0)),(q4_5,(.l 2)),(q4_7,(.l 1))]) (.seq (.seq 
(.reg [⟨none, .not (.t q4_4)⟩,⟨(some ((.l 0),false)), .mov (.t q4_5)⟩,⟨(some ((.l 1),false)), .call (.c (.fn 161 [])) [(.l 0)]⟩,⟨(some ((.l 2),false)), .fld 0 6 true (.l 0)⟩,⟨(some ((.l 3),false)), .call (.c (.fn 156 [])) [(.l 0)]⟩,⟨(some ((.l 4),false)), .not (.l 0)⟩,⟨none, .pick (.l 5) (.c (.bool true)) (.l 0)⟩] [(q4_9,(.l 0))]) (.cond (.t q4_9) (.seq 
(.reg [] [(q4_6,(.c .nilsl)),(q4_10,(.c (.str []))),(q4_11,(.c (.bool false)))]) .ret) .skip)) 
(.reg [⟨none, .call (.c (.fn 161 [])) [(.t q4_5)]⟩,⟨none, .fld 0 6 true (.l 0)⟩,⟨none, .mks 1 6 [(.int .i64 (.ofNat 0)),(.int .i64 (.ofNat 0)),(.int .u32 (.ofNat 0)),(.int .u32 (.ofNat 0)),(.int .u32 (.ofNat 0)),(.int .u32 (.ofNat 0))] [(0,6,(.l 0))]⟩,⟨none, .app 6 (.t q4_6) (.l 0)⟩] [(q4_3,(.t q4_7)),(q4_6,(.l 0))])))) 
(.reg [⟨none, .bin .add (.t q4_1) k1⟩] [(q4_1,(.l 0))]))))))) (.seq 
(.reg [] [(q4_6,(.t q4_6)),(q4_10,(.t q4_3)),(q4_11,(.c (.bool true)))]) .ret))), [(q4_6, none),(q4_10, none),(q4_11, none)]⟩
def a128 : FN := ⟨full 3, [some q3_0], (.seq 
(.reg [] [(q3_5,(.c .nilsl)),(q3_6,(.c (.bool false)))]) (.seq 
(.reg [⟨none, .call (.c (.fn 127 [])) [(.t q3_0),k8]⟩,⟨none, .ext (.l 0) 0⟩,⟨none, .ext (.l 1) 1⟩,⟨none, .ext (.l 2) 2⟩] [(q3_1,(.l 0)),(q3_2,(.l 1)),(q3_3,(.l 2))]) (.seq (.seq 
(.reg [⟨none, .not (.t q3_1)⟩,⟨(some ((.l 0),false)), .mov (.t q3_2)⟩,⟨(some ((.l 1),false)), .bin .ne (.l 0) (.c (.str []))⟩,⟨none, .pick (.l 2) (.c (.bool true)) (.l 0)⟩] [(q3_4,(.l 0))]) (.cond (.t q3_4) (.seq 
(.reg [] [(q3_5,(.c .nilsl)),(q3_6,(.c (.bool false)))]) .ret) .skip)) (.seq 
(.reg [⟨none, .call (.c (.fn 162 [])) [(.t q3_3)]⟩] [(q3_5,(.l 0)),(q3_6,(.c (.bool true)))]) .ret)))), [(q3_5, none),(q3_6, none)]⟩
def a130 : FN := ⟨full 4, [some q4_0,some q4_1], (.seq 
(.reg [⟨none, .nilc (.t q4_0)⟩,⟨none, .fa 5 (.l 0)⟩,⟨none, .load 1 false (.l 0)⟩,⟨none, .build [(.int .i64 (.ofNat 0)),(.int .i64 (.ofNat 0)),(.str []),(.str []),(.int .i64 (.ofNat 0))] [(0,1,k3)]⟩,⟨none, .ia 5 (.l 1) (.t q4_1)⟩,⟨none, .store 5 (.l 0) (.l 1)⟩] []) (.seq (.seq 
(.reg [⟨none, .bin .eq (.t q4_1) k0⟩] [(q4_7,(.l 0))]) (.cond (.t q4_7) 
(.reg [⟨none, .nilc (.t q4_0)⟩,⟨none, .fa 5 (.l 0)⟩,⟨none, .load 1 false (.l 0)⟩,⟨none, .build [(.int .i64 (.ofNat 0)),(.int .i64 (.ofNat 0)),(.str []),(.str []),(.int .i64 (.ofNat 0))] [(0,1,k2)]⟩,⟨none, .ia 5 (.l 1) (.t q4_1)⟩,⟨none, .store 5 (.l 0) (.l 1)⟩] []) .skip)) (.seq 
(.drw [(⟨none, .nilc (.t q4_0)⟩,[]),(⟨none, .fa 0 (.l 0)⟩,[]),(⟨none, .load 5 true (.l 0)⟩,[]),(⟨none, .nilc (.t q4_0)⟩,[]),(⟨none, .fa 6 (.l 0)⟩,[]),(⟨none, .load 1 false (.l 0)⟩,[]),(⟨none, .ia 6 (.l 0) (.t q4_1)⟩,[]),(⟨none, .load 6 true (.l 0)⟩,[]),(⟨none, .call (.c (.fn 49 [])) [(.l 5),(.l 0),k2]⟩,[]),(⟨none, .ext (.l 0) 0⟩,[]),(⟨none, .ext (.l 1) 1⟩,[])] [(q4_2,(.l 1))]) (.seq 
(.reg [⟨none, .call (.c (.fn 163 [])) [(.t q4_2)]⟩,⟨none, .ext (.l 0) 0⟩,⟨none, .ext (.l 1) 1⟩,⟨none, .ext (.l 2) 2⟩,⟨none, .ext (.l 3) 3⟩,⟨none, .box (.c (.agg [(.int .i64 (.ofNat 0)),(.int .i64 (.ofNat 0)),(.str []),(.str []),(.int .i64 (.ofNat 0))]))⟩,⟨none, .store 5 (.l 0) (.l 4)⟩] [(q4_3,(.l 2)),(q4_4,(.l 1)),(q4_5,(.l 4)),(q4_6,(.l 3))]) (.seq (.seq 
(.reg [⟨none, .bin .eq (.t q4_1) k0⟩] [(q4_8,(.l 0))]) (.cond (.t q4_8) 
(.reg [⟨(some ((.t q4_3),true)), .load 5 true (.t q4_4)⟩,⟨(some ((.t q4_3),true)), .build [(.int .i64 (.ofNat 0)),(.int .i64 (.ofNat 0)),(.str []),(.str []),(.int .i64 (.ofNat 0))] [(0,1,k2)]⟩,⟨(some ((.t q4_3),true)), .eqa [1, 1, 2, 2, 1] false (.l 1) (.l 0)⟩,⟨none, .pick (.t q4_3) (.l 0) (.c (.bool false))⟩,⟨(some ((.l 0),true)), .mov (.t q4_5)⟩,⟨(some ((.l 1),true)), .bin .eq (.l 0) k0⟩,⟨none, .pick (.l 2) (.l 0) (.c (.bool false))⟩,⟨(some ((.l 0),true)), .mov (.t q4_6)⟩,⟨(some ((.l 1),true)), .call (.c (.fn 164 [])) [(.l 0),(.c (.fn 165 []))]⟩,⟨(some ((.l 2),true)), .not (.l 0)⟩,⟨none, .pick (.l 3) (.l 0) (.c (.bool false))⟩] [(q4_3,(.l 0))]) 
(.reg [⟨(some ((.t q4_3),true)), .fa 2 (.t q4_4)⟩,⟨(some ((.t q4_3),true)), .load 1 false (.l 0)⟩,⟨(some ((.t q4_3),true)), .call (.c (.fn 166 [])) [(.l 0)]⟩,⟨none, .pick (.t q4_3) (.l 0) (.c (.bool false))⟩] [(q4_3,(.l 0))]))) (.seq (.seq 
(.reg [⟨none, .not (.t q4_3)⟩] [(q4_9,(.l 0))]) (.cond (.t q4_9) (.seq 
(.reg [⟨none, .nilc (.t q4_0)⟩,⟨none, .fa 8 (.l 0)⟩,⟨none, .store 1 (.l 0) (.c (.bool true))⟩] []) .ret) .skip)) (.seq 
(.reg [⟨none, .nilc (.t q4_0)⟩,⟨none, .fa 7 (.l 0)⟩,⟨none, .load 1 false (.l 0)⟩,⟨none, .bin .mul (.t q4_1) k4⟩,⟨none, .slc 6 (.l 1) (some (.l 0)) none none⟩,⟨none, .cpy 6 (.l 0) (.t q4_6)⟩] []) (.seq 
(.reg [⟨none, .call (.c (.fn 167 [])) [(.t q4_0),(.t q4_5),(.t q4_6)]⟩,⟨none, .ext (.l 0) 0⟩,⟨none, .ext (.l 1) 1⟩,⟨none, .fa 3 (.t q4_4)⟩,⟨none, .store 1 (.l 0) (.l 2)⟩,⟨none, .fa 4 (.t q4_4)⟩,⟨none, .store 1 (.l 0) (.l 3)⟩] []) 
(.drw [(⟨none, .nilc (.t q4_0)⟩,[]),(⟨none, .fa 5 (.l 0)⟩,[]),(⟨none, .load 1 false (.l 0)⟩,[]),(⟨none, .load 5 true (.t q4_4)⟩,[]),(⟨none, .nilc (.t q4_0)⟩,[]),(⟨none, .fa 8 (.l 0)⟩,[]),(⟨none, .load 1 false (.l 0)⟩,[]),(⟨none, .ia 5 (.l 4) (.t q4_1)⟩,[]),(⟨none, .store 5 (.l 0) (.l 4)⟩,[]),(⟨(some ((.l 2),false)), .fa 4 (.t q4_4)⟩,[8]),(⟨(some ((.l 3),false)), .load 1 false (.l 0)⟩,[8]),(⟨(some ((.l 4),false)), .bin .ne (.l 0) k0⟩,[8]),(⟨none, .pick (.l 5) (.c (.bool true)) (.l 0)⟩,[8]),(⟨none, .nilc (.t q4_0)⟩,[]),(⟨none, .fa 8 (.l 0)⟩,[]),(⟨none, .store 1 (.l 0) (.l 2)⟩,[])] []))))))))), []⟩
def a131 : FN := ⟨full 1, [some q1_0], (.seq 
(.reg [] [(q1_1,(.c (.bool false)))]) (.seq 
(.reg [⟨none, .build [.nilsl] [(0,1,(.t q1_0))]⟩,⟨none, .call (.c (.fn 168 [])) [(.l 0)]⟩,⟨none, .call (.c (.fn 147 [])) [(.l 0)]⟩] [(q1_1,(.l 0))]) .ret)), [(q1_1, none)]⟩
def a133 : FN := ⟨full 3, [some q3_0], (.seq 
(.reg [⟨none, .box (.c (.agg [(.int .i64 (.ofNat 0)),(.int .i64 (.ofNat 0)),(.str []),(.bool false)]))⟩] [(q3_4,(.l 0))]) (.seq 
(.reg [⟨none, .call (.c (.fn 126 [])) [(.c (.str [49,52,50])),(.t q3_0)]⟩,⟨none, .ext (.l 0) 0⟩,⟨none, .ext (.l 1) 1⟩,⟨none, .ext (.l 2) 2⟩] [(q3_1,(.l 0)),(q3_2,(.l 2)),(q3_3,(.l 1))]) (.seq (.seq 
(.reg [⟨none, .not (.t q3_1)⟩,⟨(some ((.l 0),false)), .mov (.t q3_2)⟩,⟨(some ((.l 1),false)), .ia 1 (.l 0) k2⟩,⟨(some ((.l 2),false)), .load 1 false (.l 0)⟩,⟨(some ((.l 3),false)), .mov (.t q3_3)⟩,⟨(some ((.l 4),false)), .lens (.l 0)⟩,⟨(some ((.l 5),false)), .bin .gt (.l 2) (.l 0)⟩,⟨none, .pick (.l 6) (.c (.bool true)) (.l 0)⟩] [(q3_6,(.l 0))]) (.cond (.t q3_6) (.seq 
(.reg [⟨none, .build [(.int .i64 (.ofNat 0)),(.int .i64 (.ofNat 0)),(.str []),(.bool false)] []⟩,⟨none, .store 4 (.t q3_4) (.l 0)⟩] []) .ret) .skip)) (.seq 
(.drw [(⟨none, .ia 1 (.t q3_2) k0⟩,[]),(⟨none, .load 1 false (.l 0)⟩,[]),(⟨none, .ia 1 (.t q3_2) k1⟩,[]),(⟨none, .load 1 false (.l 0)⟩,[]),(⟨none, .ia 1 (.t q3_2) k2⟩,[]),(⟨none, .load 1 false (.l 0)⟩,[]),(⟨none, .slc 0 (.t q3_3) none (some (.l 0)) none⟩,[]),(⟨none, .build [(.int .i64 (.ofNat 0)),(.int .i64 (.ofNat 0)),(.str [])] [(0,1,(.l 5)),(1,1,(.l 3)),(2,1,(.l 0))]⟩,[]),(⟨none, .build [(.int .i64 (.ofNat 0)),(.int .i64 (.ofNat 0)),(.str [])] [(0,3,(.l 0))]⟩,[]),(⟨none, .box (.c (.agg [(.int .i64 (.ofNat 0)),(.int .i64 (.ofNat 0)),(.str [])]))⟩,[]),(⟨none, .store 3 (.l 0) (.l 1)⟩,[])] [(q3_5,(.l 1))]) (.seq (.seq 
(.reg [⟨none, .load 3 true (.t q3_5)⟩,⟨none, .call (.c (.fn 158 [])) [(.l 0)]⟩,⟨none, .not (.l 0)⟩,⟨(some ((.l 0),false)), .load 3 true (.t q3_5)⟩,⟨(some ((.l 1),false)), .call (.c (.fn 122 [])) [(.l 0)]⟩,⟨(some ((.l 2),false)), .mov (.t q3_0)⟩,⟨(some ((.l 3),false)), .bin .ne (.l 1) (.l 0)⟩,⟨none, .pick (.l 4) (.c (.bool true)) (.l 0)⟩] [(q3_7,(.l 0))]) (.cond (.t q3_7) (.seq 
(.reg [⟨none, .build [(.int .i64 (.ofNat 0)),(.int .i64 (.ofNat 0)),(.str []),(.bool false)] []⟩,⟨none, .store 4 (.t q3_4) (.l 0)⟩] []) .ret) .skip)) (.seq 
(.reg [⟨none, .load 3 true (.t q3_5)⟩,⟨none, .build [(.int .i64 (.ofNat 0)),(.int .i64 (.ofNat 0)),(.str []),(.bool false)] [(0,3,(.l 0)),(3,1,(.c (.bool true)))]⟩,⟨none, .store 4 (.t q3_4) (.l 0)⟩] []) .ret)))))), [(q3_4, some (4,true))]⟩
def a134 : FN := ⟨full 3, [some q3_0,some q3_1,some q3_4], (.seq 
(.reg [⟨none, .box (.t q3_0)⟩,⟨none, .box (.t q3_1)⟩] [(q3_2,(.l 1)),(q3_3,(.l 0)),(q3_5,(.c (.bool false)))]) (.seq 
(.drw [(⟨none, .fa 3 (.t q3_2)⟩,[]),(⟨none, .load 1 false (.l 0)⟩,[]),(⟨(some ((.l 0),true)), .fa 0 (.t q3_2)⟩,[]),(⟨(some ((.l 1),true)), .load 3 true (.l 0)⟩,[]),(⟨(some ((.l 2),true)), .call (.c (.fn 122 [])) [(.l 0)]⟩,[]),(⟨(some ((.l 3),true)), .load 6 true (.t q3_3)⟩,[4]),(⟨(some ((.l 4),true)), .call (.c (.fn 170 [])) [(.l 0),(.l 1)]⟩,[]),(⟨none, .pick (.l 5) (.l 0) (.c (.bool false))⟩,[]),(⟨(some ((.l 0),true)), .fa 0 (.t q3_2)⟩,[]),(⟨(some ((.l 1),true)), .fa 0 (.l 0)⟩,[]),(⟨(some ((.l 2),true)), .fa 1 (.l 0)⟩,[]),(⟨(some ((.l 3),true)), .load 1 false (.l 0)⟩,[]),(⟨(some ((.l 4),true)), .fa 1 (.t q3_3)⟩,[]),(⟨(some ((.l 5),true)), .load 1 false (.l 0)⟩,[]),(⟨(some ((.l 6),true)), .bin .eq (.l 2) (.l 0)⟩,[]),(⟨none, .pick (.l 7) (.l 0) (.c (.bool false))⟩,[]),(⟨(some ((.l 0),true)), .fa 0 (.t q3_2)⟩,[]),(⟨(some ((.l 1),true)), .fa 0 (.l 0)⟩,[]),(⟨(some ((.l 2),true)), .fa 0 (.l 0)⟩,[]),(⟨(some ((.l 3),true)), .load 1 false (.l 0)⟩,[]),(⟨(some ((.l 4),true)), .mov (.t q3_4)⟩,[]),(⟨(some ((.l 5),true)), .bin .eq (.l 1) (.l 0)⟩,[]),(⟨none, .pick (.l 6) (.l 0) (.c (.bool false))⟩,[])] [(q3_5,(.l 0))]) .ret)), [(q3_5, none)]⟩
def a135 : FN := ⟨full 1, [some q1_0], (.seq 
(.reg [] [(q1_1,(.c (.bool false)))]) (.seq 
(.reg [⟨none, .bin .ge (.t q1_0) (.c (.int .i64 (.ofNat 40)))⟩,⟨(some ((.l 0),true)), .mov (.t q1_0)⟩,⟨(some ((.l 1),true)), .bin .le (.l 0) (.c (.int .i64 (.ofNat 240)))⟩,⟨none, .pick (.l 2) (.l 0) (.c (.bool false))⟩] [(q1_1,(.l 0))]) .ret)), [(q1_1, none)]⟩
def a136 : FN := ⟨full 1, [some q1_0], (.seq 
(.reg [] [(q1_1,k0)]) (.seq 
(.reg [⟨none, .bin .add (.t q1_0) k8⟩,⟨none, .bin .sub (.l 0) k1⟩,⟨none, .bin .quo (.l 0) k8⟩] [(q1_1,(.l 0))]) .ret)), [(q1_1, none)]⟩
def a137 : FN := ⟨full 2, [some q2_0,some q2_1], (.seq 
(.reg [] [(q2_2,(.c (.bool false)))]) (.seq 
(.reg [⟨(some ((.t q2_0),true)), .mov (.t q2_1)⟩,⟨none, .pick (.t q2_0) (.l 0) (.c (.bool false))⟩] [(q2_2,(.l 0))]) .ret)), [(q2_2, none)]⟩
def a138 : FN := ⟨full 2, [some q2_0,some q2_1], (.seq 
(.reg [] [(q2_2,(.c (.bool false)))]) (.seq 
(.reg [⟨(some ((.t q2_0),false)), .mov (.t q2_1)⟩,⟨none, .pick (.t q2_0) (.c (.bool true)) (.l 0)⟩] [(q2_2,(.l 0))]) .ret)), [(q2_2, none)]⟩
def a139 : FN := ⟨full 4, [some q4_0], (.seq 
(.reg [⟨none, .box (.t q4_0)⟩] [(q4_1,(.l 0)),(q4_8,(.c .nilsl))]) (.seq 
(.reg [] [(q4_5,(.c .nilsl))]) (.seq (.seq 
(.reg [⟨none, .fa 0 (.t q4_1)⟩,⟨none, .load 1 false (.l 0)⟩,⟨none, .fa 1 (.t q4_1)⟩,⟨none, .load 1 false (.l 0)⟩,⟨none, .mks 2 1 [.nilsl] [(0,1,(.l 2)),(1,1,(.l 0))]⟩,⟨none, .call (.c (.fn 171 [])) [(.l 0)]⟩,⟨none, .len (.l 0)⟩] [(q4_2,k0),(q4_3,(.l 0)),(q4_4,(.l 1))]) (.block 0 (.loop (.seq 
(.reg [⟨none, .bin .lt (.t q4_2) (.t q4_3)⟩] [(q4_7,(.l 0))]) (.seq (.cond (.t q4_7) .skip (.exit 0)) (.seq (.block 1 (.seq 
(.reg [⟨none, .ia 2 (.t q4_4) (.t q4_2)⟩,⟨none, .load 2 true (.l 0)⟩,⟨none, .box (.c (.agg [(.int .i64 (.ofNat 0)),(.int .i64 (.ofNat 0))]))⟩,⟨none, .store 2 (.l 0) (.l 1)⟩] [(q4_6,(.l 1))]) 
(.reg [⟨none, .fa 0 (.t q4_6)⟩,⟨none, .load 1 false (.l 0)⟩,⟨none, .fa 1 (.t q4_6)⟩,⟨none, .load 1 false (.l 0)⟩,⟨none, .mks 2 1 [(.int .i64 (.ofNat 0))] [(0,1,(.l 2)),(1,1,(.l 0))]⟩,⟨none, .app 1 (.t q4_5) (.l 0)⟩] [(q4_5,(.l 0))]))) 
(.reg [⟨none, .bin .add (.t q4_2) k1⟩] [(q4_2,(.l 0))]))))))) (.seq 
(.reg [⟨none, .call (.c (.fn 154 [])) [(.t q4_5)]⟩] []) (.seq 
(.reg [⟨none, .call (.c (.fn 155 [])) [(.t q4_5)]⟩] [(q4_8,(.l 0))]) .ret))))), [(q4_8, none)]⟩
def a140 : FN := ⟨full 2, [some q2_1,some q2_0], (.seq 
(.reg [⟨none, .box (.t q2_0)⟩] [(q2_2,(.l 0)),(q2_3,(.c (.bool false)))]) (.seq 
(.reg [⟨none, .mkf 173 [(.t q2_2)]⟩,⟨none, .call (.c (.fn 172 [])) [(.t q2_1),(.l 0)]⟩] [(q2_3,(.l 0))]) .ret)), [(q2_3, none)]⟩
def a141 : FN := ⟨full 3, [some q3_1,some q3_0], (.seq 
(.reg [⟨none, .box (.t q3_0)⟩] [(q3_3,(.l 0)),(q3_5,(.c .nilsl))]) (.seq (.seq 
(.reg [⟨none, .len (.t q3_1)⟩] [(q3_2,(.l 0))]) (.seq 
(.drw [(⟨none, .bin .gt (.t q3_2) k0⟩,[]),(⟨(some ((.l 0),true)), .mov (.t q3_1)⟩,[]),(⟨(some ((.l 1),true)), .mov (.t q3_2)⟩,[]),(⟨(some ((.l 2),true)), .bin .sub (.l 0) k1⟩,[]),(⟨(some ((.l 3),true)), .ia 2 (.l 2) (.l 0)⟩,[]),(⟨(some ((.l 4),true)), .fa 1 (.l 0)⟩,[]),(⟨(some ((.l 5),true)), .load 1 false (.l 0)⟩,[]),(⟨(some ((.l 6),true)), .fa 0 (.t q3_3)⟩,[]),(⟨(some ((.l 7),true)), .load 1 false (.l 0)⟩,[]),(⟨(some ((.l 8),true)), .bin .eq (.l 2) (.l 0)⟩,[]),(⟨none, .pick (.l 9) (.l 0) (.c (.bool false))⟩,[])] [(q3_4,(.l 0))]) (.cond (.t q3_4) (.seq 
(.reg [⟨none, .bin .sub (.t q3_2) k1⟩,⟨none, .fa 1 (.t q3_3)⟩,⟨none, .load 1 false (.l 0)⟩,⟨none, .ia 2 (.t q3_1) (.l 2)⟩,⟨none, .fa 1 (.l 0)⟩,⟨none, .store 1 (.l 0) (.l 2)⟩] []) (.seq 
(.reg [] [(q3_5,(.t q3_1))]) .ret)) .skip))) (.seq 
(.reg [⟨none, .load 2 true (.t q3_3)⟩,⟨none, .mks 1 2 [(.int .i64 (.ofNat 0)),(.int .i64 (.ofNat 0))] [(0,2,(.l 0))]⟩,⟨none, .app 2 (.t q3_1) (.l 0)⟩] [(q3_5,(.l 0))]) .ret))), [(q3_5, none)]⟩
def a147 : FN := ⟨full 5, [some q5_0], (.seq 
(.reg [⟨none, .box (.t q5_0)⟩] [(q5_1,(.l 0)),(q5_16,(.c (.bool false)))]) (.seq (.seq 
(.reg [⟨none, .fa 0 (.t q5_1)⟩,⟨none, .load 1 false (.l 0)⟩,⟨none, .len (.l 0)⟩,⟨none, .bin .ne (.l 0) k8⟩,⟨(some ((.l 0),false)), .fa 0 (.t q5_1)⟩,⟨(some ((.l 1),false)), .load 1 false (.l 0)⟩,⟨(some ((.l 2),false)), .ia 5 (.l 0) k0⟩,⟨(some ((.l 3),false)), .load 5 true (.l 0)⟩,⟨(some ((.l 4),false)), .build [(.int .i64 (.ofNat 0)),(.int .i64 (.ofNat 0)),(.str []),(.str []),(.int .i64 (.ofNat 0))] [(0,1,k2)]⟩,⟨(some ((.l 5),false)), .eqa [1, 1, 2, 2, 1] true (.l 1) (.l 0)⟩,⟨none, .pick (.l 6) (.c (.bool true)) (.l 0)⟩] [(q5_11,(.l 0))]) (.cond (.t q5_11) (.seq 
(.reg [] [(q5_16,(.c (.bool false)))]) .ret) .skip)) (.seq (.seq 
(.reg [⟨none, .fa 0 (.t q5_1)⟩,⟨none, .load 1 false (.l 0)⟩,⟨none, .slc 5 (.l 0) (some k1) none none⟩,⟨none, .len (.l 0)⟩] [(q5_2,k0),(q5_3,(.l 0)),(q5_4,(.l 1))]) (.block 0 (.loop (.seq 
(.reg [⟨none, .bin .lt (.t q5_2) (.t q5_3)⟩] [(q5_12,(.l 0))]) (.seq (.cond (.t q5_12) .skip (.exit 0)) (.seq (.block 1 (.seq 
(.reg [⟨none, .ia 5 (.t q5_4) (.t q5_2)⟩,⟨none, .load 5 true (.l 0)⟩,⟨none, .box (.c (.agg [(.int .i64 (.ofNat 0)),(.int .i64 (.ofNat 0)),(.str []),(.str []),(.int .i64 (.ofNat 0))]))⟩,⟨none, .store 5 (.l 0) (.l 1)⟩] [(q5_5,(.l 1))]) (.seq 
(.reg [⟨none, .load 5 true (.t q5_5)⟩,⟨none, .build [(.int .i64 (.ofNat 0)),(.int .i64 (.ofNat 0)),(.str []),(.str []),(.int .i64 (.ofNat 0))] []⟩,⟨none, .eqa [1, 1, 2, 2, 1] true (.l 1) (.l 0)⟩,⟨(some ((.l 0),true)), .load 1 true (.t q5_1)⟩,⟨(some ((.l 1),true)), .load 5 true (.t q5_5)⟩,⟨(some ((.l 2),true)), .call (.c (.fn 177 [])) [(.l 1),(.l 0)]⟩,⟨(some ((.l 3),true)), .not (.l 0)⟩,⟨none, .pick (.l 4) (.l 0) (.c (.bool false))⟩] [(q5_13,(.l 0))]) (.cond (.t q5_13) (.seq 
(.reg [] [(q5_16,(.c (.bool false)))]) .ret) .skip)))) 
(.reg [⟨none, .bin .add (.t q5_2) k1⟩] [(q5_2,(.l 0))]))))))) (.seq (.seq 
(.reg [⟨none, .fa 0 (.t q5_1)⟩,⟨none, .load 1 false (.l 0)⟩,⟨none, .len (.l 0)⟩] [(q5_6,k0),(q5_7,(.l 0)),(q5_8,(.l 1))]) (.block 2 (.loop (.seq 
(.reg [⟨none, .bin .lt (.t q5_6) (.t q5_7)⟩] [(q5_14,(.l 0))]) (.seq (.cond (.t q5_14) .skip (.exit 2)) (.seq (.block 3 (.seq 
(.reg [⟨none, .ia 5 (.t q5_8) (.t q5_6)⟩,⟨none, .load 5 true (.l 0)⟩,⟨none, .box (.c (.agg [(.int .i64 (.ofNat 0)),(.int .i64 (.ofNat 0)),(.str []),(.str []),(.int .i64 (.ofNat 0))]))⟩,⟨none, .store 5 (.l 0) (.l 1)⟩] [(q5_9,(.t q5_6)),(q5_10,(.l 1))]) (.seq 
(.reg [⟨none, .bin .gt (.t q5_9) k0⟩,⟨(some ((.l 0),true)), .fa 0 (.t q5_10)⟩,⟨(some ((.l 1),true)), .load 1 false (.l 0)⟩,⟨(some ((.l 2),true)), .bin .ne (.l 0) k0⟩,⟨none, .pick (.l 3) (.l 0) (.c (.bool false))⟩,⟨(some ((.l 0),true)), .load 1 true (.t q5_1)⟩,⟨(some ((.l 1),true)), .mov (.t q5_9)⟩,⟨(some ((.l 2),true)), .call (.c (.fn 178 [])) [(.l 1),(.l 0)]⟩,⟨(some ((.l 3),true)), .not (.l 0)⟩,⟨(some ((.l 4),true)), .mov (.l 0)⟩,⟨(some ((.l 0),false)), .load 1 true (.t q5_1)⟩,⟨(some ((.l 1),false)), .mov (.t q5_9)⟩,⟨(some ((.l 2),false)), .call (.c (.fn 179 [])) [(.l 1),(.l 0)]⟩,⟨(some ((.l 8),true)), .pick (.l 3) (.c (.bool true)) (.l 0)⟩,⟨none, .pick (.l 9) (.l 0) (.c (.bool false))⟩] [(q5_15,(.l 0))]) (.cond (.t q5_15) (.seq 
(.reg [] [(q5_16,(.c (.bool false)))]) .ret) .skip)))) 
(.reg [⟨none, .bin .add (.t q5_6) k1⟩] [(q5_6,(.l 0))]))))))) (.seq 
(.reg [] [(q5_16,(.c (.bool true)))]) .ret))))), [(q5_16, none)]⟩
def a149 : FN := ⟨full 5, [some q5_7,some q5_8,some q5_0], (.seq 
(.reg [⟨none, .box (.t q5_0)⟩,⟨none, .box (.c (.agg [(.int .i64 (.ofNat 0)),(.int .i64 (.ofNat 0)),(.int .u32 (.ofNat 0)),(.int .u32 (.ofNat 0)),(.int .u32 (.ofNat 0)),(.int .u32 (.ofNat 0))]))⟩] [(q5_1,(.l 1)),(q5_3,(.l 0)),(q5_19,(.c .nilsl))]) (.seq 
(.reg [⟨none, .mksl 6 32 [(.int .i64 (.ofNat 0)),(.int .i64 (.ofNat 0)),(.int .u32 (.ofNat 0)),(.int .u32 (.ofNat 0)),(.int .u32 (.ofNat 0)),(.int .u32 (.ofNat 0))] k4 k4⟩] [(q5_2,(.l 0))]) (.seq (.seq 
(.reg [⟨none, .fa 0 (.t q5_1)⟩,⟨none, .load 1 false (.l 0)⟩,⟨none, .bin .eq (.l 0) k0⟩] [(q5_14,(.l 0))]) (.cond (.t q5_14) (.seq 
(.reg [⟨none, .build [(.int .i64 (.ofNat 0)),(.int .i64 (.ofNat 0)),(.int .u32 (.ofNat 0)),(.int .u32 (.ofNat 0)),(.int .u32 (.ofNat 0)),(.int .u32 (.ofNat 0))] []⟩,⟨none, .store 6 (.t q5_3) (.l 0)⟩] [(q5_19,(.t q5_2))]) .ret) .skip)) (.seq (.seq 
(.reg [⟨none, .len (.t q5_2)⟩] [(q5_4,k0),(q5_5,(.l 0))]) (.block 0 (.loop (.seq 
(.reg [⟨none, .bin .lt (.t q5_4) (.t q5_5)⟩] [(q5_15,(.l 0))]) (.seq (.cond (.t q5_15) .skip (.exit 0)) (.seq (.block 1 (.seq 
(.reg [] [(q5_6,(.t q5_4))]) 
(.reg [⟨none, .fa 3 (.t q5_1)⟩,⟨none, .load 1 false (.l 0)⟩,⟨none, .call (.c (.fn 183 [])) [(.l 0),(.t q5_6)]⟩,⟨none, .call (.c (.fn 182 [])) [(.t q5_7),(.t q5_8),(.t q5_6),(.l 0)]⟩,⟨none, .ia 6 (.t q5_2) (.t q5_6)⟩,⟨none, .store 6 (.l 0) (.l 1)⟩] []))) 
(.reg [⟨none, .bin .add (.t q5_4) k1⟩] [(q5_4,(.l 0))]))))))) (.seq (.seq 
(.reg [⟨none, .nilc (.t q5_7)⟩,⟨none, .fa 12 (.l 0)⟩,⟨none, .load 1 false (.l 0)⟩,⟨none, .len (.l 0)⟩] [(q5_9,k0),(q5_10,(.l 0)),(q5_11,(.l 1))]) (.block 2 (.loop (.seq 
(.reg [⟨none, .bin .lt (.t q5_9) (.t q5_10)⟩] [(q5_16,(.l 0))]) (.seq (.cond (.t q5_16) .skip (.exit 2)) (.seq (.block 3 (.seq 
(.reg [⟨none, .ia 13 (.t q5_11) (.t q5_9)⟩,⟨none, .load 13 true (.l 0)⟩,⟨none, .box (.c (.agg [(.int .i64 (.ofNat 0)),(.int .i64 (.ofNat 0)),(.int .i64 (.ofNat 0)),(.int .i64 (.ofNat 0)),.nilsl,(.int .i64 (.ofNat 0)),(.int .i64 (.ofNat 0)),(.int .u32 (.ofNat 0)),(.int .u32 (.ofNat 0)),(.int .u32 (.ofNat 0)),(.int .u32 (.ofNat 0)),.nilsl,.nilsl]))⟩,⟨none, .store 13 (.l 0) (.l 1)⟩] [(q5_12,(.l 1))]) (.seq (.seq 
(.reg [⟨none, .load 13 true (.t q5_12)⟩,⟨none, .call (.c (.fn 185 [])) [(.l 0),(.t q5_8)]⟩,⟨none, .call (.c (.fn 184 [])) [(.l 0),(.t q5_2)]⟩,⟨none, .not (.l 0)⟩,⟨(some ((.l 0),false)), .mov (.t q5_8)⟩,⟨(some ((.l 1),false)), .fa 11 (.t q5_12)⟩,⟨(some ((.l 2),false)), .load 1 false (.l 0)⟩,⟨(some ((.l 3),false)), .len (.l 0)⟩,⟨(some ((.l 4),false)), .bin .ge (.l 3) (.l 0)⟩,⟨none, .pick (.l 5) (.c (.bool true)) (.l 0)⟩] [(q5_17,(.l 0))]) (.cond (.t q5_17) (.exit 3) .skip)) (.seq 
(.reg [⟨none, .fa 0 (.t q5_12)⟩,⟨none, .fa 4 (.l 0)⟩,⟨none, .load 1 false (.l 0)⟩,⟨none, .ia 5 (.l 0) (.t q5_8)⟩,⟨none, .load 5 true (.l 0)⟩,⟨none, .box (.c (.agg [(.int .i64 (.ofNat 0)),(.int .i64 (.ofNat 0)),(.str []),(.str []),(.int .i64 (.ofNat 0))]))⟩,⟨none, .store 5 (.l 0) (.l 1)⟩] [(q5_13,(.l 1))]) (.seq 
(.reg [⟨none, .fa 0 (.t q5_13)⟩,⟨none, .load 1 false (.l 0)⟩,⟨none, .fa 0 (.t q5_1)⟩,⟨none, .load 1 false (.l 0)⟩,⟨none, .bin .eq (.l 2) (.l 0)⟩,⟨(some ((.l 0),true)), .fa 1 (.t q5_13)⟩,⟨(some ((.l 1),true)), .load 1 false (.l 0)⟩,⟨(some ((.l 2),true)), .fa 1 (.t q5_1)⟩,⟨(some ((.l 3),true)), .load 1 false (.l 0)⟩,⟨(some ((.l 4),true)), .bin .eq (.l 2) (.l 0)⟩,⟨none, .pick (.l 5) (.l 0) (.c (.bool false))⟩,⟨(some ((.l 0),true)), .fa 2 (.t q5_13)⟩,⟨(some ((.l 1),true)), .load 1 false (.l 0)⟩,⟨(some ((.l 2),true)), .fa 2 (.t q5_1)⟩,⟨(some ((.l 3),true)), .load 1 false (.l 0)⟩,⟨(some ((.l 4),true)), .bin .eq (.l 2) (.l 0)⟩,⟨none, .pick (.l 5) (.l 0) (.c (.bool false))⟩,⟨(some ((.l 0),true)), .fa 3 (.t q5_13)⟩,⟨(some ((.l 1),true)), .load 1 false (.l 0)⟩,⟨(some ((.l 2),true)), .lens (.l 0)⟩,⟨(some ((.l 3),true)), .fa 3 (.t q5_1)⟩,⟨(some ((.l 4),true)), .load 1 false (.l 0)⟩,⟨(some ((.l 5),true)), .lens (.l 0)⟩,⟨(some ((.l 6),true)), .bin .eq (.l 3) (.l 0)⟩,⟨none, .pick (.l 7) (.l 0) (.c (.bool false))⟩] [(q5_18,(.l 0))]) (.cond (.t q5_18) (.seq 
(.reg [⟨none, .fa 11 (.t q5_12)⟩,⟨none, .load 1 false (.l 0)⟩,⟨none, .ia 6 (.l 0) (.t q5_8)⟩,⟨none, .load 6 true (.l 0)⟩,⟨none, .call (.c (.fn 151 [])) [(.t q5_7),(.l 0)]⟩,⟨none, .store 6 (.t q5_3) (.l 0)⟩] [(q5_19,(.t q5_2))]) .ret) .skip)))))) 
(.reg [⟨none, .bin .add (.t q5_9) k1⟩] [(q5_9,(.l 0))]))))))) (.seq 
(.reg [⟨none, .load 5 true (.t q5_1)⟩,⟨none, .fa 3 (.t q5_1)⟩,⟨none, .load 1 false (.l 0)⟩,⟨none, .lens (.l 0)⟩,⟨none, .call (.c (.fn 186 [])) [(.l 3),(.l 0),(.t q5_2)]⟩,⟨none, .call (.c (.fn 112 [])) [(.t q5_7),k2,(.l 0)]⟩,⟨none, .store 6 (.t q5_3) (.l 0)⟩] [(q5_19,(.t q5_2))]) .ret)))))), [(q5_3, some (6,true)),(q5_19, none)]⟩
def a150 : FN := ⟨full 4, [some q4_0,some q4_5], (.seq 
(.reg [⟨none, .box (.c (.agg [(.int .i64 (.ofNat 0)),(.int .i64 (.ofNat 0)),(.int .u32 (.ofNat 0)),(.int .u32 (.ofNat 0)),(.int .u32 (.ofNat 0)),(.int .u32 (.ofNat 0))]))⟩] [(q4_6,(.l 0))]) (.seq (.seq 
(.reg [⟨none, .nilc (.t q4_0)⟩,⟨none, .fa 12 (.l 0)⟩,⟨none, .load 1 false (.l 0)⟩,⟨none, .len (.l 0)⟩] [(q4_1,k0),(q4_2,(.l 0)),(q4_3,(.l 1))]) (.block 0 (.loop (.seq 
(.reg [⟨none, .bin .lt (.t q4_1) (.t q4_2)⟩] [(q4_7,(.l 0))]) (.seq (.cond (.t q4_7) .skip (.exit 0)) (.seq (.block 1 (.seq 
(.reg [⟨none, .ia 13 (.t q4_3) (.t q4_1)⟩,⟨none, .load 13 true (.l 0)⟩,⟨none, .box (.c (.agg [(.int .i64 (.ofNat 0)),(.int .i64 (.ofNat 0)),(.int .i64 (.ofNat 0)),(.int .i64 (.ofNat 0)),.nilsl,(.int .i64 (.ofNat 0)),(.int .i64 (.ofNat 0)),(.int .u32 (.ofNat 0)),(.int .u32 (.ofNat 0)),(.int .u32 (.ofNat 0)),(.int .u32 (.ofNat 0)),.nilsl,.nilsl]))⟩,⟨none, .store 13 (.l 0) (.l 1)⟩] [(q4_4,(.l 1))]) (.seq 
(.reg [⟨none, .fa 11 (.t q4_4)⟩,⟨none, .load 1 false (.l 0)⟩,⟨none, .call (.c (.fn 184 [])) [(.l 0),(.t q4_5)]⟩] [(q4_8,(.l 0))]) (.cond (.t q4_8) (.seq 
(.reg [⟨none, .fa 5 (.t q4_4)⟩,⟨none, .load 6 true (.l 0)⟩,⟨none, .call (.c (.fn 151 [])) [(.t q4_0),(.l 0)]⟩,⟨none, .store 6 (.t q4_6) (.l 0)⟩] []) .ret) .skip)))) 
(.reg [⟨none, .bin .add (.t q4_1) k1⟩] [(q4_1,(.l 0))]))))))) (.seq 
(.reg [⟨none, .call (.c (.fn 187 [])) [(.t q4_5)]⟩,⟨none, .call (.c (.fn 112 [])) [(.t q4_0),k3,(.l 0)]⟩,⟨none, .store 6 (.t q4_6) (.l 0)⟩] []) .ret))), [(q4_6, some (6,true))]⟩
def a151 : FN := ⟨full 2, [some q2_1,some q2_0], (.seq 
(.reg [⟨none, .box (.t q2_0)⟩,⟨none, .box (.c (.agg [(.int .i64 (.ofNat 0)),(.int .i64 (.ofNat 0)),(.int .u32 (.ofNat 0)),(.int .u32 (.ofNat 0)),(.int .u32 (.ofNat 0)),(.int .u32 (.ofNat 0))]))⟩] [(q2_2,(.l 1)),(q2_3,(.l 0))]) (.seq 
(.drw [(⟨none, .nilc (.t q2_1)⟩,[]),(⟨none, .fa 13 (.l 0)⟩,[]),(⟨none, .load 1 false (.l 0)⟩,[]),(⟨none, .fa 0 (.t q2_2)⟩,[]),(⟨none, .load 1 false (.l 0)⟩,[]),(⟨none, .mks 1 1 [(.int .i64 (.ofNat 0))] [(0,1,(.l 0))]⟩,[]),(⟨none, .app 1 (.l 3) (.l 0)⟩,[]),(⟨none, .nilc (.t q2_1)⟩,[]),(⟨none, .fa 13 (.l 0)⟩,[]),(⟨none, .store 1 (.l 0) (.l 2)⟩,[])] []) (.seq 
(.reg [⟨none, .load 6 true (.t q2_2)⟩,⟨none, .store 6 (.t q2_3) (.l 0)⟩] []) .ret))), [(q2_3, some (6,true))]⟩
def a152 : FN := ⟨full 2, [some q2_0,some q2_2], (.seq 
(.reg [⟨none, .box (.t q2_0)⟩] [(q2_1,(.l 0)),(q2_3,(.c (.bool false)))]) (.seq 
(.reg [⟨none, .fa 0 (.t q2_1)⟩,⟨none, .fa 0 (.l 0)⟩,⟨none, .load 1 false (.l 0)⟩,⟨none, .bin .gt (.l 0) (.t q2_2)⟩,⟨(some ((.l 0),true)), .fa 0 (.t q2_1)⟩,⟨(some ((.l 1),true)), .fa 0 (.l 0)⟩,⟨(some ((.l 2),true)), .load 1 false (.l 0)⟩,⟨(some ((.l 3),true)), .bin .le (.l 0) (.c (.int .i64 (.ofNat 65535)))⟩,⟨none, .pick (.l 4) (.l 0) (.c (.bool false))⟩,⟨(some ((.l 0),true)), .fa 0 (.t q2_1)⟩,⟨(some ((.l 1),true)), .fa 1 (.l 0)⟩,⟨(some ((.l 2),true)), .load 1 false (.l 0)⟩,⟨(some ((.l 3),true)), .bin .eq (.l 0) k1⟩,⟨(some ((.l 4),true)), .mov (.l 0)⟩,⟨(some ((.l 0),false)), .fa 0 (.t q2_1)⟩,⟨(some ((.l 1),false)), .fa 1 (.l 0)⟩,⟨(some ((.l 2),false)), .load 1 false (.l 0)⟩,⟨(some ((.l 3),false)), .bin .eq (.l 0) k2⟩,⟨(some ((.l 9),true)), .pick (.l 4) (.c (.bool true)) (.l 0)⟩,⟨none, .pick (.l 10) (.l 0) (.c (.bool false))⟩,⟨(some ((.l 0),true)), .fa 0 (.t q2_1)⟩,⟨(some ((.l 1),true)), .fa 2 (.l 0)⟩,⟨(some ((.l 2),true)), .load 1 false (.l 0)⟩,⟨(some ((.l 3),true)), .call (.c (.fn 120 [])) [(.l 0),(.c (.int .i64 (.ofNat 65535)))]⟩,⟨none, .pick (.l 4) (.l 0) (.c (.bool false))⟩,⟨(some ((.l 0),true)), .fa 0 (.t q2_1)⟩,⟨(some ((.l 1),true)), .fa 3 (.l 0)⟩,⟨(some ((.l 2),true)), .load 1 false (.l 0)⟩,⟨(some ((.l 3),true)), .call (.c (.fn 120 [])) [(.l 0),(.c (.int .i64 (.ofNat 255)))]⟩,⟨none, .pick (.l 4) (.l 0) (.c (.bool false))⟩,⟨(some ((.l 0),true)), .fa 5 (.t q2_1)⟩,⟨(some ((.l 1),true)), .load 6 true (.l 0)⟩,⟨(some ((.l 2),true)), .call (.c (.fn 156 [])) [(.l 0)]⟩,⟨none, .pick (.l 3) (.l 0) (.c (.bool false))⟩,⟨(some ((.l 0),true)), .fa 5 (.t q2_1)⟩,⟨(some ((.l 1),true)), .load 6 true (.l 0)⟩,⟨(some ((.l 2),true)), .build [(.int .i64 (.ofNat 0)),(.int .i64 (.ofNat 0)),(.int .u32 (.ofNat 0)),(.int .u32 (.ofNat 0)),(.int .u32 (.ofNat 0)),(.int .u32 (.ofNat 0))] []⟩,⟨(some ((.l 3),true)), .eqa [1, 1, 1, 1, 1, 1] true (.l 1) (.l 0)⟩,⟨none, .pick (.l 4) (.l 0) (.c (.bool false))⟩] [(q2_3,(.l 0))]) .ret)), [(q2_3, none)]⟩
def a153 : FN := ⟨full 2, [some q2_0], (.seq 
(.reg [⟨none, .box (.t q2_0)⟩] [(q2_1,(.l 0)),(q2_2,(.c (.str [])))]) (.seq 
(.drw [(⟨none, .fa 0 (.t q2_1)⟩,[]),(⟨none, .fa 0 (.l 0)⟩,[]),(⟨none, .load 1 false (.l 0)⟩,[]),(⟨none, .fa 0 (.t q2_1)⟩,[]),(⟨none, .fa 1 (.l 0)⟩,[]),(⟨none, .load 1 false (.l 0)⟩,[]),(⟨none, .fa 0 (.t q2_1)⟩,[]),(⟨none, .fa 2 (.l 0)⟩,[]),(⟨none, .load 1 false (.l 0)⟩,[]),(⟨none, .fa 0 (.t q2_1)⟩,[]),(⟨none, .fa 3 (.l 0)⟩,[]),(⟨none, .load 1 false (.l 0)⟩,[]),(⟨none, .mks 4 1 [(.int .i64 (.ofNat 0))] [(0,1,(.l 9)),(1,1,(.l 6)),(2,1,(.l 3)),(3,1,(.l 0))]⟩,[]),(⟨none, .call (.c (.fn 39 [])) [(.c (.str [50,49,50,49])),(.l 0)]⟩,[]),(⟨none, .fa 5 (.t q2_1)⟩,[13]),(⟨none, .load 6 true (.l 0)⟩,[13]),(⟨none, .mks 1 6 [(.int .i64 (.ofNat 0)),(.int .i64 (.ofNat 0)),(.int .u32 (.ofNat 0)),(.int .u32 (.ofNat 0)),(.int .u32 (.ofNat 0)),(.int .u32 (.ofNat 0))] [(0,6,(.l 0))]⟩,[13]),(⟨none, .call (.c (.fn 121 [])) [(.l 0)]⟩,[]),(⟨none, .bin .add (.l 4) (.l 0)⟩,[])] [(q2_2,(.l 0))]) .ret)), [(q2_2, none)]⟩
def a154 : FN := ⟨full 1, [some q1_0], (.seq 
(.reg [⟨none, .len (.t q1_0)⟩] [(q1_1,(.l 0))]) 
(.reg [⟨none, .conv .u64 (.t q1_1)⟩,⟨none, .call (.c (.fn 189 [])) [(.l 0)]⟩,⟨none, .call (.c (.fn 188 [])) [(.t q1_0),k0,(.t q1_1),(.l 0)]⟩] [])), []⟩
def a155 : FN := ⟨full 4, [some q4_0], (.seq 
(.reg [] [(q4_9,(.c .nilsl))]) (.seq (.seq 
(.reg [⟨none, .len (.t q4_0)⟩,⟨none, .bin .lt (.l 0) k2⟩] [(q4_4,(.l 0))]) (.cond (.t q4_4) (.seq 
(.reg [] [(q4_9,(.t q4_0))]) .ret) .skip)) (.seq (.seq 
(.reg [] [(q4_1,k1)]) (.block 0 (.loop (.seq (.seq 
(.reg [⟨none, .len (.t q4_0)⟩,⟨none, .bin .lt (.t q4_1) (.l 0)⟩] [(q4_5,(.l 0))]) (.cond (.t q4_5) .skip (.exit 0))) (.seq (.block 1 (.seq 
(.drw [(⟨none, .ia 1 (.t q4_0) (.t q4_1)⟩,[]),(⟨none, .load 1 false (.l 0)⟩,[]),(⟨none, .bin .sub (.t q4_1) k1⟩,[]),(⟨none, .ia 1 (.t q4_0) (.l 0)⟩,[]),(⟨none, .load 1 false (.l 0)⟩,[]),(⟨none, .bin .eq (.l 3) (.l 0)⟩,[])] [(q4_6,(.l 0))]) (.cond (.t q4_6) (.seq 
(.reg [⟨none, .slc 1 (.t q4_0) (some (.t q4_1)) none none⟩] [(q4_3,(.l 0))]) (.seq (.seq 
(.reg [] [(q4_2,k1)]) (.block 2 (.loop (.seq (.seq 
(.reg [⟨none, .len (.t q4_3)⟩,⟨none, .bin .lt (.t q4_2) (.l 0)⟩] [(q4_7,(.l 0))]) (.cond (.t q4_7) .skip (.exit 2))) (.seq (.block 3 (.seq 
(.drw [(⟨none, .ia 1 (.t q4_3) (.t q4_2)⟩,[]),(⟨none, .load 1 false (.l 0)⟩,[]),(⟨none, .bin .sub (.t q4_2) k1⟩,[]),(⟨none, .ia 1 (.t q4_3) (.l 0)⟩,[]),(⟨none, .load 1 false (.l 0)⟩,[]),(⟨none, .bin .ne (.l 3) (.l 0)⟩,[])] [(q4_8,(.l 0))]) (.cond (.t q4_8) (.seq 
(.reg [⟨none, .ia 1 (.t q4_3) (.t q4_2)⟩,⟨none, .load 1 false (.l 0)⟩,⟨none, .ia 1 (.t q4_0) (.t q4_1)⟩,⟨none, .store 1 (.l 0) (.l 1)⟩] []) 
(.reg [⟨none, .bin .add (.t q4_1) k1⟩] [(q4_1,(.l 0))])) .skip))) 
(.reg [⟨none, .bin .add (.t q4_2) k1⟩] [(q4_2,(.l 0))])))))) (.seq 
(.reg [⟨none, .slc 1 (.t q4_0) (some (.t q4_1)) none none⟩,⟨none, .clr 1 [(.int .i64 (.ofNat 0))] (.l 0)⟩] []) (.seq 
(.reg [⟨none, .slc 1 (.t q4_0) none (some (.t q4_1)) none⟩] [(q4_9,(.l 0))]) .ret)))) .skip))) 
(.reg [⟨none, .bin .add (.t q4_1) k1⟩] [(q4_1,(.l 0))])))))) (.seq 
(.reg [] [(q4_9,(.t q4_0))]) .ret)))), [(q4_9, none)]⟩
def a156 : FN := ⟨full 2, [some q2_0], (.seq 
(.reg [⟨none, .box (.t q2_0)⟩] [(q2_1,(.l 0)),(q2_3,(.c (.bool false)))]) (.seq (.seq 
(.reg [⟨none, .fa 0 (.t q2_1)⟩,⟨none, .load 1 false (.l 0)⟩,⟨none, .bin .eq (.l 0) k0⟩] [(q2_2,(.l 0))]) (.cond (.t q2_2) (.seq 
(.reg [⟨none, .load 6 true (.t q2_1)⟩,⟨none, .build [(.int .i64 (.ofNat 0)),(.int .i64 (.ofNat 0)),(.int .u32 (.ofNat 0)),(.int .u32 (.ofNat 0)),(.int .u32 (.ofNat 0)),(.int .u32 (.ofNat 0))] []⟩,⟨none, .eqa [1, 1, 1, 1, 1, 1] false (.l 1) (.l 0)⟩] [(q2_3,(.l 0))]) .ret) .skip)) (.seq 
(.reg [⟨none, .fa 0 (.t q2_1)⟩,⟨none, .load 1 false (.l 0)⟩,⟨none, .bin .gt (.l 0) k0⟩,⟨(some ((.l 0),true)), .fa 0 (.t q2_1)⟩,⟨(some ((.l 1),true)), .load 1 false (.l 0)⟩,⟨(some ((.l 2),true)), .bin .le (.l 0) (.c (.int .i64 (.ofNat 65535)))⟩,⟨none, .pick (.l 3) (.l 0) (.c (.bool false))⟩,⟨(some ((.l 0),true)), .fa 1 (.t q2_1)⟩,⟨(some ((.l 1),true)), .load 1 false (.l 0)⟩,⟨(some ((.l 2),true)), .bin .ge (.l 0) k0⟩,⟨none, .pick (.l 3) (.l 0) (.c (.bool false))⟩,⟨(some ((.l 0),true)), .fa 1 (.t q2_1)⟩,⟨(some ((.l 1),true)), .load 1 false (.l 0)⟩,⟨(some ((.l 2),true)), .bin .le (.l 0) (.c (.int .i64 (.ofNat 1073741824)))⟩,⟨none, .pick (.l 3) (.l 0) (.c (.bool false))⟩] [(q2_3,(.l 0))]) .ret))), [(q2_3, none)]⟩
def a157 : FN := ⟨full 3, [some q3_0], (.seq 
(.reg [⟨none, .box (.t q3_0)⟩] [(q3_1,(.l 0)),(q3_7,(.c .nilsl))]) (.seq 
(.reg [⟨none, .fa 0 (.t q3_1)⟩,⟨none, .fa 0 (.l 0)⟩,⟨none, .load 1 false (.l 0)⟩,⟨none, .fa 0 (.t q3_1)⟩,⟨none, .fa 1 (.l 0)⟩,⟨none, .load 1 false (.l 0)⟩,⟨none, .mks 2 1 [(.int .i64 (.ofNat 0))] [(0,1,(.l 3)),(1,1,(.l 0))]⟩] [(q3_4,(.l 0))]) (.seq (.seq 
(.reg [⟨none, .fa 0 (.t q3_1)⟩,⟨none, .fa 2 (.l 0)⟩,⟨none, .load 4 true (.l 0)⟩] [(q3_2,k0),(q3_3,(.l 0))]) (.block 0 (.loop (.seq 
(.reg [⟨none, .bin .lt (.t q3_2) k4⟩] [(q3_6,(.l 0))]) (.seq (.cond (.t q3_6) .skip (.exit 0)) (.seq (.block 1 (.seq 
(.reg [⟨none, .idxa 4 1 false (.t q3_3) (.t q3_2)⟩] [(q3_5,(.l 0))]) 
(.reg [⟨none, .conv .i64 (.t q3_5)⟩,⟨none, .mks 1 1 [(.int .i64 (.ofNat 0))] [(0,1,(.l 0))]⟩,⟨none, .app 1 (.t q3_4) (.l 0)⟩] [(q3_4,(.l 0))]))) 
(.reg [⟨none, .bin .add (.t q3_2) k1⟩] [(q3_2,(.l 0))]))))))) (.seq 
(.reg [] [(q3_7,(.t q3_4))]) .ret)))), [(q3_7, none)]⟩
def a158 : FN := ⟨full 2, [some q2_0], (.seq 
(.reg [⟨none, .box (.t q2_0)⟩] [(q2_1,(.l 0)),(q2_2,(.c (.bool false)))]) (.seq 
(.reg [⟨none, .fa 0 (.t q2_1)⟩,⟨none, .fa 0 (.l 0)⟩,⟨none, .load 1 false (.l 0)⟩,⟨none, .bin .ge (.l 0) k1⟩,⟨(some ((.l 0),true)), .fa 0 (.t q2_1)⟩,⟨(some ((.l 1),true)), .fa 0 (.l 0)⟩,⟨(some ((.l 2),true)), .load 1 false (.l 0)⟩,⟨(some ((.l 3),true)), .bin .le (.l 0) k6⟩,⟨none, .pick (.l 4) (.l 0) (.c (.bool false))⟩,⟨(some ((.l 0),true)), .fa 0 (.t q2_1)⟩,⟨(some ((.l 1),true)), .fa 1 (.l 0)⟩,⟨(some ((.l 2),true)), .load 1 false (.l 0)⟩,⟨(some ((.l 3),true)), .bin .ge (.l 0) k1⟩,⟨none, .pick (.l 4) (.l 0) (.c (.bool false))⟩,⟨(some ((.l 0),true)), .fa 0 (.t q2_1)⟩,⟨(some ((.l 1),true)), .fa 1 (.l 0)⟩,⟨(some ((.l 2),true)), .load 1 false (.l 0)⟩,⟨(some ((.l 3),true)), .bin .le (.l 0) (.c (.int .i64 (.ofNat 1073741824)))⟩,⟨none, .pick (.l 4) (.l 0) (.c (.bool false))⟩,⟨(some ((.l 0),true)), .fa 0 (.t q2_1)⟩,⟨(some ((.l 1),true)), .fa 2 (.l 0)⟩,⟨(some ((.l 2),true)), .load 1 false (.l 0)⟩,⟨(some ((.l 3),true)), .lens (.l 0)⟩,⟨(some ((.l 4),true)), .bin .le (.l 0) (.c (.int .i64 (.ofNat 249)))⟩,⟨none, .pick (.l 5) (.l 0) (.c (.bool false))⟩] [(q2_2,(.l 0))]) .ret)), [(q2_2, none)]⟩
def a159 : FN := ⟨full 2, [some q2_0], (.seq 
(.reg [⟨none, .box (.t q2_0)⟩] [(q2_1,(.l 0)),(q2_2,(.c (.bool false)))]) (.seq 
(.reg [⟨none, .fa 0 (.t q2_1)⟩,⟨none, .fa 0 (.l 0)⟩,⟨none, .load 1 false (.l 0)⟩,⟨none, .bin .ge (.l 0) k1⟩,⟨(some ((.l 0),true)), .fa 0 (.t q2_1)⟩,⟨(some ((.l 1),true)), .fa 0 (.l 0)⟩,⟨(some ((.l 2),true)), .load 1 false (.l 0)⟩,⟨(some ((.l 3),true)), .bin .le (.l 0) (.c (.int .i64 (.ofNat 1073741824)))⟩,⟨none, .pick (.l 4) (.l 0) (.c (.bool false))⟩,⟨(some ((.l 0),true)), .fa 0 (.t q2_1)⟩,⟨(some ((.l 1),true)), .fa 1 (.l 0)⟩,⟨(some ((.l 2),true)), .load 1 false (.l 0)⟩,⟨(some ((.l 3),true)), .bin .ge (.l 0) k0⟩,⟨none, .pick (.l 4) (.l 0) (.c (.bool false))⟩,⟨(some ((.l 0),true)), .fa 0 (.t q2_1)⟩,⟨(some ((.l 1),true)), .fa 1 (.l 0)⟩,⟨(some ((.l 2),true)), .load 1 false (.l 0)⟩,⟨(some ((.l 3),true)), .bin .le (.l 0) (.c (.int .i64 (.ofNat 1073741824)))⟩,⟨none, .pick (.l 4) (.l 0) (.c (.bool false))⟩,⟨(some ((.l 0),true)), .fa 0 (.t q2_1)⟩,⟨(some ((.l 1),true)), .fa 2 (.l 0)⟩,⟨(some ((.l 2),true)), .load 1 false (.l 0)⟩,⟨(some ((.l 3),true)), .bin .ge (.l 0) k0⟩,⟨none, .pick (.l 4) (.l 0) (.c (.bool false))⟩,⟨(some ((.l 0),true)), .fa 0 (.t q2_1)⟩,⟨(some ((.l 1),true)), .fa 2 (.l 0)⟩,⟨(some ((.l 2),true)), .load 1 false (.l 0)⟩,⟨(some ((.l 3),true)), .bin .lt (.l 0) k6⟩,⟨none, .pick (.l 4) (.l 0) (.c (.bool false))⟩,⟨(some ((.l 0),true)), .fa 0 (.t q2_1)⟩,⟨(some ((.l 1),true)), .fa 3 (.l 0)⟩,⟨(some ((.l 2),true)), .load 6 true (.l 0)⟩,⟨(some ((.l 3),true)), .call (.c (.fn 156 [])) [(.l 0)]⟩,⟨none, .pick (.l 4) (.l 0) (.c (.bool false))⟩,⟨(some ((.l 0),true)), .fa 0 (.t q2_1)⟩,⟨(some ((.l 1),true)), .fa 3 (.l 0)⟩,⟨(some ((.l 2),true)), .load 6 true (.l 0)⟩,⟨(some ((.l 3),true)), .build [(.int .i64 (.ofNat 0)),(.int .i64 (.ofNat 0)),(.int .u32 (.ofNat 0)),(.int .u32 (.ofNat 0)),(.int .u32 (.ofNat 0)),(.int .u32 (.ofNat 0))] []⟩,⟨(some ((.l 4),true)), .eqa [1, 1, 1, 1, 1, 1] true (.l 1) (.l 0)⟩,⟨none, .pick (.l 5) (.l 0) (.c (.bool false))⟩] [(q2_2,(.l 0))]) .ret)), [(q2_2, none)]⟩
def a160 : FN := ⟨full 2, [some q2_0], (.seq 
(.reg [⟨none, .box (.t q2_0)⟩] [(q2_1,(.l 0)),(q2_3,(.c (.str [])))]) (.seq (.seq 
(.reg [⟨none, .load 9 true (.t q2_1)⟩,⟨none, .call (.c (.fn 159 [])) [(.l 0)]⟩,⟨none, .not (.l 0)⟩] [(q2_2,(.l 0))]) (.cond (.t q2_2) (.seq 
(.reg [] [(q2_3,(.c (.str [])))]) .ret) .skip)) (.seq 
(.drw [(⟨none, .fa 0 (.t q2_1)⟩,[]),(⟨none, .fa 0 (.l 0)⟩,[]),(⟨none, .load 1 false (.l 0)⟩,[]),(⟨none, .fa 0 (.t q2_1)⟩,[]),(⟨none, .fa 1 (.l 0)⟩,[]),(⟨none, .load 1 false (.l 0)⟩,[]),(⟨none, .fa 0 (.t q2_1)⟩,[]),(⟨none, .fa 2 (.l 0)⟩,[]),(⟨none, .load 1 false (.l 0)⟩,[]),(⟨none, .mks 4 1 [(.int .i64 (.ofNat 0))] [(0,1,(.c (.int .i64 (.ofNat 171)))),(1,1,(.l 6)),(2,1,(.l 3)),(3,1,(.l 0))]⟩,[]),(⟨none, .call (.c (.fn 39 [])) [(.c (.str [49,52,52,49])),(.l 0)]⟩,[]),(⟨none, .fa 0 (.t q2_1)⟩,[10]),(⟨none, .fa 3 (.l 0)⟩,[10]),(⟨none, .load 6 true (.l 0)⟩,[10]),(⟨none, .mks 1 6 [(.int .i64 (.ofNat 0)),(.int .i64 (.ofNat 0)),(.int .u32 (.ofNat 0)),(.int .u32 (.ofNat 0)),(.int .u32 (.ofNat 0)),(.int .u32 (.ofNat 0))] [(0,6,(.l 0))]⟩,[10]),(⟨none, .call (.c (.fn 121 [])) [(.l 0)]⟩,[]),(⟨none, .bin .add (.l 5) (.l 0)⟩,[]),(⟨none, .call (.c (.fn 38 [])) [(.l 0)]⟩,[])] [(q2_3,(.l 0))]) .ret))), [(q2_3, none)]⟩
def a161 : FN := ⟨full 3, [some q3_0], (.seq 
(.reg [⟨none, .box (.c (.agg [(.int .i64 (.ofNat 0)),(.int .i64 (.ofNat 0)),(.int .u32 (.ofNat 0)),(.int .u32 (.ofNat 0)),(.int .u32 (.ofNat 0)),(.int .u32 (.ofNat 0))]))⟩] [(q3_4,(.l 0))]) (.seq 
(.drw [(⟨none, .ia 1 (.t q3_0) k0⟩,[]),(⟨none, .load 1 false (.l 0)⟩,[]),(⟨none, .ia 1 (.t q3_0) k1⟩,[]),(⟨none, .load 1 false (.l 0)⟩,[]),(⟨none, .build [(.int .i64 (.ofNat 0)),(.int .i64 (.ofNat 0)),(.int .u32 (.ofNat 0)),(.int .u32 (.ofNat 0)),(.int .u32 (.ofNat 0)),(.int .u32 (.ofNat 0))] [(0,1,(.l 2)),(1,1,(.l 0))]⟩,[]),(⟨none, .build [(.int .i64 (.ofNat 0)),(.int .i64 (.ofNat 0)),(.int .u32 (.ofNat 0)),(.int .u32 (.ofNat 0)),(.int .u32 (.ofNat 0)),(.int .u32 (.ofNat 0))] [(0,6,(.l 0))]⟩,[]),(⟨none, .box (.c (.agg [(.int .i64 (.ofNat 0)),(.int .i64 (.ofNat 0)),(.int .u32 (.ofNat 0)),(.int .u32 (.ofNat 0)),(.int .u32 (.ofNat 0)),(.int .u32 (.ofNat 0))]))⟩,[]),(⟨none, .store 6 (.l 0) (.l 1)⟩,[])] [(q3_3,(.l 1))]) (.seq (.seq 
(.reg [] [(q3_1,k0)]) (.block 0 (.loop (.seq 
(.reg [⟨none, .bin .lt (.t q3_1) k4⟩] [(q3_5,(.l 0))]) (.seq (.cond (.t q3_5) .skip (.exit 0)) (.seq (.block 1 (.seq 
(.reg [] [(q3_2,(.t q3_1))]) 
(.reg [⟨none, .bin .add k2 (.t q3_2)⟩,⟨none, .ia 1 (.t q3_0) (.l 0)⟩,⟨none, .load 1 false (.l 0)⟩,⟨none, .conv .u32 (.l 0)⟩,⟨none, .fa 0 (.t q3_3)⟩,⟨none, .fa 2 (.l 0)⟩,⟨none, .iap 4 1 (.l 0) (.t q3_2)⟩,⟨none, .store 1 (.l 0) (.l 3)⟩] []))) 
(.reg [⟨none, .bin .add (.t q3_1) k1⟩] [(q3_1,(.l 0))]))))))) (.seq 
(.reg [⟨none, .load 6 true (.t q3_3)⟩,⟨none, .store 6 (.t q3_4) (.l 0)⟩] []) .ret)))), [(q3_4, some (6,true))]⟩
def a162 : FN := ⟨full 1, [some q1_0], (.seq 
(.reg [] [(q1_1,(.c .nilsl))]) (.seq 
(.reg [⟨none, .len (.t q1_0)⟩,⟨none, .len (.t q1_0)⟩,⟨none, .slc 6 (.t q1_0) none (some (.l 1)) (some (.l 0))⟩] [(q1_1,(.l 0))]) .ret)), [(q1_1, none)]⟩
def a163 : FN := ⟨full 4, [some q4_0], (.seq 
(.reg [⟨none, .box (.c (.agg [(.int .i64 (.ofNat 0)),(.int .i64 (.ofNat 0)),(.str []),(.str []),(.int .i64 (.ofNat 0))]))⟩] [(q4_1,(.c (.bool false))),(q4_4,(.l 0)),(q4_6,(.c .nilsl)),(q4_10,k0)]) (.seq 
(.reg [⟨none, .call (.c (.fn 126 [])) [(.c (.str [49,49,49])),(.t q4_0)]⟩,⟨none, .ext (.l 0) 0⟩,⟨none, .ext (.l 1) 1⟩,⟨none, .ext (.l 2) 2⟩] [(q4_1,(.l 0)),(q4_2,(.l 1)),(q4_3,(.l 2))]) (.seq (.seq 
(.reg [⟨none, .not (.t q4_1)⟩,⟨(some ((.l 0),false)), .mov (.t q4_2)⟩,⟨(some ((.l 1),false)), .lens (.l 0)⟩,⟨(some ((.l 2),false)), .mov (.t q4_3)⟩,⟨(some ((.l 3),false)), .ia 1 (.l 0) k2⟩,⟨(some ((.l 4),false)), .load 1 false (.l 0)⟩,⟨(some ((.l 5),false)), .bin .lt (.l 3) (.l 0)⟩,⟨none, .pick (.l 6) (.c (.bool true)) (.l 0)⟩] [(q4_7,(.l 0))]) (.cond (.t q4_7) (.seq 
(.reg [⟨none, .build [(.int .i64 (.ofNat 0)),(.int .i64 (.ofNat 0)),(.str []),(.str []),(.int .i64 (.ofNat 0))] []⟩,⟨none, .store 5 (.t q4_4) (.l 0)⟩] [(q4_1,(.c (.bool false))),(q4_6,(.c .nilsl)),(q4_10,k0)]) .ret) .skip)) (.seq 
(.drw [(⟨none, .ia 1 (.t q4_3) k0⟩,[]),(⟨none, .load 1 false (.l 0)⟩,[]),(⟨none, .ia 1 (.t q4_3) k1⟩,[]),(⟨none, .load 1 false (.l 0)⟩,[]),(⟨none, .ia 1 (.t q4_3) k2⟩,[]),(⟨none, .load 1 false (.l 0)⟩,[]),(⟨none, .slc 0 (.t q4_2) none (some (.l 0)) none⟩,[]),(⟨none, .build [(.int .i64 (.ofNat 0)),(.int .i64 (.ofNat 0)),(.str []),(.str []),(.int .i64 (.ofNat 0))] [(0,1,(.l 5)),(1,1,(.l 3)),(2,1,(.l 0))]⟩,[]),(⟨none, .store 5 (.t q4_4) (.l 0)⟩,[])] []) (.seq 
(.reg [⟨none, .ia 1 (.t q4_3) k2⟩,⟨none, .load 1 false (.l 0)⟩,⟨none, .slc 0 (.t q4_2) (some (.l 0)) none none⟩,⟨none, .call (.c (.fn 126 [])) [(.c (.str [50])),(.l 0)]⟩,⟨none, .ext (.l 0) 0⟩,⟨none, .ext (.l 1) 1⟩,⟨none, .ext (.l 2) 2⟩] [(q4_1,(.l 0)),(q4_2,(.l 1)),(q4_5,(.l 2))]) (.seq (.seq 
(.reg [⟨none, .not (.t q4_1)⟩] [(q4_8,(.l 0))]) (.cond (.t q4_8) (.seq 
(.reg [⟨none, .build [(.int .i64 (.ofNat 0)),(.int .i64 (.ofNat 0)),(.str []),(.str []),(.int .i64 (.ofNat 0))] []⟩,⟨none, .store 5 (.t q4_4) (.l 0)⟩] [(q4_1,(.c (.bool false))),(q4_6,(.c .nilsl)),(q4_10,k0)]) .ret) .skip)) (.seq 
(.reg [⟨none, .call (.c (.fn 127 [])) [(.t q4_2),k4]⟩,⟨none, .ext (.l 0) 0⟩,⟨none, .ext (.l 1) 1⟩,⟨none, .ext (.l 2) 2⟩] [(q4_1,(.l 0)),(q4_6,(.l 2))]) (.seq (.seq 
(.drw [(⟨none, .not (.t q4_1)⟩,[]),(⟨(some ((.l 0),false)), .load 5 true (.t q4_4)⟩,[]),(⟨(some ((.l 1),false)), .mov (.t q4_5)⟩,[]),(⟨(some ((.l 2),false)), .ia 1 (.l 0) k0⟩,[]),(⟨(some ((.l 3),false)), .load 1 false (.l 0)⟩,[]),(⟨(some ((.l 4),false)), .mov (.t q4_6)⟩,[]),(⟨(some ((.l 5),false)), .call (.c (.fn 186 [])) [(.l 4),(.l 1),(.l 0)]⟩,[]),(⟨(some ((.l 6),false)), .mov (.t q4_0)⟩,[6]),(⟨(some ((.l 7),false)), .bin .ne (.l 1) (.l 0)⟩,[]),(⟨none, .pick (.l 8) (.c (.bool true)) (.l 0)⟩,[])] [(q4_9,(.l 0))]) (.cond (.t q4_9) (.seq 
(.reg [⟨none, .build [(.int .i64 (.ofNat 0)),(.int .i64 (.ofNat 0)),(.str []),(.str []),(.int .i64 (.ofNat 0))] []⟩,⟨none, .store 5 (.t q4_4) (.l 0)⟩] [(q4_1,(.c (.bool false))),(q4_6,(.c .nilsl)),(q4_10,k0)]) .ret) .skip)) (.seq 
(.drw [(⟨none, .load 5 true (.t q4_4)⟩,[]),(⟨none, .store 5 (.t q4_4) (.l 0)⟩,[]),(⟨none, .ia 1 (.t q4_5) k0⟩,[1]),(⟨none, .load 1 false (.l 0)⟩,[1])] [(q4_1,(.c (.bool true))),(q4_6,(.t q4_6)),(q4_10,(.l 0))]) .ret))))))))), [(q4_4, some (5,true)),(q4_10, none),(q4_6, none),(q4_1, none)]⟩
def a164 : FN := ⟨full 2, [some q2_0,some q2_1], (.seq 
(.reg [] [(q2_2,(.c (.bool false)))]) (.seq 
(.reg [⟨none, .call (.c (.fn 190 [])) [(.t q2_0),(.t q2_1)]⟩,⟨none, .bin .ge (.l 0) k0⟩] [(q2_2,(.l 0))]) .ret)), [(q2_2, none)]⟩
def a165 : FN := ⟨full 2, [some q2_0], (.seq 
(.reg [⟨none, .box (.t q2_0)⟩] [(q2_1,(.l 0)),(q2_2,(.c (.bool false)))]) (.seq 
(.reg [⟨none, .load 6 true (.t q2_1)⟩,⟨none, .build [(.int .i64 (.ofNat 0)),(.int .i64 (.ofNat 0)),(.int .u32 (.ofNat 0)),(.int .u32 (.ofNat 0)),(.int .u32 (.ofNat 0)),(.int .u32 (.ofNat 0))] []⟩,⟨none, .eqa [1, 1, 1, 1, 1, 1] true (.l 1) (.l 0)⟩] [(q2_2,(.l 0))]) .ret)), [(q2_2, none)]⟩
def a167 : FN := ⟨full 4, [some q4_4,some q4_6,some q4_0], (.seq 
(.reg [] [(q4_11,k0),(q4_12,(.c (.str [])))]) (.seq (.seq 
(.reg [⟨none, .len (.t q4_0)⟩] [(q4_1,k0),(q4_2,(.l 0)),(q4_3,(.t q4_0))]) (.block 0 (.loop (.seq 
(.reg [⟨none, .bin .lt (.t q4_1) (.t q4_2)⟩] [(q4_13,(.l 0))]) (.seq (.cond (.t q4_13) .skip (.exit 0)) (.seq (.block 1 (.seq 
(.reg [⟨none, .ia 6 (.t q4_3) (.t q4_1)⟩,⟨none, .load 6 true (.l 0)⟩,⟨none, .box (.c (.agg [(.int .i64 (.ofNat 0)),(.int .i64 (.ofNat 0)),(.int .u32 (.ofNat 0)),(.int .u32 (.ofNat 0)),(.int .u32 (.ofNat 0)),(.int .u32 (.ofNat 0))]))⟩,⟨none, .store 6 (.l 0) (.l 1)⟩] [(q4_5,(.l 1)),(q4_7,(.t q4_1))]) (.seq 
(.drw [(⟨none, .nilc (.t q4_4)⟩,[]),(⟨none, .fa 0 (.l 0)⟩,[]),(⟨none, .load 5 true (.l 0)⟩,[]),(⟨none, .load 6 true (.t q4_5)⟩,[]),(⟨none, .call (.c (.fn 49 [])) [(.l 1),(.l 0),k1]⟩,[]),(⟨none, .ext (.l 0) 0⟩,[]),(⟨none, .ext (.l 1) 1⟩,[])] [(q4_8,(.l 0)),(q4_9,(.l 1))]) (.seq 
(.reg [⟨none, .bin .mul (.t q4_7) (.c (.int .i64 (.ofNat 32)))⟩,⟨none, .bin .sub (.t q4_6) (.l 0)⟩,⟨none, .mx (.l 0) k0⟩,⟨none, .mn (.l 0) (.c (.int .i64 (.ofNat 32)))⟩] [(q4_10,(.l 0))]) (.seq (.block 2 (.seq 
(.reg [⟨none, .load 6 true (.t q4_5)⟩,⟨none, .build [(.int .i64 (.ofNat 0)),(.int .i64 (.ofNat 0)),(.int .u32 (.ofNat 0)),(.int .u32 (.ofNat 0)),(.int .u32 (.ofNat 0)),(.int .u32 (.ofNat 0))] []⟩,⟨none, .eqa [1, 1, 1, 1, 1, 1] false (.l 1) (.l 0)⟩] [(q4_14,(.l 0))]) (.cond (.t q4_14) 
(.reg [⟨none, .call (.c (.fn 192 [])) [(.c (.int .i64 (.ofNat 32)))]⟩] [(q4_9,(.l 0))]) (.seq (.seq 
(.reg [⟨none, .not (.t q4_8)⟩] [(q4_15,(.l 0))]) (.cond (.t q4_15) .skip (.seq 
(.reg [⟨none, .lens (.t q4_9)⟩,⟨none, .bin .ne (.l 0) (.c (.int .i64 (.ofNat 32)))⟩] [(q4_15,(.l 0))]) (.cond (.t q4_15) .skip (.seq 
(.reg [⟨none, .call (.c (.fn 192 [])) [(.c (.int .i64 (.ofNat 32)))]⟩,⟨none, .bin .eq (.t q4_9) (.l 0)⟩] [(q4_15,(.l 0))]) (.cond (.t q4_15) .skip 
(.drw [(⟨none, .bin .sub (.c (.int .i64 (.ofNat 32))) (.t q4_10)⟩,[]),(⟨none, .call (.c (.fn 192 [])) [(.l 0)]⟩,[]),(⟨none, .slc 0 (.t q4_9) (some (.t q4_10)) none none⟩,[1]),(⟨none, .bin .ne (.l 0) (.l 1)⟩,[])] [(q4_15,(.l 0))]))))))) (.cond (.t q4_15) 
(.drw [(⟨none, .call (.c (.fn 192 [])) [(.c (.int .i64 (.ofNat 32)))]⟩,[]),(⟨none, .bin .shl k1 (.t q4_7)⟩,[0]),(⟨none, .bin .or (.t q4_11) (.l 0)⟩,[0])] [(q4_9,(.l 2)),(q4_11,(.l 0))]) .skip))))) 
(.reg [⟨none, .bin .add (.t q4_12) (.t q4_9)⟩] [(q4_12,(.l 0))])))))) 
(.reg [⟨none, .bin .add (.t q4_1) k1⟩] [(q4_1,(.l 0))]))))))) (.seq 
(.reg [⟨none, .slc 0 (.t q4_12) none (some (.t q4_6)) none⟩] [(q4_11,(.t q4_11)),(q4_12,(.l 0))]) .ret))), [(q4_12, none),(q4_11, none)]⟩
def a168 : FN := ⟨full 4, [some q4_0], (.seq 
(.reg [⟨none, .box (.t q4_0)⟩,⟨none, .box (.c (.agg [.nilsl]))⟩] [(q4_1,(.l 1)),(q4_8,(.l 0))]) (.seq 
(.reg [⟨none, .fa 0 (.t q4_1)⟩,⟨none, .load 1 false (.l 0)⟩,⟨none, .call (.c (.fn 56 [])) [(.l 0)]⟩,⟨none, .build [.nilsl] [(0,1,(.l 0))]⟩,⟨none, .box (.c (.agg [.nilsl]))⟩,⟨none, .store 1 (.l 0) (.l 1)⟩] [(q4_2,(.l 1))]) (.seq (.seq 
(.reg [⟨none, .fa 0 (.t q4_2)⟩,⟨none, .load 1 false (.l 0)⟩,⟨none, .len (.l 0)⟩] [(q4_3,k0),(q4_4,(.l 0)),(q4_5,(.l 1))]) (.block 0 (.loop (.seq 
(.reg [⟨none, .bin .lt (.t q4_3) (.t q4_4)⟩] [(q4_9,(.l 0))]) (.seq (.cond (.t q4_9) .skip (.exit 0)) (.seq (.block 1 (.seq 
(.reg [⟨none, .ia 5 (.t q4_5) (.t q4_3)⟩,⟨none, .load 5 true (.l 0)⟩,⟨none, .box (.c (.agg [(.int .i64 (.ofNat 0)),(.int .i64 (.ofNat 0)),(.str []),(.str []),(.int .i64 (.ofNat 0))]))⟩,⟨none, .store 5 (.l 0) (.l 1)⟩] [(q4_6,(.l 1)),(q4_7,(.t q4_3))]) (.block 2 (.seq 
(.reg [⟨none, .fa 0 (.t q4_6)⟩,⟨none, .load 1 false (.l 0)⟩,⟨none, .bin .eq (.l 0) k1⟩,⟨(some ((.l 0),true)), .fa 4 (.t q4_6)⟩,⟨(some ((.l 1),true)), .load 1 false (.l 0)⟩,⟨(some ((.l 2),true)), .bin .gt (.l 0) k0⟩,⟨none, .pick (.l 3) (.l 0) (.c (.bool false))⟩,⟨(some ((.l 0),true)), .fa 4 (.t q4_6)⟩,⟨(some ((.l 1),true)), .load 1 false (.l 0)⟩,⟨(some ((.l 2),true)), .bin .le (.l 0) (.c (.int .i64 (.ofNat 15)))⟩,⟨none, .pick (.l 3) (.l 0) (.c (.bool false))⟩] [(q4_10,(.l 0))]) (.cond (.t q4_10) 
(.reg [⟨none, .fa 0 (.t q4_2)⟩,⟨none, .load 1 false (.l 0)⟩,⟨none, .ia 5 (.l 0) (.t q4_7)⟩,⟨none, .fa 4 (.l 0)⟩,⟨none, .store 1 (.l 0) k0⟩] []) (.seq 
(.reg [⟨none, .load 5 true (.t q4_6)⟩,⟨none, .build [(.int .i64 (.ofNat 0)),(.int .i64 (.ofNat 0)),(.str []),(.str []),(.int .i64 (.ofNat 0))] [(0,1,k3)]⟩,⟨none, .eqa [1, 1, 2, 2, 1] false (.l 1) (.l 0)⟩,⟨(some ((.l 0),true)), .mov (.t q4_7)⟩,⟨(some ((.l 1),true)), .bin .gt (.l 0) k0⟩,⟨none, .pick (.l 2) (.l 0) (.c (.bool false))⟩] [(q4_11,(.l 0))]) (.cond (.t q4_11) 
(.drw [(⟨none, .load 1 true (.t q4_2)⟩,[]),(⟨none, .call (.c (.fn 193 [])) [(.l 0)]⟩,[]),(⟨none, .fa 0 (.t q4_2)⟩,[1]),(⟨none, .load 1 false (.l 0)⟩,[1]),(⟨none, .build [(.int .i64 (.ofNat 0)),(.int .i64 (.ofNat 0)),(.str []),(.str []),(.int .i64 (.ofNat 0))] [(0,1,k2),(2,1,(.l 2))]⟩,[]),(⟨none, .ia 5 (.l 1) (.t q4_7)⟩,[]),(⟨none, .store 5 (.l 0) (.l 1)⟩,[])] []) .skip))))))) 
(.reg [⟨none, .bin .add (.t q4_3) k1⟩] [(q4_3,(.l 0))]))))))) (.seq 
(.reg [⟨none, .load 1 true (.t q4_2)⟩,⟨none, .store 1 (.t q4_8) (.l 0)⟩] []) .ret)))), [(q4_8, some (1,true))]⟩
def a170 : FN := ⟨full 2, [some q2_0,some q2_1], (.seq 
(.reg [⟨none, .box (.t q2_0)⟩] [(q2_2,(.l 0)),(q2_3,(.c (.bool false)))]) (.seq 
(.drw [(⟨none, .mks 1 1 [(.str [])] [(0,1,(.t q2_1))]⟩,[]),(⟨none, .call (.c (.fn 70 [])) [(.l 0)]⟩,[]),(⟨none, .fa 2 (.t q2_2)⟩,[1]),(⟨none, .load 4 true (.l 0)⟩,[1]),(⟨none, .eqa [1, 1, 1, 1] false (.l 0) (.l 2)⟩,[])] [(q2_3,(.l 0))]) .ret)), [(q2_3, none)]⟩
def a171 : FN := ⟨full 4, [some q4_0], (.seq 
(.reg [] [(q4_14,(.c .nilsl))]) (.seq 
(.reg [] [(q4_4,k0)]) (.seq (.seq 
(.reg [⟨none, .len (.t q4_0)⟩] [(q4_1,k0),(q4_2,(.l 0)),(q4_3,(.t q4_0))]) (.block 0 (.loop (.seq 
(.reg [⟨none, .bin .lt (.t q4_1) (.t q4_2)⟩] [(q4_11,(.l 0))]) (.seq (.cond (.t q4_11) .skip (.exit 0)) (.seq (.block 1 (.seq 
(.reg [⟨none, .ia 1 (.t q4_3) (.t q4_1)⟩,⟨none, .load 1 false (.l 0)⟩] [(q4_5,(.l 0))]) (.seq 
(.reg [⟨none, .len (.t q4_5)⟩,⟨none, .bin .add (.t q4_4) (.l 0)⟩] [(q4_4,(.l 0))]) (.seq 
(.reg [⟨none, .bin .lt (.t q4_4) k0⟩] [(q4_12,(.l 0))]) (.cond (.t q4_12) 
(.reg [⟨none, .bad⟩,⟨none, .bad⟩] []) .skip))))) 
(.reg [⟨none, .bin .add (.t q4_1) k1⟩] [(q4_1,(.l 0))]))))))) (.seq 
(.reg [⟨none, .call (.c (.fn 195 [])) [(.c .nilsl),(.t q4_4)]⟩] [(q4_9,(.l 0))]) (.seq (.seq 
(.reg [⟨none, .len (.t q4_0)⟩] [(q4_6,k0),(q4_7,(.l 0)),(q4_8,(.t q4_0))]) (.block 2 (.loop (.seq 
(.reg [⟨none, .bin .lt (.t q4_6) (.t q4_7)⟩] [(q4_13,(.l 0))]) (.seq (.cond (.t q4_13) .skip (.exit 2)) (.seq (.block 3 (.seq 
(.reg [⟨none, .ia 1 (.t q4_8) (.t q4_6)⟩,⟨none, .load 1 false (.l 0)⟩] [(q4_10,(.l 0))]) 
(.reg [⟨none, .app 2 (.t q4_9) (.t q4_10)⟩] [(q4_9,(.l 0))]))) 
(.reg [⟨none, .bin .add (.t q4_6) k1⟩] [(q4_6,(.l 0))]))))))) (.seq 
(.reg [] [(q4_14,(.t q4_9))]) .ret)))))), [(q4_14, none)]⟩
def a172 : FN := ⟨full 2, [some q2_0,some q2_1], (.seq 
(.reg [] [(q2_2,(.c (.bool false)))]) (.seq 
(.reg [⟨none, .call (.c (.fn 196 [])) [(.t q2_0),(.t q2_1)]⟩,⟨none, .bin .ge (.l 0) k0⟩] [(q2_2,(.l 0))]) .ret)), [(q2_2, none)]⟩
def a173 : FN := ⟨full 2, [some q2_0,some q2_2], (.seq 
(.reg [⟨none, .box (.t q2_0)⟩] [(q2_1,(.l 0)),(q2_3,(.c (.bool false)))]) (.seq 
(.reg [⟨none, .load 2 true (.t q2_1)⟩,⟨none, .build [(.int .i64 (.ofNat 0)),(.int .i64 (.ofNat 0))] [(0,2,(.l 0))]⟩,⟨none, .load 1 false (.t q2_2)⟩,⟨none, .call (.c (.fn 174 [])) [(.l 1),(.l 0)]⟩] [(q2_3,(.l 0))]) .ret)), [(q2_3, none)]⟩
def a174 : FN := ⟨full 2, [some q2_0,some q2_2], (.seq 
(.reg [⟨none, .box (.t q2_0)⟩] [(q2_1,(.l 0)),(q2_3,(.c (.bool false)))]) (.seq 
(.reg [⟨none, .fa 0 (.t q2_1)⟩,⟨none, .fa 0 (.l 0)⟩,⟨none, .load 1 false (.l 0)⟩,⟨none, .bin .le (.l 0) (.t q2_2)⟩,⟨(some ((.l 0),true)), .mov (.t q2_2)⟩,⟨(some ((.l 1),true)), .fa 0 (.t q2_1)⟩,⟨(some ((.l 2),true)), .fa 1 (.l 0)⟩,⟨(some ((.l 3),true)), .load 1 false (.l 0)⟩,⟨(some ((.l 4),true)), .bin .lt (.l 3) (.l 0)⟩,⟨none, .pick (.l 5) (.l 0) (.c (.bool false))⟩] [(q2_3,(.l 0))]) .ret)), [(q2_3, none)]⟩
def a182 : FN := ⟨full 4, [some q4_2,some q4_7,some q4_9,some q4_0], (.seq 
(.reg [⟨none, .box (.c (.agg [(.int .i64 (.ofNat 0)),(.int .i64 (.ofNat 0)),(.int .u32 (.ofNat 0)),(.int .u32 (.ofNat 0)),(.int .u32 (.ofNat 0)),(.int .u32 (.ofNat 0))]))⟩] [(q4_1,(.l 0))]) (.seq (.seq 
(.reg [⟨none, .bin .eq (.t q4_0) (.c (.str []))⟩] [(q4_10,(.l 0))]) (.cond (.t q4_10) (.seq 
(.reg [⟨none, .build [(.int .i64 (.ofNat 0)),(.int .i64 (.ofNat 0)),(.int .u32 (.ofNat 0)),(.int .u32 (.ofNat 0)),(.int .u32 (.ofNat 0)),(.int .u32 (.ofNat 0))] []⟩,⟨none, .store 6 (.t q4_1) (.l 0)⟩] []) .ret) .skip)) (.seq (.seq 
(.reg [⟨none, .nilc (.t q4_2)⟩,⟨none, .fa 12 (.l 0)⟩,⟨none, .load 1 false (.l 0)⟩,⟨none, .len (.l 0)⟩] [(q4_3,k0),(q4_4,(.l 0)),(q4_5,(.l 1))]) (.block 0 (.loop (.seq 
(.reg [⟨none, .bin .lt (.t q4_3) (.t q4_4)⟩] [(q4_11,(.l 0))]) (.seq (.cond (.t q4_11) .skip (.exit 0)) (.seq (.block 1 (.seq 
(.reg [⟨none, .ia 13 (.t q4_5) (.t q4_3)⟩,⟨none, .load 13 true (.l 0)⟩,⟨none, .box (.c (.agg [(.int .i64 (.ofNat 0)),(.int .i64 (.ofNat 0)),(.int .i64 (.ofNat 0)),(.int .i64 (.ofNat 0)),.nilsl,(.int .i64 (.ofNat 0)),(.int .i64 (.ofNat 0)),(.int .u32 (.ofNat 0)),(.int .u32 (.ofNat 0)),(.int .u32 (.ofNat 0)),(.int .u32 (.ofNat 0)),.nilsl,.nilsl]))⟩,⟨none, .store 13 (.l 0) (.l 1)⟩] [(q4_6,(.l 1))]) (.seq 
(.reg [⟨none, .load 13 true (.t q4_6)⟩,⟨none, .call (.c (.fn 185 [])) [(.l 0),(.t q4_7)]⟩] [(q4_8,(.l 0))]) (.seq 
(.reg [⟨none, .eqs true (.t q4_8) (.c .nilsl)⟩,⟨(some ((.l 0),true)), .fa 0 (.t q4_6)⟩,⟨(some ((.l 1),true)), .fa 4 (.l 0)⟩,⟨(some ((.l 2),true)), .load 1 false (.l 0)⟩,⟨(some ((.l 3),true)), .mov (.t q4_7)⟩,⟨(some ((.l 4),true)), .ia 5 (.l 1) (.l 0)⟩,⟨(some ((.l 5),true)), .fa 3 (.l 0)⟩,⟨(some ((.l 6),true)), .load 1 false (.l 0)⟩,⟨(some ((.l 7),true)), .mov (.t q4_9)⟩,⟨(some ((.l 8),true)), .call (.c (.fn 183 [])) [(.l 1),(.l 0)]⟩,⟨(some ((.l 9),true)), .mov (.t q4_0)⟩,⟨(some ((.l 10),true)), .bin .eq (.l 1) (.l 0)⟩,⟨none, .pick (.l 11) (.l 0) (.c (.bool false))⟩] [(q4_12,(.l 0))]) (.cond (.t q4_12) (.seq 
(.reg [⟨none, .ia 6 (.t q4_8) (.t q4_9)⟩,⟨none, .load 6 true (.l 0)⟩,⟨none, .call (.c (.fn 151 [])) [(.t q4_2),(.l 0)]⟩,⟨none, .store 6 (.t q4_1) (.l 0)⟩] []) .ret) .skip))))) 
(.reg [⟨none, .bin .add (.t q4_3) k1⟩] [(q4_3,(.l 0))]))))))) (.seq 
(.reg [⟨none, .call (.c (.fn 112 [])) [(.t q4_2),k1,(.t q4_0)]⟩,⟨none, .store 6 (.t q4_1) (.l 0)⟩] []) .ret)))), [(q4_1, some (6,true))]⟩
def a183 : FN := ⟨full 3, [some q3_1,some q3_0], (.seq 
(.reg [] [(q3_5,(.c (.str [])))]) (.seq (.seq 
(.reg [⟨none, .bin .lt (.t q3_0) k0⟩,⟨(some ((.l 0),false)), .mov (.t q3_0)⟩,⟨(some ((.l 1),false)), .bin .ge (.l 0) k4⟩,⟨none, .pick (.l 2) (.c (.bool true)) (.l 0)⟩,⟨(some ((.l 0),false)), .mov (.t q3_1)⟩,⟨(some ((.l 1),false)), .lens (.l 0)⟩,⟨(some ((.l 2),false)), .bin .gt (.l 0) (.c (.int .i64 (.ofNat 128)))⟩,⟨none, .pick (.l 3) (.c (.bool true)) (.l 0)⟩] [(q3_3,(.l 0))]) (.cond (.t q3_3) (.seq 
(.reg [] [(q3_5,(.c (.str [])))]) .ret) .skip)) (.seq 
(.reg [⟨none, .lens (.t q3_1)⟩,⟨none, .bin .sub (.c (.int .i64 (.ofNat 128))) (.l 0)⟩,⟨none, .call (.c (.fn 198 [])) [(.l 0)]⟩,⟨none, .bin .add (.t q3_1) (.l 0)⟩] [(q3_1,(.l 0))]) (.seq (.seq 
(.reg [⟨none, .bin .mul (.t q3_0) (.c (.int .i64 (.ofNat 32)))⟩,⟨none, .slc 0 (.t q3_1) (some (.l 0)) none none⟩,⟨none, .slc 0 (.l 0) none (some (.c (.int .i64 (.ofNat 32)))) none⟩] [(q3_2,(.l 0))]) (.seq 
(.reg [⟨none, .call (.c (.fn 198 [])) [(.c (.int .i64 (.ofNat 32)))]⟩,⟨none, .bin .ne (.t q3_2) (.l 0)⟩] [(q3_4,(.l 0))]) (.cond (.t q3_4) (.seq 
(.reg [] [(q3_5,(.t q3_2))]) .ret) .skip))) (.seq 
(.reg [] [(q3_5,(.c (.str [])))]) .ret))))), [(q3_5, none)]⟩
def a184 : FN := ⟨full 4, [some q4_0,some q4_1], (.seq 
(.reg [] [(q4_8,(.c (.bool false)))]) (.seq (.seq 
(.reg [⟨none, .len (.t q4_0)⟩,⟨none, .len (.t q4_1)⟩,⟨none, .bin .ne (.l 1) (.l 0)⟩] [(q4_5,(.l 0))]) (.cond (.t q4_5) (.seq 
(.reg [] [(q4_8,(.c (.bool false)))]) .ret) .skip)) (.seq (.seq 
(.reg [⟨none, .len (.t q4_0)⟩] [(q4_2,k0),(q4_3,(.l 0))]) (.block 0 (.loop (.seq 
(.reg [⟨none, .bin .lt (.t q4_2) (.t q4_3)⟩] [(q4_6,(.l 0))]) (.seq (.cond (.t q4_6) .skip (.exit 0)) (.seq (.block 1 (.seq 
(.reg [] [(q4_4,(.t q4_2))]) (.seq 
(.drw [(⟨none, .ia 6 (.t q4_0) (.t q4_4)⟩,[]),(⟨none, .load 6 true (.l 0)⟩,[]),(⟨none, .ia 6 (.t q4_1) (.t q4_4)⟩,[]),(⟨none, .load 6 true (.l 0)⟩,[]),(⟨none, .eqa [1, 1, 1, 1, 1, 1] true (.l 2) (.l 0)⟩,[])] [(q4_7,(.l 0))]) (.cond (.t q4_7) (.seq 
(.reg [] [(q4_8,(.c (.bool false)))]) .ret) .skip)))) 
(.reg [⟨none, .bin .add (.t q4_2) k1⟩] [(q4_2,(.l 0))]))))))) (.seq 
(.reg [] [(q4_8,(.c (.bool true)))]) .ret)))), [(q4_8, none)]⟩
def a185 : FN := ⟨full 3, [some q3_0,some q3_1], (.seq 
(.reg [⟨none, .box (.t q3_0)⟩] [(q3_2,(.l 0)),(q3_4,(.c .nilsl))]) (.seq (.seq 
(.reg [⟨none, .fa 0 (.t q3_2)⟩,⟨none, .fa 4 (.l 0)⟩,⟨none, .load 1 false (.l 0)⟩,⟨none, .len (.l 0)⟩,⟨none, .bin .ge (.t q3_1) (.l 0)⟩,⟨(some ((.l 0),false)), .fa 12 (.t q3_2)⟩,⟨(some ((.l 1),false)), .load 1 false (.l 0)⟩,⟨(some ((.l 2),false)), .len (.l 0)⟩,⟨(some ((.l 3),false)), .mov (.t q3_1)⟩,⟨(some ((.l 4),false)), .bin .add (.l 0) k1⟩,⟨(some ((.l 5),false)), .bin .mul (.l 0) k4⟩,⟨(some ((.l 6),false)), .bin .lt (.l 3) (.l 0)⟩,⟨none, .pick (.l 7) (.c (.bool true)) (.l 0)⟩] [(q3_3,(.l 0))]) (.cond (.t q3_3) (.seq 
(.reg [] [(q3_4,(.c .nilsl))]) .ret) .skip)) (.seq 
(.reg [⟨none, .fa 12 (.t q3_2)⟩,⟨none, .load 1 false (.l 0)⟩,⟨none, .bin .mul (.t q3_1) k4⟩,⟨none, .slc 6 (.l 1) (some (.l 0)) none none⟩,⟨none, .slc 6 (.l 0) none (some k4) none⟩] [(q3_4,(.l 0))]) .ret))), [(q3_4, none)]⟩
def a186 : FN := ⟨full 3, [some q3_0,some q3_2,some q3_3], (.seq 
(.reg [⟨none, .box (.t q3_0)⟩] [(q3_1,(.l 0)),(q3_6,(.c (.str [])))]) (.seq (.block 0 (.seq (.seq 
(.reg [⟨none, .fa 0 (.t q3_1)⟩,⟨none, .load 1 false (.l 0)⟩,⟨none, .bin .ne (.l 0) k1⟩,⟨(some ((.l 0),true)), .fa 0 (.t q3_1)⟩,⟨(some ((.l 1),true)), .load 1 false (.l 0)⟩,⟨(some ((.l 2),true)), .bin .ne (.l 0) k2⟩,⟨none, .pick (.l 3) (.l 0) (.c (.bool false))⟩] [(q3_4,(.l 0))]) (.cond (.t q3_4) .skip (.seq 
(.reg [⟨none, .fa 1 (.t q3_1)⟩,⟨none, .load 1 false (.l 0)⟩,⟨none, .bin .lt (.l 0) k0⟩] [(q3_4,(.l 0))]) (.cond (.t q3_4) .skip (.seq 
(.reg [⟨none, .fa 1 (.t q3_1)⟩,⟨none, .load 1 false (.l 0)⟩,⟨none, .bin .ge (.l 0) k8⟩] [(q3_4,(.l 0))]) (.cond (.t q3_4) .skip 
(.reg [⟨none, .fa 2 (.t q3_1)⟩,⟨none, .load 1 false (.l 0)⟩,⟨none, .lens (.l 0)⟩,⟨none, .bin .gt (.l 0) k8⟩] [(q3_4,(.l 0))]))))))) (.cond (.t q3_4) (.seq 
(.reg [] [(q3_6,(.c (.str [])))]) .ret) (.seq (.seq 
(.reg [⟨none, .bin .lt (.t q3_2) k0⟩] [(q3_5,(.l 0))]) (.cond (.t q3_5) .skip (.seq 
(.reg [⟨none, .bin .gt (.t q3_2) (.c (.int .i64 (.ofNat 128)))⟩] [(q3_5,(.l 0))]) (.cond (.t q3_5) .skip (.seq 
(.reg [⟨none, .len (.t q3_3)⟩,⟨none, .bin .ne (.l 0) k4⟩] [(q3_5,(.l 0))]) (.cond (.t q3_5) .skip 
(.reg [⟨none, .call (.c (.fn 121 [])) [(.t q3_3)]⟩,⟨none, .bin .eq (.l 0) (.c (.str []))⟩] [(q3_5,(.l 0))]))))))) (.cond (.t q3_5) (.seq 
(.reg [] [(q3_6,(.c (.str [])))]) .ret) .skip))))) (.seq 
(.drw [(⟨none, .fa 0 (.t q3_1)⟩,[]),(⟨none, .load 1 false (.l 0)⟩,[]),(⟨none, .fa 1 (.t q3_1)⟩,[]),(⟨none, .load 1 false (.l 0)⟩,[]),(⟨none, .fa 2 (.t q3_1)⟩,[]),(⟨none, .load 1 false (.l 0)⟩,[]),(⟨none, .lens (.l 0)⟩,[]),(⟨none, .mks 3 1 [(.int .i64 (.ofNat 0))] [(0,1,(.l 5)),(1,1,(.l 3)),(2,1,(.l 0))]⟩,[]),(⟨none, .call (.c (.fn 39 [])) [(.c (.str [49,49,49])),(.l 0)]⟩,[]),(⟨none, .mks 1 1 [(.int .i64 (.ofNat 0))] [(0,1,(.t q3_2))]⟩,[8]),(⟨none, .call (.c (.fn 39 [])) [(.c (.str [50])),(.l 0)]⟩,[]),(⟨none, .call (.c (.fn 121 [])) [(.t q3_3)]⟩,[]),(⟨none, .fa 2 (.t q3_1)⟩,[11, 10, 8]),(⟨none, .load 1 false (.l 0)⟩,[11, 10, 8]),(⟨none, .bin .add (.l 5) (.l 0)⟩,[11, 10]),(⟨none, .bin .add (.l 0) (.l 4)⟩,[11]),(⟨none, .bin .add (.l 0) (.l 4)⟩,[])] [(q3_6,(.l 0))]) .ret))), [(q3_6, none)]⟩
def a187 : FN := ⟨full 2, [some q2_0], (.seq 
(.reg [] [(q2_2,(.c (.str [])))]) (.seq (.seq 
(.reg [⟨none, .len (.t q2_0)⟩,⟨none, .bin .ne (.l 0) k8⟩] [(q2_1,(.l 0))]) (.cond (.t q2_1) (.seq 
(.reg [] [(q2_2,(.c (.str [])))]) .ret) .skip)) (.seq 
(.reg [⟨none, .call (.c (.fn 121 [])) [(.t q2_0)]⟩] [(q2_2,(.l 0))]) .ret))), [(q2_2, none)]⟩
def a188 : FN := ⟨full 5, [some q5_3,some q5_1,some q5_0,some q5_4], (.seq 
(.reg [] [(q5_5,(.c (.bool true)))]) (.seq 
(.reg [] [(q5_8,(.c (.bool true)))]) (.block 0 (.loop (.block 1 (.seq 
(.reg [⟨none, .bin .sub (.t q5_0) (.t q5_1)⟩] [(q5_2,(.l 0))]) (.seq (.seq 
(.reg [⟨none, .bin .le (.t q5_2) (.c (.int .i64 (.ofNat 12)))⟩] [(q5_15,(.l 0))]) (.cond (.t q5_15) (.seq 
(.reg [⟨none, .call (.c (.fn 199 [])) [(.t q5_3),(.t q5_1),(.t q5_0)]⟩] []) .ret) .skip)) (.seq (.seq 
(.reg [⟨none, .bin .eq (.t q5_4) k0⟩] [(q5_16,(.l 0))]) (.cond (.t q5_16) (.seq 
(.reg [⟨none, .call (.c (.fn 200 [])) [(.t q5_3),(.t q5_1),(.t q5_0)]⟩] []) .ret) .skip)) (.seq (.seq 
(.reg [⟨none, .not (.t q5_5)⟩] [(q5_17,(.l 0))]) (.cond (.t q5_17) (.seq 
(.reg [⟨none, .call (.c (.fn 201 [])) [(.t q5_3),(.t q5_1),(.t q5_0)]⟩] []) 
(.reg [⟨none, .bin .sub (.t q5_4) k1⟩] [(q5_4,(.l 0))])) .skip)) (.seq 
(.reg [⟨none, .call (.c (.fn 202 [])) [(.t q5_3),(.t q5_1),(.t q5_0)]⟩,⟨none, .ext (.l 0) 0⟩,⟨none, .ext (.l 1) 1⟩] [(q5_6,(.l 0)),(q5_7,(.l 1))]) (.seq (.seq 
(.reg [⟨none, .bin .eq (.t q5_6) k2⟩] [(q5_18,(.l 0))]) (.cond (.t q5_18) (.seq 
(.reg [⟨none, .call (.c (.fn 203 [])) [(.t q5_3),(.t q5_1),(.t q5_0)]⟩] []) (.seq 
(.reg [⟨none, .bin .sub (.t q5_0) k1⟩,⟨none, .bin .sub (.t q5_7) (.t q5_1)⟩,⟨none, .bin .sub (.l 1) (.l 0)⟩] [(q5_7,(.l 0))]) 
(.reg [] [(q5_6,k1)]))) .skip)) (.seq (.seq 
(.reg [⟨(some ((.t q5_5),true)), .mov (.t q5_8)⟩,⟨none, .pick (.t q5_5) (.l 0) (.c (.bool false))⟩,⟨(some ((.l 0),true)), .mov (.t q5_6)⟩,⟨(some ((.l 1),true)), .bin .eq (.l 0) k1⟩,⟨none, .pick (.l 2) (.l 0) (.c (.bool false))⟩] [(q5_19,(.l 0))]) (.cond (.t q5_19) (.seq 
(.reg [⟨none, .call (.c (.fn 204 [])) [(.t q5_3),(.t q5_1),(.t q5_0)]⟩] [(q5_20,(.l 0))]) (.cond (.t q5_20) .ret .skip)) .skip)) (.seq (.seq 
(.drw [(⟨none, .bin .gt (.t q5_1) k0⟩,[]),(⟨(some ((.l 0),true)), .mov (.t q5_3)⟩,[]),(⟨(some ((.l 1),true)), .mov (.t q5_1)⟩,[]),(⟨(some ((.l 2),true)), .bin .sub (.l 0) k1⟩,[]),(⟨(some ((.l 3),true)), .ia 1 (.l 2) (.l 0)⟩,[]),(⟨(some ((.l 4),true)), .load 1 false (.l 0)⟩,[]),(⟨(some ((.l 5),true)), .mov (.t q5_3)⟩,[]),(⟨(some ((.l 6),true)), .mov (.t q5_7)⟩,[]),(⟨(some ((.l 7),true)), .ia 1 (.l 1) (.l 0)⟩,[]),(⟨(some ((.l 8),true)), .load 1 false (.l 0)⟩,[]),(⟨(some ((.l 9),true)), .call (.c (.fn 205 [])) [(.l 4),(.l 0)]⟩,[]),(⟨(some ((.l 10),true)), .not (.l 0)⟩,[]),(⟨none, .pick (.l 11) (.l 0) (.c (.bool false))⟩,[])] [(q5_21,(.l 0))]) (.cond (.t q5_21) (.seq 
(.reg [⟨none, .call (.c (.fn 206 [])) [(.t q5_3),(.t q5_1),(.t q5_0),(.t q5_7)]⟩] [(q5_9,(.l 0))]) (.seq 
(.reg [] [(q5_1,(.t q5_9))]) (.exit 1))) .skip)) (.seq 
(.reg [⟨none, .call (.c (.fn 207 [])) [(.t q5_3),(.t q5_1),(.t q5_0),(.t q5_7)]⟩,⟨none, .ext (.l 0) 0⟩,⟨none, .ext (.l 1) 1⟩] [(q5_10,(.l 0)),(q5_11,(.l 1))]) (.seq 
(.reg [] [(q5_8,(.t q5_10))]) (.seq 
(.reg [⟨none, .bin .sub (.t q5_11) (.t q5_1)⟩,⟨none, .bin .sub (.t q5_0) (.t q5_11)⟩] [(q5_12,(.l 1)),(q5_13,(.l 0))]) (.seq 
(.reg [⟨none, .bin .quo (.t q5_2) k8⟩] [(q5_14,(.l 0))]) (.seq 
(.reg [⟨none, .bin .lt (.t q5_12) (.t q5_13)⟩] [(q5_22,(.l 0))]) (.cond (.t q5_22) (.seq 
(.reg [⟨none, .bin .ge (.t q5_12) (.t q5_14)⟩] [(q5_5,(.l 0))]) (.seq 
(.reg [⟨none, .call (.c (.fn 188 [])) [(.t q5_3),(.t q5_1),(.t q5_11),(.t q5_4)]⟩] []) 
(.reg [⟨none, .bin .add (.t q5_11) k1⟩] [(q5_1,(.l 0))]))) (.seq 
(.reg [⟨none, .bin .ge (.t q5_13) (.t q5_14)⟩] [(q5_5,(.l 0))]) (.seq 
(.reg [⟨none, .bin .add (.t q5_11) k1⟩,⟨none, .call (.c (.fn 188 [])) [(.t q5_3),(.l 0),(.t q5_0),(.t q5_4)]⟩] []) 
(.reg [] [(q5_0,(.t q5_11))])))))))))))))))))))))), []⟩
def a189 : FN := ⟨full 1, [some q1_0], (.seq 
(.reg [] [(q1_1,k0)]) (.seq (.cond (.c (.bool false)) (.seq 
(.reg [⟨none, .conv .u32 (.t q1_0)⟩,⟨none, .call (.c (.fn 208 [])) [(.l 0)]⟩] [(q1_1,(.l 0))]) .ret) .skip) (.seq 
(.reg [⟨none, .call (.c (.fn 209 [])) [(.t q1_0)]⟩] [(q1_1,(.l 0))]) .ret))), [(q1_1, none)]⟩
def a190 : FN := ⟨full 3, [some q3_0,some q3_3], (.seq 
(.reg [] [(q3_7,k0)]) (.seq (.seq 
(.reg [⟨none, .len (.t q3_0)⟩] [(q3_1,k0),(q3_2,(.l 0))]) (.block 0 (.loop (.seq 
(.reg [⟨none, .bin .lt (.t q3_1) (.t q3_2)⟩] [(q3_5,(.l 0))]) (.seq (.cond (.t q3_5) .skip (.exit 0)) (.seq (.block 1 (.seq 
(.reg [] [(q3_4,(.t q3_1))]) (.seq 
(.reg [⟨none, .ia 6 (.t q3_0) (.t q3_4)⟩,⟨none, .load 6 true (.l 0)⟩,⟨none, .call (.t q3_3) [(.l 0)]⟩] [(q3_6,(.l 0))]) (.cond (.t q3_6) (.seq 
(.reg [] [(q3_7,(.t q3_4))]) .ret) .skip)))) 
(.reg [⟨none, .bin .add (.t q3_1) k1⟩] [(q3_1,(.l 0))]))))))) (.seq 
(.reg [] [(q3_7,(.c (.int .i64 (.negSucc 0))))]) .ret))), [(q3_7, none)]⟩
def a192 : FN := ⟨full 1, [some q1_0], (.seq 
(.reg [] [(q1_1,(.c (.str [])))]) (.seq 
(.reg [⟨none, .mx (.t q1_0) k0⟩,⟨none, .call (.c (.fn 71 [])) [(.c (.str [0])),(.l 0)]⟩] [(q1_1,(.l 0))]) .ret)), [(q1_1, none)]⟩
def a195 : FN := ⟨full 3, [some q3_1,some q3_0], (.seq 
(.reg [] [(q3_4,(.c .nilsl))]) (.seq (.seq 
(.reg [⟨none, .bin .lt (.t q3_0) k0⟩] [(q3_2,(.l 0))]) (.cond (.t q3_2) 
(.reg [⟨none, .bad⟩,⟨none, .bad⟩] []) .skip)) (.seq (.seq 
(.reg [⟨none, .cap (.t q3_1)⟩,⟨none, .len (.t q3_1)⟩,⟨none, .bin .sub (.l 1) (.l 0)⟩,⟨none, .bin .sub (.t q3_0) (.l 0)⟩] [(q3_0,(.l 0))]) (.seq 
(.reg [⟨none, .bin .gt (.t q3_0) k0⟩] [(q3_3,(.l 0))]) (.cond (.t q3_3) 
(.reg [⟨none, .cap (.t q3_1)⟩,⟨none, .slc 2 (.t q3_1) none (some (.l 0)) none⟩,⟨none, .appz 2 [(.int .i64 (.ofNat 0)),(.int .i64 (.ofNat 0))] (.l 0) (.t q3_0)⟩,⟨none, .len (.t q3_1)⟩,⟨none, .slc 2 (.l 1) none (some (.l 0)) none⟩] [(q3_1,(.l 0))]) .skip))) (.seq 
(.reg [] [(q3_4,(.t q3_1))]) .ret)))), [(q3_4, none)]⟩
def a196 : FN := ⟨full 3, [some q3_0,some q3_3], (.seq 
(.reg [] [(q3_7,k0)]) (.seq (.seq 
(.reg [⟨none, .len (.t q3_0)⟩] [(q3_1,k0),(q3_2,(.l 0))]) (.block 0 (.loop (.seq 
(.reg [⟨none, .bin .lt (.t q3_1) (.t q3_2)⟩] [(q3_5,(.l 0))]) (.seq (.cond (.t q3_5) .skip (.exit 0)) (.seq (.block 1 (.seq 
(.reg [] [(q3_4,(.t q3_1))]) (.seq 
(.reg [⟨none, .ia 2 (.t q3_0) (.t q3_4)⟩,⟨none, .load 2 true (.l 0)⟩,⟨none, .call (.t q3_3) [(.l 0)]⟩] [(q3_6,(.l 0))]) (.cond (.t q3_6) (.seq 
(.reg [] [(q3_7,(.t q3_4))]) .ret) .skip)))) 
(.reg [⟨none, .bin .add (.t q3_1) k1⟩] [(q3_1,(.l 0))]))))))) (.seq 
(.reg [] [(q3_7,(.c (.int .i64 (.negSucc 0))))]) .ret))), [(q3_7, none)]⟩
def a198 : FN := ⟨full 1, [some q1_0], (.seq 
(.reg [] [(q1_1,(.c (.str [])))]) (.seq 
(.reg [⟨none, .mx (.t q1_0) k0⟩,⟨none, .call (.c (.fn 71 [])) [(.c (.str [0])),(.l 0)]⟩] [(q1_1,(.l 0))]) .ret)), [(q1_1, none)]⟩
def a199 : FN := ⟨full 3, [some q3_4,some q3_0,some q3_2], (.seq 
(.reg [⟨none, .bin .add (.t q3_0) k1⟩] [(q3_1,(.l 0))]) (.block 0 (.loop (.seq (.seq 
(.reg [⟨none, .bin .lt (.t q3_1) (.t q3_2)⟩] [(q3_5,(.l 0))]) (.cond (.t q3_5) .skip (.exit 0))) (.seq (.block 1 (.seq 
(.reg [] [(q3_3,(.t q3_1))]) (.block 2 (.loop (.seq (.seq 
(.drw [(⟨none, .bin .gt (.t q3_3) (.t q3_0)⟩,[]),(⟨(some ((.l 0),true)), .mov (.t q3_4)⟩,[]),(⟨(some ((.l 1),true)), .mov (.t q3_3)⟩,[]),(⟨(some ((.l 2),true)), .ia 1 (.l 1) (.l 0)⟩,[]),(⟨(some ((.l 3),true)), .load 1 false (.l 0)⟩,[]),(⟨(some ((.l 4),true)), .mov (.t q3_4)⟩,[]),(⟨(some ((.l 5),true)), .mov (.t q3_3)⟩,[]),(⟨(some ((.l 6),true)), .bin .sub (.l 0) k1⟩,[]),(⟨(some ((.l 7),true)), .ia 1 (.l 2) (.l 0)⟩,[]),(⟨(some ((.l 8),true)), .load 1 false (.l 0)⟩,[]),(⟨(some ((.l 9),true)), .call (.c (.fn 205 [])) [(.l 5),(.l 0)]⟩,[]),(⟨none, .pick (.l 10) (.l 0) (.c (.bool false))⟩,[])] [(q3_6,(.l 0))]) (.cond (.t q3_6) .skip (.exit 2))) (.seq (.block 3 
(.drw [(⟨none, .bin .sub (.t q3_3) k1⟩,[]),(⟨none, .ia 1 (.t q3_4) (.l 0)⟩,[]),(⟨none, .load 1 false (.l 0)⟩,[]),(⟨none, .ia 1 (.t q3_4) (.t q3_3)⟩,[]),(⟨none, .load 1 false (.l 0)⟩,[]),(⟨none, .ia 1 (.t q3_4) (.t q3_3)⟩,[]),(⟨none, .store 1 (.l 0) (.l 3)⟩,[]),(⟨none, .bin .sub (.t q3_3) k1⟩,[6]),(⟨none, .ia 1 (.t q3_4) (.l 0)⟩,[]),(⟨none, .store 1 (.l 0) (.l 4)⟩,[])] [])) 
(.reg [⟨none, .bin .sub (.t q3_3) k1⟩] [(q3_3,(.l 0))]))))))) 
(.reg [⟨none, .bin .add (.t q3_1) k1⟩] [(q3_1,(.l 0))])))))), []⟩
def a205 : FN := ⟨full 2, [some q2_0,some q2_1], (.seq 
(.reg [] [(q2_2,(.c (.bool false)))]) (.seq 
(.reg [⟨none, .call (.c (.fn 219 [])) [(.t q2_0)]⟩,⟨(some ((.l 0),true)), .mov (.t q2_1)⟩,⟨(some ((.l 1),true)), .call (.c (.fn 219 [])) [(.l 0)]⟩,⟨(some ((.l 2),true)), .not (.l 0)⟩,⟨none, .pick (.l 3) (.l 0) (.c (.bool false))⟩,⟨(some ((.l 0),false)), .mov (.t q2_0)⟩,⟨(some ((.l 1),false)), .mov (.t q2_1)⟩,⟨(some ((.l 2),false)), .bin .lt (.l 1) (.l 0)⟩,⟨none, .pick (.l 3) (.c (.bool true)) (.l 0)⟩] [(q2_2,(.l 0))]) .ret)), [(q2_2, none)]⟩
def a209 : FN := ⟨full 3, [some q3_0], (.seq 
(.reg [] [(q3_1,k0)]) (.seq (.seq 
(.reg [⟨none, .bin .ge (.t q3_0) (.c (.int .u64 (.ofNat 4294967296)))⟩] [(q3_2,(.l 0))]) (.cond (.t q3_2) (.seq 
(.reg [⟨none, .bin .shr (.t q3_0) (.c (.int .u64 (.ofNat 32)))⟩] [(q3_0,(.l 0))]) 
(.reg [] [(q3_1,(.c (.int .i64 (.ofNat 32))))])) .skip)) (.seq (.seq 
(.reg [⟨none, .bin .ge (.t q3_0) (.c (.int .u64 (.ofNat 65536)))⟩] [(q3_3,(.l 0))]) (.cond (.t q3_3) (.seq 
(.reg [⟨none, .bin .shr (.t q3_0) (.c (.int .u64 (.ofNat 16)))⟩] [(q3_0,(.l 0))]) 
(.reg [⟨none, .bin .add (.t q3_1) (.c (.int .i64 (.ofNat 16)))⟩] [(q3_1,(.l 0))])) .skip)) (.seq (.seq 
(.reg [⟨none, .bin .ge (.t q3_0) (.c (.int .u64 (.ofNat 256)))⟩] [(q3_4,(.l 0))]) (.cond (.t q3_4) (.seq 
(.reg [⟨none, .bin .shr (.t q3_0) (.c (.int .u64 (.ofNat 8)))⟩] [(q3_0,(.l 0))]) 
(.reg [⟨none, .bin .add (.t q3_1) k8⟩] [(q3_1,(.l 0))])) .skip)) (.seq 
(.reg [⟨none, .conv .u8 (.t q3_0)⟩,⟨none, .idx (.c (.str [0,1,2,2,3,3,3,3,4,4,4,4,4,4,4,4,5,5,5,5,5,5,5,5,5,5,5,5,5,5,5,5,6,6,6,6,6,6,6,6,6,6,6,6,6,6,6,6,6,6,6,6,6,6,6,6,6,6,6,6,6,6,6,6,7,7,7,7,7,7,7,7,7,7,7,7,7,7,7,7,7,7,7,7,7,7,7,7,7,7,7,7,7,7,7,7,7,7,7,7,7,7,7,7,7,7,7,7,7,7,7,7,7,7,7,7,7,7,7,7,7,7,7,7,7,7,7,7,8,8,8,8,8,8,8,8,8,8,8,8,8,8,8,8,8,8,8,8,8,8,8,8,8,8,8,8,8,8,8,8,8,8,8,8,8,8,8,8,8,8,8,8,8,8,8,8,8,8,8,8,8,8,8,8,8,8,8,8,8,8,8,8,8,8,8,8,8,8,8,8,8,8,8,8,8,8,8,8,8,8,8,8,8,8,8,8,8,8,8,8,8,8,8,8,8,8,8,8,8,8,8,8,8,8,8,8,8,8,8,8,8,8,8,8,8,8,8,8,8,8,8,8,8,8,8,8])) (.l 0)⟩,⟨none, .conv .i64 (.l 0)⟩,⟨none, .bin .add (.t q3_1) (.l 0)⟩] [(q3_1,(.l 0))]) .ret))))), [(q3_1, none)]⟩
def a219 : FN := ⟨full 1, [some q1_0], (.seq 
(.reg [] [(q1_1,(.c (.bool false)))]) (.seq 
(.reg [⟨none, .bin .ne (.t q1_0) (.t q1_0)⟩] [(q1_1,(.l 0))]) .ret)), [(q1_1, none)]⟩
end Go.Pal
