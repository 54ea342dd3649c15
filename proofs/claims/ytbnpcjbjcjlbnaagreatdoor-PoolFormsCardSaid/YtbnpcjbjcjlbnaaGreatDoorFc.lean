/-
  The small code of the program: its functions, printed by a program of our own.
-/
import Derived.Test.YtbnpcjbjcjlbnaaGreatDoorProg
import Derived.Test.YtbnpcjbjcjlbnaaGreatDoorT
import Derived.KernelRfl
namespace Go.Proofs
end Go.Proofs
namespace Go.Pal
open Go.Proofs
set_option maxRecDepth 100000
def d3 : Aid := ⟨5, [(1,q5_0),(11,q5_1),(14,q5_2),(9,q5_3),(17,q5_4),(18,q5_5),(21,q5_6),(20,q5_7),(2,q5_8),(4,q5_9),(6,q5_10),(8,q5_11),(10,q5_12),(13,q5_13),(16,q5_14),(15,q5_15),(23,q5_16),(83,q5_17),(85,q5_18),(130,q5_19),(0,q5_20)], [(19,[2, 3, 0, 1, 4, 5, 6, 7, 8, 9]),(20,[3, 4, 0, 1, 2, 5, 6, 7, 8, 9, 11, 12, 10, 13]),(23,[0, 1, 2, 3, 4, 5, 6, 7, 8, 9, 10, 11, 12, 13, 14, 15, 16, 17, 18, 19, 20, 21, 22, 23, 24, 25, 26, 27, 28, 29, 30, 31, 32, 33, 34, 35, 36, 37, 38, 39, 40, 41, 42, 43, 44, 45, 46, 47, 48, 54, 49, 50, 51, 52, 53, 55, 56, 57, 58, 59, 60, 61, 62, 63, 64, 65, 66, 67, 68, 69, 70, 71, 72, 73, 74, 75, 76, 77, 78, 79, 80, 81, 82, 83, 84, 85, 86, 87, 88, 89, 90, 91, 92, 93, 94, 95, 96, 97, 98, 99, 100, 101, 102, 103, 104, 105, 106, 107])]⟩
def d4 : Aid := ⟨3, [(1,q3_0),(2,q3_1),(4,q3_2),(6,q3_3),(5,q3_4),(0,q3_5)], []⟩
def d5 : Aid := ⟨4, [(1,q4_0),(0,q4_1),(6,q4_2),(4,q4_3),(29,q4_4),(8,q4_5),(9,q4_6),(7,q4_7),(11,q4_8),(10,q4_9),(16,q4_10),(30,q4_11),(53,q4_12),(5,q4_13)], []⟩
def d6 : Aid := ⟨4, [(0,q4_0),(2,q4_1),(4,q4_2),(7,q4_3),(1,q4_4),(6,q4_5),(16,q4_6),(22,q4_7),(27,q4_8),(5,q4_9)], []⟩
def d7 : Aid := ⟨4, [(0,q4_0),(2,q4_1),(1,q4_2),(7,q4_3),(6,q4_4),(20,q4_5),(30,q4_6),(40,q4_7),(4,q4_8),(5,q4_9)], []⟩
def d8 : Aid := ⟨3, [(0,q3_0),(1,q3_1),(15,q3_2),(17,q3_3),(4,q3_4)], []⟩
def d9 : Aid := ⟨4, [(0,q4_0),(6,q4_1),(2,q4_2),(5,q4_3),(4,q4_4),(7,q4_5),(9,q4_6),(17,q4_7),(26,q4_8),(44,q4_9),(3,q4_10)], [(7,[0, 1, 2, 3, 4, 5, 6, 7, 8, 9, 10, 11, 12, 13, 14])]⟩
def d10 : Aid := ⟨3, [(0,q3_0),(1,q3_1),(7,q3_2),(2,q3_3),(20,q3_4),(6,q3_5)], []⟩
def d11 : Aid := ⟨2, [(0,q2_0),(1,q2_1),(12,q2_2),(4,q2_3)], []⟩
def d12 : Aid := ⟨3, [(0,q3_0),(1,q3_1),(5,q3_2),(10,q3_3),(14,q3_4),(25,q3_5),(4,q3_6)], [(6,[0, 1, 2, 3, 4, 5, 6, 7, 8])]⟩
def d13 : Aid := ⟨1, [(1,q1_0),(0,q1_1)], []⟩
def d14 : Aid := ⟨2, [(0,q2_0),(1,q2_1),(3,q2_2),(2,q2_3)], [(2,[0, 1, 2, 3, 4, 5])]⟩
def d15 : Aid := ⟨3, [(0,q3_0),(1,q3_1),(2,q3_2),(3,q3_3),(5,q3_4),(6,q3_5),(7,q3_6),(4,q3_7)], [(1,[0, 1, 4, 5, 6, 2, 3, 7])]⟩
def d16 : Aid := ⟨2, [(0,q2_0),(1,q2_1),(18,q2_2),(4,q2_3)], []⟩
def d17 : Aid := ⟨3, [(0,q3_0),(3,q3_1),(2,q3_2),(4,q3_3),(6,q3_4),(10,q3_5)], [(7,[0, 1, 2, 3, 4, 5, 6, 7])]⟩
def d18 : Aid := ⟨1, [(1,q1_0),(0,q1_1)], []⟩
def d19 : Aid := ⟨3, [(0,q3_0),(1,q3_1),(5,q3_2),(16,q3_3),(20,q3_4),(4,q3_5)], []⟩
def d20 : Aid := ⟨3, [(0,q3_0),(1,q3_1),(6,q3_2),(5,q3_3),(17,q3_4),(4,q3_5)], []⟩
def d21 : Aid := ⟨4, [(0,q4_0),(3,q4_1),(8,q4_2),(6,q4_3),(9,q4_4),(1,q4_5),(2,q4_6),(11,q4_7),(10,q4_8),(18,q4_9),(23,q4_10),(27,q4_11),(33,q4_12),(46,q4_13),(80,q4_14),(7,q4_15)], [(1,[0, 1, 2, 3, 6, 7, 4, 5, 8]),(13,[1, 2, 3, 0, 4, 5, 6, 7, 8, 9, 10, 11, 12, 13, 14, 15, 16, 17, 18, 19, 20, 21, 22, 23, 24, 25, 26, 27, 28, 29, 30, 31, 32])]⟩
def d22 : Aid := ⟨4, [(0,q4_0),(1,q4_1),(2,q4_2),(6,q4_3),(3,q4_4),(8,q4_5),(7,q4_6),(4,q4_7),(9,q4_8),(31,q4_9),(50,q4_10),(5,q4_11)], []⟩
def d23 : Aid := ⟨3, [(0,q3_0),(1,q3_1),(48,q3_2),(47,q3_3),(3,q3_4),(2,q3_5),(49,q3_6)], [(1,[0, 1, 2, 3, 4, 5, 6, 7, 8, 9, 10, 11, 12, 13, 14, 15, 16, 17, 18, 19]),(2,[0, 1, 2, 3, 4, 5, 6, 7, 8, 9, 10, 11, 12, 13, 14, 15, 16, 17, 18]),(7,[3, 4, 5, 6, 7, 8, 9, 0, 1, 2, 10, 11, 12])]⟩
def d24 : Aid := ⟨1, [(0,q1_0),(2,q1_1)], []⟩
def d25 : Aid := ⟨4, [(8,q4_0),(0,q4_1),(9,q4_2),(1,q4_3),(11,q4_4),(10,q4_5),(7,q4_6),(15,q4_7),(34,q4_8),(37,q4_9),(4,q4_10),(5,q4_11),(6,q4_12)], [(13,[0, 1, 2, 3, 4, 5, 6, 7, 8])]⟩
def d26 : Aid := ⟨4, [(8,q4_0),(1,q4_1),(0,q4_2),(11,q4_3),(9,q4_4),(12,q4_5),(7,q4_6),(10,q4_7),(15,q4_8),(25,q4_9),(52,q4_10),(4,q4_11),(5,q4_12),(6,q4_13)], [(8,[0, 1, 2, 3, 4, 5, 6, 7, 8, 9, 10, 11, 12, 13, 14, 15, 16, 17, 18, 19, 20, 21, 22, 23, 24, 25])]⟩
def d27 : Aid := ⟨2, [(0,q2_0),(1,q2_1),(5,q2_2),(2,q2_3)], [(3,[0, 1, 2, 3, 4, 5, 6, 7, 8, 9, 10, 11, 12, 13, 14])]⟩
def d28 : Aid := ⟨1, [(0,q1_0),(2,q1_1)], []⟩
def d29 : Aid := ⟨2, [(0,q2_0),(3,q2_1),(2,q2_2)], []⟩
def d30 : Aid := ⟨4, [(0,q4_0),(1,q4_1),(6,q4_2),(7,q4_3),(8,q4_4),(5,q4_5),(13,q4_6),(17,q4_7),(30,q4_8),(34,q4_9),(4,q4_10)], []⟩
def d31 : Aid := ⟨3, [(0,q3_0),(8,q3_1),(7,q3_2),(6,q3_3),(3,q3_4),(5,q3_5),(9,q3_6),(2,q3_7)], []⟩
def d32 : Aid := ⟨4, [(1,q4_0),(3,q4_1),(0,q4_2),(5,q4_3),(21,q4_4),(20,q4_5),(6,q4_6),(8,q4_7),(15,q4_8),(22,q4_9),(4,q4_10)], []⟩
def d33 : Aid := ⟨1, [(0,q1_0),(2,q1_1)], []⟩
def d34 : Aid := ⟨4, [(0,q4_0),(1,q4_1),(13,q4_2),(12,q4_3),(5,q4_4),(10,q4_5),(14,q4_6),(24,q4_7),(4,q4_8)], [(6,[0, 1, 2, 3, 4, 5, 6, 7, 8])]⟩
def d35 : Aid := ⟨4, [(0,q4_0),(1,q4_1),(13,q4_2),(12,q4_3),(5,q4_4),(10,q4_5),(14,q4_6),(24,q4_7),(4,q4_8)], [(6,[0, 1, 2, 3, 4, 5, 6, 7, 8])]⟩
def d36 : Aid := ⟨4, [(0,q4_0),(1,q4_1),(2,q4_2),(3,q4_3),(14,q4_4),(7,q4_5),(5,q4_6),(6,q4_7),(15,q4_8),(24,q4_9),(4,q4_10)], [(1,[0, 1, 2, 3, 4, 5, 6, 7, 8, 9]),(5,[0, 1, 2, 3, 4, 5, 6, 7])]⟩
def d37 : Aid := ⟨2, [(0,q2_0),(1,q2_1),(4,q2_2)], []⟩
def d38 : Aid := ⟨3, [(0,q3_0),(9,q3_1),(8,q3_2),(3,q3_3),(5,q3_4),(10,q3_5),(2,q3_6)], []⟩
def d39 : Aid := ⟨4, [(0,q4_0),(7,q4_1),(5,q4_2),(1,q4_3),(29,q4_4),(28,q4_5),(27,q4_6),(9,q4_7),(11,q4_8),(8,q4_9),(10,q4_10),(26,q4_11),(30,q4_12),(40,q4_13),(4,q4_14)], []⟩
def d40 : Aid := ⟨1, [(0,q1_0),(2,q1_1)], []⟩
def d41 : Aid := ⟨4, [(0,q4_0),(2,q4_1),(4,q4_2),(1,q4_3),(15,q4_4),(14,q4_5),(13,q4_6),(7,q4_7),(11,q4_8),(16,q4_9),(29,q4_10),(39,q4_11),(46,q4_12),(5,q4_13)], []⟩
def d42 : Aid := ⟨3, [(0,q3_0),(1,q3_1),(2,q3_2),(6,q3_3),(10,q3_4),(3,q3_5)], []⟩
def d43 : Aid := ⟨4, [(0,q4_0),(8,q4_1),(7,q4_2),(6,q4_3),(5,q4_4),(3,q4_5),(9,q4_6),(22,q4_7),(2,q4_8)], []⟩
def d44 : Aid := ⟨3, [(0,q3_0),(2,q3_1),(9,q3_2),(8,q3_3),(6,q3_4),(1,q3_5),(35,q3_6),(7,q3_7)], [(1,[6, 7, 8, 9, 10, 11, 12, 13, 0, 1, 2, 3, 4, 5, 14, 15, 16, 17, 18, 19, 20, 21, 22, 24, 25, 23, 26]),(4,[1, 2, 3, 4, 5, 6, 7, 8, 0, 9, 10, 11, 12]),(5,[1, 2, 3, 4, 5, 6, 7, 0, 10, 8, 9, 11])]⟩
def d45 : Aid := ⟨4, [(1,q4_0),(0,q4_1),(3,q4_2),(5,q4_3),(6,q4_4),(108,q4_5),(107,q4_6),(106,q4_7),(10,q4_8),(8,q4_9),(7,q4_10),(9,q4_11),(109,q4_12),(4,q4_13)], [(1,[0, 2, 3, 4, 5, 6, 7, 8, 9, 10, 11, 12, 15, 16, 17, 18, 1, 13, 14, 19, 20, 21, 22]),(2,[5, 6, 7, 8, 9, 10, 11, 12, 0, 1, 2, 3, 4, 13, 14, 15]),(3,[10, 11, 12, 13, 14, 15, 0, 3, 4, 5, 6, 7, 16, 17, 18, 19, 20, 1, 8, 9, 21, 22, 23, 24, 25, 2, 26, 27, 28, 29, 30]),(4,[5, 6, 7, 8, 9, 10, 0, 1, 2, 3, 4, 11, 12, 13]),(5,[1, 2, 3, 4, 5, 6, 0, 7, 8, 9, 10]),(11,[5, 6, 0, 1, 2, 3, 4, 7, 8, 9, 10])]⟩
def d46 : Aid := ⟨2, [(1,q2_0),(0,q2_1),(3,q2_2),(4,q2_3)], [(1,[1, 2, 3, 4, 0, 5, 6, 8, 9, 10, 11, 7, 12, 13, 14])]⟩
def d47 : Aid := ⟨4, [(0,q4_0),(1,q4_1),(2,q4_2),(3,q4_3),(7,q4_4),(6,q4_5),(8,q4_6),(4,q4_7),(30,q4_8),(49,q4_9),(5,q4_10)], []⟩
def d48 : Aid := ⟨4, [(0,q4_0),(1,q4_1),(14,q4_2),(13,q4_3),(12,q4_4),(2,q4_5),(7,q4_6),(8,q4_7),(6,q4_8),(5,q4_9),(15,q4_10),(4,q4_11)], [(6,[9, 10, 11, 12, 13, 14, 15, 16, 17, 18, 19, 20, 21, 22, 23, 24, 0, 1, 2, 3, 4, 7, 8, 25, 26, 27, 5, 28, 29, 30, 6, 31, 32, 33])]⟩
def d49 : Aid := ⟨3, [(0,q3_0),(1,q3_1),(3,q3_2),(4,q3_3),(2,q3_4),(13,q3_5),(6,q3_6),(7,q3_7)], [(1,[2, 3, 0, 1, 4, 5])]⟩
def d50 : Aid := ⟨4, [(1,q4_0),(12,q4_1),(9,q4_2),(0,q4_3),(7,q4_4),(6,q4_5),(8,q4_6),(4,q4_7),(10,q4_8),(13,q4_9),(25,q4_10),(41,q4_11),(5,q4_12)], []⟩
def d51 : Aid := ⟨2, [(0,q2_0),(1,q2_1),(2,q2_2)], []⟩
def d52 : Aid := ⟨2, [(0,q2_0),(4,q2_1),(2,q2_2)], []⟩
def d53 : Aid := ⟨2, [(0,q2_0),(4,q2_1),(2,q2_2)], []⟩
def d54 : Aid := ⟨2, [(0,q2_0),(4,q2_1),(2,q2_2)], []⟩
def d55 : Aid := ⟨2, [(0,q2_0),(4,q2_1),(2,q2_2)], []⟩
def d56 : Aid := ⟨2, [(0,q2_0),(4,q2_1),(2,q2_2)], []⟩
def d57 : Aid := ⟨2, [(0,q2_0),(1,q2_1),(2,q2_2)], []⟩
def d58 : Aid := ⟨2, [(0,q2_0),(1,q2_1),(2,q2_2)], []⟩
def d59 : Aid := ⟨3, [(4,q3_0),(0,q3_1),(3,q3_2),(5,q3_3),(9,q3_4),(17,q3_5),(2,q3_6)], []⟩
def d60 : Aid := ⟨1, [(0,q1_0),(2,q1_1)], []⟩
def d61 : Aid := ⟨1, [(0,q1_0),(2,q1_1)], []⟩
def d62 : Aid := ⟨4, [(0,q4_0),(1,q4_1),(16,q4_2),(15,q4_3),(4,q4_4),(12,q4_5),(17,q4_6),(29,q4_7),(2,q4_8)], [(9,[0, 1, 2, 3, 4, 5, 6, 7, 8, 9, 10, 11, 12, 13, 14, 15, 16, 17, 18, 19, 20, 21, 22, 23, 24, 25, 26, 27, 28, 29])]⟩
def d63 : Aid := ⟨2, [(0,q2_0),(1,q2_1),(2,q2_2)], []⟩
def d64 : Aid := ⟨2, [(0,q2_0),(1,q2_1),(2,q2_2)], []⟩
def d65 : Aid := ⟨2, [(0,q2_0),(1,q2_1),(4,q2_2)], []⟩
def d66 : Aid := ⟨2, [(0,q2_0),(1,q2_1),(4,q2_2)], []⟩
def d67 : Aid := ⟨4, [(0,q4_0),(1,q4_1),(17,q4_2),(16,q4_3),(15,q4_4),(7,q4_5),(2,q4_6),(8,q4_7),(9,q4_8),(14,q4_9),(18,q4_10),(30,q4_11),(6,q4_12)], []⟩
def d68 : Aid := ⟨3, [(0,q3_0),(1,q3_1),(2,q3_2),(3,q3_3),(4,q3_4)], []⟩
def d69 : Aid := ⟨2, [(0,q2_0),(1,q2_1),(4,q2_2)], []⟩
def d70 : Aid := ⟨4, [(0,q4_0),(5,q4_1),(4,q4_2),(28,q4_3),(27,q4_4),(26,q4_5),(6,q4_6),(8,q4_7),(7,q4_8),(41,q4_9),(9,q4_10),(3,q4_11),(2,q4_12),(15,q4_13),(29,q4_14),(42,q4_15)], []⟩
def d72 : Aid := ⟨4, [(0,q4_0),(11,q4_1),(10,q4_2),(9,q4_3),(6,q4_4),(7,q4_5),(2,q4_6),(3,q4_7),(12,q4_8),(23,q4_9),(4,q4_10)], []⟩
def d73 : Aid := ⟨2, [(0,q2_0),(1,q2_1),(2,q2_2)], [(1,[0, 1, 2, 3, 4, 5, 6, 7, 8, 9])]⟩
def d74 : Aid := ⟨2, [(0,q2_0),(1,q2_1),(2,q2_2),(4,q2_3)], []⟩
def d75 : Aid := ⟨4, [(0,q4_0),(11,q4_1),(10,q4_2),(9,q4_3),(5,q4_4),(1,q4_5),(4,q4_6),(12,q4_7),(21,q4_8)], [(3,[0, 1, 2, 3, 4, 5]),(4,[16, 17, 18, 6, 7, 8, 9, 10, 11, 12, 13, 14, 15, 19, 0, 1, 2, 3, 4, 5, 20, 21])]⟩
def d76 : Aid := ⟨0, [(2,q0_0)], []⟩
def d77 : Aid := ⟨3, [(0,q3_0),(1,q3_1),(34,q3_2),(31,q3_3),(35,q3_4),(58,q3_5),(2,q3_6)], []⟩
def d78 : Aid := ⟨4, [(2,q4_0),(0,q4_1),(1,q4_2),(8,q4_3),(3,q4_4),(10,q4_5),(50,q4_6),(49,q4_7),(48,q4_8),(11,q4_9),(13,q4_10),(14,q4_11),(30,q4_12),(51,q4_13),(83,q4_14),(9,q4_15)], [(16,[1, 2, 3, 4, 5, 6, 7, 8, 9, 10, 11, 0, 12, 13, 14, 15])]⟩
def d79 : Aid := ⟨3, [(0,q3_0),(2,q3_1),(1,q3_2),(5,q3_3),(4,q3_4)], [(2,[0, 1, 3, 4, 5, 6, 7, 8, 9, 10, 11, 2, 12, 13])]⟩
def d80 : Aid := ⟨3, [(1,q3_0),(0,q3_1),(3,q3_2),(8,q3_3),(4,q3_4)], [(3,[0, 1, 2, 3, 4, 5, 6, 7, 9, 10, 11, 12, 14, 15, 16, 17, 8, 13, 18, 19])]⟩
def d81 : Aid := ⟨2, [(1,q2_0),(3,q2_1),(0,q2_2),(4,q2_3)], [(1,[1, 2, 0, 3, 4, 5, 6])]⟩
def d82 : Aid := ⟨3, [(0,q3_0),(1,q3_1),(3,q3_2),(30,q3_3),(40,q3_4),(2,q3_5)], [(6,[0, 1, 2, 3, 4, 5, 6, 7, 10, 11, 12, 13, 8, 9, 14, 15])]⟩
def d83 : Aid := ⟨2, [(0,q2_0),(1,q2_1),(2,q2_2)], []⟩
def d84 : Aid := ⟨4, [(1,q4_0),(0,q4_1),(4,q4_2),(2,q4_3),(8,q4_4),(7,q4_5),(24,q4_6),(27,q4_7),(6,q4_8)], [(7,[1, 2, 3, 4, 5, 6, 7, 0, 8, 9, 10, 11])]⟩
def d85 : Aid := ⟨4, [(0,q4_0),(6,q4_1),(2,q4_2),(5,q4_3),(4,q4_4),(7,q4_5),(8,q4_6),(10,q4_7),(18,q4_8),(27,q4_9),(36,q4_10),(63,q4_11),(3,q4_12)], [(10,[0, 1, 2, 3, 4, 5, 6, 7, 8, 9, 10, 11, 12, 13, 14, 15, 16, 17, 18, 19, 20, 21, 22, 23])]⟩
def d86 : Aid := ⟨5, [(0,q5_0),(4,q5_1),(5,q5_2),(22,q5_3),(21,q5_4),(6,q5_5),(9,q5_6),(8,q5_7),(2,q5_8),(7,q5_9),(3,q5_10),(10,q5_11),(18,q5_12),(23,q5_13),(31,q5_14),(39,q5_15),(68,q5_16)], [(12,[0, 1, 2, 3, 4, 5, 6, 7, 8, 9, 10, 11, 12, 13, 14, 15, 16, 17, 18, 19, 20, 21, 22, 23, 24, 25])]⟩
def d87 : Aid := ⟨5, [(0,q5_0),(1,q5_1),(2,q5_2),(3,q5_3),(6,q5_4),(9,q5_5),(5,q5_6),(4,q5_7),(8,q5_8),(36,q5_9),(35,q5_10),(34,q5_11),(10,q5_12),(11,q5_13),(29,q5_14),(37,q5_15),(47,q5_16),(54,q5_17)], [(1,[1, 0, 2, 3, 4, 5, 6])]⟩
def d88 : Aid := ⟨4, [(0,q4_0),(1,q4_1),(4,q4_2),(3,q4_3),(8,q4_4),(9,q4_5),(10,q4_6),(2,q4_7),(13,q4_8),(29,q4_9),(6,q4_10),(7,q4_11)], []⟩
def d89 : Aid := ⟨4, [(0,q4_0),(1,q4_1),(22,q4_2),(21,q4_3),(8,q4_4),(7,q4_5),(18,q4_6),(23,q4_7),(33,q4_8),(36,q4_9),(4,q4_10),(5,q4_11),(6,q4_12)], [(12,[0, 1, 3, 4, 2, 5, 6, 7, 8])]⟩
def d90 : Aid := ⟨4, [(4,q4_0),(0,q4_1),(3,q4_2),(6,q4_3),(8,q4_4),(7,q4_5),(9,q4_6),(5,q4_7),(2,q4_8),(13,q4_9),(25,q4_10),(29,q4_11),(39,q4_12),(49,q4_13)], []⟩
def d91 : Aid := ⟨4, [(0,q4_0),(8,q4_1),(7,q4_2),(6,q4_3),(5,q4_4),(3,q4_5),(9,q4_6),(27,q4_7),(2,q4_8)], []⟩
def d92 : Aid := ⟨2, [(0,q2_0),(1,q2_1),(4,q2_2)], []⟩
def d93 : Aid := ⟨2, [(0,q2_0),(1,q2_1),(4,q2_2)], []⟩
def d94 : Aid := ⟨4, [(0,q4_0),(2,q4_1),(7,q4_2),(6,q4_3),(1,q4_4),(5,q4_5),(13,q4_6),(33,q4_7),(4,q4_8)], [(6,[1, 2, 3, 4, 5, 6, 7, 8, 9, 10, 11, 12, 13, 14, 15, 16, 0, 17]),(7,[0, 1, 2, 3, 4, 5, 6, 7, 8, 9, 10, 11, 12])]⟩
def d95 : Aid := ⟨2, [(0,q2_0),(1,q2_1),(4,q2_2)], []⟩
def d96 : Aid := ⟨4, [(0,q4_0),(1,q4_1),(13,q4_2),(12,q4_3),(5,q4_4),(10,q4_5),(14,q4_6),(24,q4_7),(4,q4_8)], [(6,[0, 1, 2, 3, 4, 5, 6, 7, 8])]⟩
def d97 : Aid := ⟨4, [(0,q4_0),(1,q4_1),(13,q4_2),(12,q4_3),(5,q4_4),(10,q4_5),(14,q4_6),(24,q4_7),(4,q4_8)], [(6,[0, 1, 2, 3, 4, 5, 6, 7, 8])]⟩
def d98 : Aid := ⟨5, [(0,q5_0),(12,q5_1),(1,q5_2),(5,q5_3),(41,q5_4),(40,q5_5),(39,q5_6),(7,q5_7),(8,q5_8),(65,q5_9),(64,q5_10),(63,q5_11),(10,q5_12),(13,q5_13),(15,q5_14),(22,q5_15),(29,q5_16),(42,q5_17),(49,q5_18),(66,q5_19),(4,q5_20)], []⟩
def d105 : Aid := ⟨3, [(0,q3_0),(1,q3_1),(2,q3_2),(7,q3_3),(8,q3_4),(9,q3_5),(6,q3_6)], [(2,[0, 1, 2, 3, 4, 5, 6, 7, 8, 9, 10]),(3,[0, 1, 2, 3, 4, 5, 6, 7, 8, 9, 10, 11])]⟩
def d106 : Aid := ⟨1, [(0,q1_0),(2,q1_1)], []⟩
def d109 : Aid := ⟨4, [(0,q4_0),(10,q4_1),(9,q4_2),(8,q4_3),(5,q4_4),(17,q4_5),(16,q4_6),(15,q4_7),(6,q4_8),(3,q4_9),(7,q4_10),(11,q4_11),(18,q4_12),(40,q4_13),(2,q4_14)], [(9,[0, 1, 2, 3, 4, 5, 6, 7, 8, 9, 10, 11, 12, 13, 14, 15, 16, 17, 18, 19, 20])]⟩
def d110 : Aid := ⟨4, [(1,q4_0),(0,q4_1),(20,q4_2),(19,q4_3),(18,q4_4),(8,q4_5),(9,q4_6),(6,q4_7),(17,q4_8),(21,q4_9),(35,q4_10),(4,q4_11),(5,q4_12)], []⟩
def d111 : Aid := ⟨4, [(1,q4_0),(3,q4_1),(15,q4_2),(14,q4_3),(13,q4_4),(0,q4_5),(6,q4_6),(7,q4_7),(5,q4_8),(8,q4_9),(9,q4_10),(4,q4_11),(16,q4_12)], [(6,[0, 1, 2, 3, 4, 5, 6, 7, 8, 9, 10, 11, 12]),(9,[1, 2, 3, 4, 5, 6, 7, 0, 8, 9, 10])]⟩
def d112 : Aid := ⟨3, [(1,q3_0),(0,q3_1),(2,q3_2),(7,q3_3),(8,q3_4),(6,q3_5),(27,q3_6)], [(3,[0, 1, 2, 3, 4, 5, 6, 7, 8, 9, 10, 11]),(4,[0, 1, 2, 3, 4, 5, 6, 7, 8, 9, 10, 11, 12]),(5,[2, 3, 4, 5, 6, 7, 8, 9, 10, 11, 12, 13, 14, 15, 16, 17, 0, 18, 19, 20, 21, 1, 22, 23, 24, 25])]⟩
def d113 : Aid := ⟨4, [(0,q4_0),(1,q4_1),(26,q4_2),(25,q4_3),(24,q4_4),(8,q4_5),(7,q4_6),(9,q4_7),(6,q4_8),(5,q4_9),(19,q4_10),(27,q4_11),(40,q4_12),(4,q4_13)], [(7,[0, 1, 2, 3, 4, 5, 6, 7]),(10,[1, 2, 0, 3, 4, 5, 6, 7, 8])]⟩
def d114 : Aid := ⟨2, [(0,q2_0),(4,q2_1),(2,q2_2)], []⟩
def d115 : Aid := ⟨4, [(0,q4_0),(13,q4_1),(12,q4_2),(11,q4_3),(5,q4_4),(3,q4_5),(14,q4_6),(22,q4_7),(2,q4_8)], []⟩
def d116 : Aid := ⟨1, [(0,q1_0),(2,q1_1)], []⟩
def d117 : Aid := ⟨2, [(1,q2_0),(3,q2_1),(0,q2_2),(4,q2_3)], []⟩
def d118 : Aid := ⟨4, [(0,q4_0),(1,q4_1),(5,q4_2),(31,q4_3),(30,q4_4),(7,q4_5),(6,q4_6),(26,q4_7),(32,q4_8),(37,q4_9),(4,q4_10)], [(9,[0, 1, 2, 3, 4, 5, 6, 7, 8, 9, 10])]⟩
def d119 : Aid := ⟨2, [(0,q2_0),(2,q2_1),(1,q2_2),(6,q2_3)], []⟩
def d120 : Aid := ⟨2, [(0,q2_0),(1,q2_1),(4,q2_2)], []⟩
def d121 : Aid := ⟨4, [(0,q4_0),(8,q4_1),(7,q4_2),(6,q4_3),(5,q4_4),(3,q4_5),(9,q4_6),(14,q4_7),(2,q4_8)], []⟩
def d122 : Aid := ⟨3, [(0,q3_0),(1,q3_1),(3,q3_2),(6,q3_3),(2,q3_4)], [(3,[0, 1, 2, 3, 4, 5, 6, 7, 8, 9, 10, 11, 12, 13, 14, 15, 16])]⟩
def d123 : Aid := ⟨2, [(0,q2_0),(1,q2_1),(2,q2_2)], []⟩
def d124 : Aid := ⟨3, [(0,q3_0),(1,q3_1),(7,q3_2),(2,q3_3),(20,q3_4),(6,q3_5)], []⟩
def d125 : Aid := ⟨2, [(0,q2_0),(1,q2_1),(2,q2_2)], []⟩
def d126 : Aid := ⟨5, [(0,q5_0),(6,q5_1),(1,q5_2),(8,q5_3),(7,q5_4),(30,q5_5),(29,q5_6),(28,q5_7),(10,q5_8),(39,q5_9),(38,q5_10),(37,q5_11),(11,q5_12),(13,q5_13),(4,q5_14),(27,q5_15),(31,q5_16),(40,q5_17),(5,q5_18)], [(13,[0, 1, 2, 3, 4, 5, 6, 7, 8])]⟩
def d127 : Aid := ⟨4, [(1,q4_0),(12,q4_1),(11,q4_2),(0,q4_3),(9,q4_4),(7,q4_5),(4,q4_6),(8,q4_7),(13,q4_8),(28,q4_9),(5,q4_10),(6,q4_11)], []⟩
def d128 : Aid := ⟨3, [(0,q3_0),(6,q3_1),(5,q3_2),(4,q3_3),(18,q3_4),(2,q3_5),(3,q3_6)], []⟩
def d130 : Aid := ⟨4, [(0,q4_0),(1,q4_1),(4,q4_2),(9,q4_3),(6,q4_4),(7,q4_5),(8,q4_6),(18,q4_7),(49,q4_8),(72,q4_9)], [(3,[0, 1, 2, 3, 4, 5, 6, 7, 8, 9, 10, 11, 12, 13, 14, 15, 16]),(12,[0, 1, 2, 3, 4, 6, 7, 8, 9, 10, 11, 16, 17, 5, 12, 13, 14, 15, 18, 19, 20])]⟩
def d131 : Aid := ⟨1, [(0,q1_0),(2,q1_1)], []⟩
def d133 : Aid := ⟨3, [(0,q3_0),(5,q3_1),(3,q3_2),(4,q3_3),(2,q3_4),(6,q3_5),(22,q3_6),(45,q3_7)], [(4,[0, 1, 2, 3, 4, 5, 6, 7, 8, 9, 10, 11, 12, 13, 14])]⟩
def d134 : Aid := ⟨3, [(0,q3_0),(1,q3_1),(3,q3_2),(4,q3_3),(2,q3_4),(6,q3_5)], [(1,[0, 1, 2, 4, 5, 6, 3, 7, 8, 9, 10, 11, 12, 13, 14, 15, 16, 17, 18, 19, 20, 21, 22, 23, 24, 25, 26])]⟩
def d135 : Aid := ⟨1, [(0,q1_0),(2,q1_1)], []⟩
def d136 : Aid := ⟨1, [(0,q1_0),(2,q1_1)], []⟩
def d137 : Aid := ⟨2, [(0,q2_0),(1,q2_1),(4,q2_2)], []⟩
def d138 : Aid := ⟨2, [(0,q2_0),(1,q2_1),(4,q2_2)], []⟩
def d139 : Aid := ⟨4, [(0,q4_0),(1,q4_1),(13,q4_2),(12,q4_3),(11,q4_4),(3,q4_5),(5,q4_6),(14,q4_7),(2,q4_8)], []⟩
def d140 : Aid := ⟨2, [(1,q2_0),(0,q2_1),(3,q2_2),(4,q2_3)], []⟩
def d141 : Aid := ⟨3, [(1,q3_0),(0,q3_1),(5,q3_2),(3,q3_3),(20,q3_4),(4,q3_5)], [(2,[0, 1, 2, 3, 4, 5, 6, 7, 8, 9, 10, 11, 12])]⟩
def d147 : Aid := ⟨5, [(0,q5_0),(1,q5_1),(23,q5_2),(22,q5_3),(21,q5_4),(4,q5_5),(40,q5_6),(39,q5_7),(38,q5_8),(5,q5_9),(6,q5_10),(18,q5_11),(24,q5_12),(35,q5_13),(41,q5_14),(62,q5_15),(2,q5_16)], []⟩
def d149 : Aid := ⟨5, [(2,q5_0),(5,q5_1),(8,q5_2),(6,q5_3),(21,q5_4),(20,q5_5),(9,q5_6),(0,q5_7),(1,q5_8),(41,q5_9),(40,q5_10),(39,q5_11),(11,q5_12),(12,q5_13),(16,q5_14),(22,q5_15),(42,q5_16),(57,q5_17),(91,q5_18),(7,q5_19)], []⟩
def d150 : Aid := ⟨4, [(0,q4_0),(12,q4_1),(11,q4_2),(10,q4_3),(6,q4_4),(1,q4_5),(4,q4_6),(13,q4_7),(19,q4_8)], []⟩
def d151 : Aid := ⟨2, [(1,q2_0),(0,q2_1),(3,q2_2),(4,q2_3)], [(1,[1, 2, 3, 4, 5, 6, 7, 8, 0, 9, 10, 11])]⟩
def d152 : Aid := ⟨2, [(0,q2_0),(2,q2_1),(1,q2_2),(4,q2_3)], []⟩
def d153 : Aid := ⟨2, [(0,q2_0),(1,q2_1),(2,q2_2)], [(1,[0, 1, 2, 3, 4, 5, 6, 7, 8, 9, 10, 11, 12, 13, 14, 15, 16, 17, 18, 19])]⟩
def d154 : Aid := ⟨1, [(0,q1_0),(2,q1_1)], []⟩
def d155 : Aid := ⟨4, [(0,q4_0),(3,q4_1),(5,q4_2),(4,q4_3),(8,q4_4),(13,q4_5),(25,q4_6),(32,q4_7),(44,q4_8),(2,q4_9)], [(6,[0, 1, 2, 3, 4, 5, 6, 7, 8, 9]),(11,[0, 1, 2, 3, 4, 5, 6, 7, 8, 9])]⟩
def d156 : Aid := ⟨2, [(0,q2_0),(1,q2_1),(5,q2_2),(2,q2_3)], []⟩
def d157 : Aid := ⟨3, [(0,q3_0),(1,q3_1),(16,q3_2),(15,q3_3),(3,q3_4),(5,q3_5),(17,q3_6),(2,q3_7)], []⟩
def d158 : Aid := ⟨2, [(0,q2_0),(1,q2_1),(2,q2_2)], []⟩
def d159 : Aid := ⟨2, [(0,q2_0),(1,q2_1),(2,q2_2)], []⟩
def d160 : Aid := ⟨2, [(0,q2_0),(1,q2_1),(5,q2_2),(2,q2_3)], [(3,[0, 1, 2, 3, 4, 5, 6, 7, 8, 9, 10, 11, 12, 13, 14, 15, 16, 17, 18])]⟩
def d161 : Aid := ⟨3, [(0,q3_0),(13,q3_1),(4,q3_2),(3,q3_3),(2,q3_4),(14,q3_5)], [(1,[0, 1, 2, 3, 4, 5, 6, 7, 8, 9])]⟩
def d162 : Aid := ⟨1, [(0,q1_0),(2,q1_1)], []⟩
def d163 : Aid := ⟨4, [(0,q4_0),(5,q4_1),(7,q4_2),(6,q4_3),(2,q4_4),(8,q4_5),(4,q4_6),(24,q4_7),(49,q4_8),(68,q4_9),(3,q4_10)], [(4,[0, 1, 2, 3, 4, 5, 6, 7, 8, 9, 10, 11, 12]),(9,[0, 1, 2, 3, 4, 5, 6, 7, 8, 9, 10, 11]),(11,[0, 5, 1, 2, 3, 4, 6, 7, 8])]⟩
def d164 : Aid := ⟨2, [(0,q2_0),(1,q2_1),(4,q2_2)], []⟩
def d165 : Aid := ⟨2, [(0,q2_0),(1,q2_1),(2,q2_2)], []⟩
def d167 : Aid := ⟨4, [(2,q4_0),(15,q4_1),(14,q4_2),(13,q4_3),(0,q4_4),(9,q4_5),(1,q4_6),(8,q4_7),(11,q4_8),(10,q4_9),(12,q4_10),(7,q4_11),(6,q4_12),(16,q4_13),(35,q4_14),(40,q4_15)], [(4,[0, 1, 2, 3, 4, 5, 6, 7, 8, 9, 10]),(11,[3, 4, 5, 0, 1, 2, 6, 7]),(12,[0, 1, 2, 3, 4, 5, 6])]⟩
def d168 : Aid := ⟨4, [(0,q4_0),(1,q4_1),(3,q4_2),(13,q4_3),(12,q4_4),(11,q4_5),(5,q4_6),(4,q4_7),(2,q4_8),(14,q4_9),(18,q4_10),(37,q4_11)], [(8,[3, 4, 0, 1, 2, 5, 6, 7])]⟩
def d170 : Aid := ⟨2, [(0,q2_0),(1,q2_1),(2,q2_2),(4,q2_3)], [(1,[2, 3, 4, 0, 1, 5, 6])]⟩
def d171 : Aid := ⟨4, [(0,q4_0),(11,q4_1),(10,q4_2),(9,q4_3),(3,q4_4),(5,q4_5),(27,q4_6),(26,q4_7),(25,q4_8),(6,q4_9),(8,q4_10),(12,q4_11),(20,q4_12),(28,q4_13),(2,q4_14)], []⟩
def d172 : Aid := ⟨2, [(0,q2_0),(1,q2_1),(4,q2_2)], []⟩
def d173 : Aid := ⟨2, [(0,q2_0),(2,q2_1),(1,q2_2),(3,q2_3)], []⟩
def d174 : Aid := ⟨2, [(0,q2_0),(2,q2_1),(1,q2_2),(4,q2_3)], []⟩
def d182 : Aid := ⟨4, [(3,q4_0),(8,q4_1),(0,q4_2),(20,q4_3),(19,q4_4),(18,q4_5),(10,q4_6),(1,q4_7),(11,q4_8),(2,q4_9),(13,q4_10),(21,q4_11),(41,q4_12)], []⟩
def d183 : Aid := ⟨3, [(1,q3_0),(0,q3_1),(5,q3_2),(16,q3_3),(30,q3_4),(4,q3_5)], []⟩
def d184 : Aid := ⟨4, [(0,q4_0),(1,q4_1),(13,q4_2),(12,q4_3),(5,q4_4),(10,q4_5),(14,q4_6),(24,q4_7),(4,q4_8)], [(6,[0, 1, 2, 3, 4, 5, 6, 7, 8])]⟩
def d185 : Aid := ⟨3, [(0,q3_0),(1,q3_1),(2,q3_2),(19,q3_3),(4,q3_4)], []⟩
def d186 : Aid := ⟨3, [(0,q3_0),(3,q3_1),(1,q3_2),(2,q3_3),(7,q3_4),(26,q3_5),(6,q3_6)], [(11,[0, 1, 2, 3, 4, 5, 6, 7, 8, 12, 13, 14, 16, 17, 9, 10, 11, 15, 18, 19])]⟩
def d187 : Aid := ⟨2, [(0,q2_0),(5,q2_1),(2,q2_2)], []⟩
def d188 : Aid := ⟨5, [(2,q5_0),(1,q5_1),(10,q5_2),(0,q5_3),(3,q5_4),(8,q5_5),(12,q5_6),(11,q5_7),(9,q5_8),(13,q5_9),(15,q5_10),(14,q5_11),(16,q5_12),(17,q5_13),(18,q5_14),(23,q5_15),(29,q5_16),(35,q5_17),(50,q5_18),(68,q5_19),(72,q5_20),(87,q5_21),(113,q5_22)], [(17,[0, 1, 2, 3, 4, 5, 6, 7, 8, 9, 10, 11, 12, 13, 14])]⟩
def d189 : Aid := ⟨1, [(0,q1_0),(2,q1_1)], []⟩
def d190 : Aid := ⟨3, [(0,q3_0),(8,q3_1),(7,q3_2),(1,q3_3),(5,q3_4),(9,q3_5),(16,q3_6),(4,q3_7)], []⟩
def d192 : Aid := ⟨1, [(0,q1_0),(2,q1_1)], []⟩
def d195 : Aid := ⟨3, [(1,q3_0),(0,q3_1),(6,q3_2),(16,q3_3),(4,q3_4)], []⟩
def d196 : Aid := ⟨3, [(0,q3_0),(8,q3_1),(7,q3_2),(1,q3_3),(5,q3_4),(9,q3_5),(16,q3_6),(4,q3_7)], []⟩
def d198 : Aid := ⟨1, [(0,q1_0),(2,q1_1)], []⟩
def d199 : Aid := ⟨3, [(1,q3_0),(6,q3_1),(2,q3_2),(7,q3_3),(0,q3_4),(12,q3_5),(30,q3_6)], [(4,[0, 1, 2, 3, 4, 5, 6, 7, 8, 9, 10, 11, 12, 13, 14]),(6,[0, 1, 5, 6, 7, 8, 9, 10, 11, 12, 13, 14, 15, 2, 3, 4, 16, 17])]⟩
def d205 : Aid := ⟨2, [(0,q2_0),(1,q2_1),(4,q2_2)], []⟩
def d209 : Aid := ⟨3, [(0,q3_0),(2,q3_1),(4,q3_2),(8,q3_3),(14,q3_4)], []⟩
def d219 : Aid := ⟨1, [(0,q1_0),(2,q1_1)], []⟩
theorem c3 : (Tryz.prog.funcs[3]?).bind (cF (tiOf Tryz.prog) d3) = some a3 := by kernel_rfl
theorem c4 : (Tryz.prog.funcs[4]?).bind (cF (tiOf Tryz.prog) d4) = some a4 := by kernel_rfl
theorem c5 : (Tryz.prog.funcs[5]?).bind (cF (tiOf Tryz.prog) d5) = some a5 := by kernel_rfl
theorem c6 : (Tryz.prog.funcs[6]?).bind (cF (tiOf Tryz.prog) d6) = some a6 := by kernel_rfl
theorem c7 : (Tryz.prog.funcs[7]?).bind (cF (tiOf Tryz.prog) d7) = some a7 := by kernel_rfl
theorem c8 : (Tryz.prog.funcs[8]?).bind (cF (tiOf Tryz.prog) d8) = some a8 := by kernel_rfl
theorem c9 : (Tryz.prog.funcs[9]?).bind (cF (tiOf Tryz.prog) d9) = some a9 := by kernel_rfl
theorem c10 : (Tryz.prog.funcs[10]?).bind (cF (tiOf Tryz.prog) d10) = some a10 := by kernel_rfl
theorem c11 : (Tryz.prog.funcs[11]?).bind (cF (tiOf Tryz.prog) d11) = some a11 := by kernel_rfl
theorem c12 : (Tryz.prog.funcs[12]?).bind (cF (tiOf Tryz.prog) d12) = some a12 := by kernel_rfl
theorem c13 : (Tryz.prog.funcs[13]?).bind (cF (tiOf Tryz.prog) d13) = some a13 := by kernel_rfl
theorem c14 : (Tryz.prog.funcs[14]?).bind (cF (tiOf Tryz.prog) d14) = some a14 := by kernel_rfl
theorem c15 : (Tryz.prog.funcs[15]?).bind (cF (tiOf Tryz.prog) d15) = some a15 := by kernel_rfl
theorem c16 : (Tryz.prog.funcs[16]?).bind (cF (tiOf Tryz.prog) d16) = some a16 := by kernel_rfl
theorem c17 : (Tryz.prog.funcs[17]?).bind (cF (tiOf Tryz.prog) d17) = some a17 := by kernel_rfl
theorem c18 : (Tryz.prog.funcs[18]?).bind (cF (tiOf Tryz.prog) d18) = some a18 := by kernel_rfl
theorem c19 : (Tryz.prog.funcs[19]?).bind (cF (tiOf Tryz.prog) d19) = some a19 := by kernel_rfl
theorem c20 : (Tryz.prog.funcs[20]?).bind (cF (tiOf Tryz.prog) d20) = some a20 := by kernel_rfl
theorem c21 : (Tryz.prog.funcs[21]?).bind (cF (tiOf Tryz.prog) d21) = some a21 := by kernel_rfl
theorem c22 : (Tryz.prog.funcs[22]?).bind (cF (tiOf Tryz.prog) d22) = some a22 := by kernel_rfl
theorem c23 : (Tryz.prog.funcs[23]?).bind (cF (tiOf Tryz.prog) d23) = some a23 := by kernel_rfl
theorem c24 : (Tryz.prog.funcs[24]?).bind (cF (tiOf Tryz.prog) d24) = some a24 := by kernel_rfl
theorem c25 : (Tryz.prog.funcs[25]?).bind (cF (tiOf Tryz.prog) d25) = some a25 := by kernel_rfl
theorem c26 : (Tryz.prog.funcs[26]?).bind (cF (tiOf Tryz.prog) d26) = some a26 := by kernel_rfl
theorem c27 : (Tryz.prog.funcs[27]?).bind (cF (tiOf Tryz.prog) d27) = some a27 := by kernel_rfl
theorem c28 : (Tryz.prog.funcs[28]?).bind (cF (tiOf Tryz.prog) d28) = some a28 := by kernel_rfl
theorem c29 : (Tryz.prog.funcs[29]?).bind (cF (tiOf Tryz.prog) d29) = some a29 := by kernel_rfl
theorem c30 : (Tryz.prog.funcs[30]?).bind (cF (tiOf Tryz.prog) d30) = some a30 := by kernel_rfl
theorem c31 : (Tryz.prog.funcs[31]?).bind (cF (tiOf Tryz.prog) d31) = some a31 := by kernel_rfl
theorem c32 : (Tryz.prog.funcs[32]?).bind (cF (tiOf Tryz.prog) d32) = some a32 := by kernel_rfl
theorem c33 : (Tryz.prog.funcs[33]?).bind (cF (tiOf Tryz.prog) d33) = some a33 := by kernel_rfl
theorem c34 : (Tryz.prog.funcs[34]?).bind (cF (tiOf Tryz.prog) d34) = some a34 := by kernel_rfl
theorem c35 : (Tryz.prog.funcs[35]?).bind (cF (tiOf Tryz.prog) d35) = some a35 := by kernel_rfl
theorem c36 : (Tryz.prog.funcs[36]?).bind (cF (tiOf Tryz.prog) d36) = some a36 := by kernel_rfl
theorem c37 : (Tryz.prog.funcs[37]?).bind (cF (tiOf Tryz.prog) d37) = some a37 := by kernel_rfl
theorem c38 : (Tryz.prog.funcs[38]?).bind (cF (tiOf Tryz.prog) d38) = some a38 := by kernel_rfl
theorem c39 : (Tryz.prog.funcs[39]?).bind (cF (tiOf Tryz.prog) d39) = some a39 := by kernel_rfl
theorem c40 : (Tryz.prog.funcs[40]?).bind (cF (tiOf Tryz.prog) d40) = some a40 := by kernel_rfl
theorem c41 : (Tryz.prog.funcs[41]?).bind (cF (tiOf Tryz.prog) d41) = some a41 := by kernel_rfl
theorem c42 : (Tryz.prog.funcs[42]?).bind (cF (tiOf Tryz.prog) d42) = some a42 := by kernel_rfl
theorem c43 : (Tryz.prog.funcs[43]?).bind (cF (tiOf Tryz.prog) d43) = some a43 := by kernel_rfl
theorem c44 : (Tryz.prog.funcs[44]?).bind (cF (tiOf Tryz.prog) d44) = some a44 := by kernel_rfl
theorem c45 : (Tryz.prog.funcs[45]?).bind (cF (tiOf Tryz.prog) d45) = some a45 := by kernel_rfl
theorem c46 : (Tryz.prog.funcs[46]?).bind (cF (tiOf Tryz.prog) d46) = some a46 := by kernel_rfl
theorem c47 : (Tryz.prog.funcs[47]?).bind (cF (tiOf Tryz.prog) d47) = some a47 := by kernel_rfl
theorem c48 : (Tryz.prog.funcs[48]?).bind (cF (tiOf Tryz.prog) d48) = some a48 := by kernel_rfl
theorem c49 : (Tryz.prog.funcs[49]?).bind (cF (tiOf Tryz.prog) d49) = some a49 := by kernel_rfl
theorem c50 : (Tryz.prog.funcs[50]?).bind (cF (tiOf Tryz.prog) d50) = some a50 := by kernel_rfl
theorem c51 : (Tryz.prog.funcs[51]?).bind (cF (tiOf Tryz.prog) d51) = some a51 := by kernel_rfl
theorem c52 : (Tryz.prog.funcs[52]?).bind (cF (tiOf Tryz.prog) d52) = some a52 := by kernel_rfl
theorem c53 : (Tryz.prog.funcs[53]?).bind (cF (tiOf Tryz.prog) d53) = some a53 := by kernel_rfl
theorem c54 : (Tryz.prog.funcs[54]?).bind (cF (tiOf Tryz.prog) d54) = some a54 := by kernel_rfl
theorem c55 : (Tryz.prog.funcs[55]?).bind (cF (tiOf Tryz.prog) d55) = some a55 := by kernel_rfl
theorem c56 : (Tryz.prog.funcs[56]?).bind (cF (tiOf Tryz.prog) d56) = some a56 := by kernel_rfl
theorem c57 : (Tryz.prog.funcs[57]?).bind (cF (tiOf Tryz.prog) d57) = some a57 := by kernel_rfl
theorem c58 : (Tryz.prog.funcs[58]?).bind (cF (tiOf Tryz.prog) d58) = some a58 := by kernel_rfl
theorem c59 : (Tryz.prog.funcs[59]?).bind (cF (tiOf Tryz.prog) d59) = some a59 := by kernel_rfl
theorem c60 : (Tryz.prog.funcs[60]?).bind (cF (tiOf Tryz.prog) d60) = some a60 := by kernel_rfl
theorem c61 : (Tryz.prog.funcs[61]?).bind (cF (tiOf Tryz.prog) d61) = some a61 := by kernel_rfl
theorem c62 : (Tryz.prog.funcs[62]?).bind (cF (tiOf Tryz.prog) d62) = some a62 := by kernel_rfl
theorem c63 : (Tryz.prog.funcs[63]?).bind (cF (tiOf Tryz.prog) d63) = some a63 := by kernel_rfl
theorem c64 : (Tryz.prog.funcs[64]?).bind (cF (tiOf Tryz.prog) d64) = some a64 := by kernel_rfl
theorem c65 : (Tryz.prog.funcs[65]?).bind (cF (tiOf Tryz.prog) d65) = some a65 := by kernel_rfl
theorem c66 : (Tryz.prog.funcs[66]?).bind (cF (tiOf Tryz.prog) d66) = some a66 := by kernel_rfl
theorem c67 : (Tryz.prog.funcs[67]?).bind (cF (tiOf Tryz.prog) d67) = some a67 := by kernel_rfl
theorem c68 : (Tryz.prog.funcs[68]?).bind (cF (tiOf Tryz.prog) d68) = some a68 := by kernel_rfl
theorem c69 : (Tryz.prog.funcs[69]?).bind (cF (tiOf Tryz.prog) d69) = some a69 := by kernel_rfl
theorem c70 : (Tryz.prog.funcs[70]?).bind (cF (tiOf Tryz.prog) d70) = some a70 := by kernel_rfl
theorem c72 : (Tryz.prog.funcs[72]?).bind (cF (tiOf Tryz.prog) d72) = some a72 := by kernel_rfl
theorem c73 : (Tryz.prog.funcs[73]?).bind (cF (tiOf Tryz.prog) d73) = some a73 := by kernel_rfl
theorem c74 : (Tryz.prog.funcs[74]?).bind (cF (tiOf Tryz.prog) d74) = some a74 := by kernel_rfl
theorem c75 : (Tryz.prog.funcs[75]?).bind (cF (tiOf Tryz.prog) d75) = some a75 := by kernel_rfl
theorem c76 : (Tryz.prog.funcs[76]?).bind (cF (tiOf Tryz.prog) d76) = some a76 := by kernel_rfl
theorem c77 : (Tryz.prog.funcs[77]?).bind (cF (tiOf Tryz.prog) d77) = some a77 := by kernel_rfl
theorem c78 : (Tryz.prog.funcs[78]?).bind (cF (tiOf Tryz.prog) d78) = some a78 := by kernel_rfl
theorem c79 : (Tryz.prog.funcs[79]?).bind (cF (tiOf Tryz.prog) d79) = some a79 := by kernel_rfl
theorem c80 : (Tryz.prog.funcs[80]?).bind (cF (tiOf Tryz.prog) d80) = some a80 := by kernel_rfl
theorem c81 : (Tryz.prog.funcs[81]?).bind (cF (tiOf Tryz.prog) d81) = some a81 := by kernel_rfl
theorem c82 : (Tryz.prog.funcs[82]?).bind (cF (tiOf Tryz.prog) d82) = some a82 := by kernel_rfl
theorem c83 : (Tryz.prog.funcs[83]?).bind (cF (tiOf Tryz.prog) d83) = some a83 := by kernel_rfl
theorem c84 : (Tryz.prog.funcs[84]?).bind (cF (tiOf Tryz.prog) d84) = some a84 := by kernel_rfl
theorem c85 : (Tryz.prog.funcs[85]?).bind (cF (tiOf Tryz.prog) d85) = some a85 := by kernel_rfl
theorem c86 : (Tryz.prog.funcs[86]?).bind (cF (tiOf Tryz.prog) d86) = some a86 := by kernel_rfl
theorem c87 : (Tryz.prog.funcs[87]?).bind (cF (tiOf Tryz.prog) d87) = some a87 := by kernel_rfl
theorem c88 : (Tryz.prog.funcs[88]?).bind (cF (tiOf Tryz.prog) d88) = some a88 := by kernel_rfl
theorem c89 : (Tryz.prog.funcs[89]?).bind (cF (tiOf Tryz.prog) d89) = some a89 := by kernel_rfl
theorem c90 : (Tryz.prog.funcs[90]?).bind (cF (tiOf Tryz.prog) d90) = some a90 := by kernel_rfl
theorem c91 : (Tryz.prog.funcs[91]?).bind (cF (tiOf Tryz.prog) d91) = some a91 := by kernel_rfl
theorem c92 : (Tryz.prog.funcs[92]?).bind (cF (tiOf Tryz.prog) d92) = some a92 := by kernel_rfl
theorem c93 : (Tryz.prog.funcs[93]?).bind (cF (tiOf Tryz.prog) d93) = some a93 := by kernel_rfl
theorem c94 : (Tryz.prog.funcs[94]?).bind (cF (tiOf Tryz.prog) d94) = some a94 := by kernel_rfl
theorem c95 : (Tryz.prog.funcs[95]?).bind (cF (tiOf Tryz.prog) d95) = some a95 := by kernel_rfl
theorem c96 : (Tryz.prog.funcs[96]?).bind (cF (tiOf Tryz.prog) d96) = some a96 := by kernel_rfl
theorem c97 : (Tryz.prog.funcs[97]?).bind (cF (tiOf Tryz.prog) d97) = some a97 := by kernel_rfl
theorem c98 : (Tryz.prog.funcs[98]?).bind (cF (tiOf Tryz.prog) d98) = some a98 := by kernel_rfl
theorem c105 : (Tryz.prog.funcs[105]?).bind (cF (tiOf Tryz.prog) d105) = some a105 := by kernel_rfl
theorem c106 : (Tryz.prog.funcs[106]?).bind (cF (tiOf Tryz.prog) d106) = some a106 := by kernel_rfl
theorem c109 : (Tryz.prog.funcs[109]?).bind (cF (tiOf Tryz.prog) d109) = some a109 := by kernel_rfl
theorem c110 : (Tryz.prog.funcs[110]?).bind (cF (tiOf Tryz.prog) d110) = some a110 := by kernel_rfl
theorem c111 : (Tryz.prog.funcs[111]?).bind (cF (tiOf Tryz.prog) d111) = some a111 := by kernel_rfl
theorem c112 : (Tryz.prog.funcs[112]?).bind (cF (tiOf Tryz.prog) d112) = some a112 := by kernel_rfl
theorem c113 : (Tryz.prog.funcs[113]?).bind (cF (tiOf Tryz.prog) d113) = some a113 := by kernel_rfl
theorem c114 : (Tryz.prog.funcs[114]?).bind (cF (tiOf Tryz.prog) d114) = some a114 := by kernel_rfl
theorem c115 : (Tryz.prog.funcs[115]?).bind (cF (tiOf Tryz.prog) d115) = some a115 := by kernel_rfl
theorem c116 : (Tryz.prog.funcs[116]?).bind (cF (tiOf Tryz.prog) d116) = some a116 := by kernel_rfl
theorem c117 : (Tryz.prog.funcs[117]?).bind (cF (tiOf Tryz.prog) d117) = some a117 := by kernel_rfl
theorem c118 : (Tryz.prog.funcs[118]?).bind (cF (tiOf Tryz.prog) d118) = some a118 := by kernel_rfl
theorem c119 : (Tryz.prog.funcs[119]?).bind (cF (tiOf Tryz.prog) d119) = some a119 := by kernel_rfl
theorem c120 : (Tryz.prog.funcs[120]?).bind (cF (tiOf Tryz.prog) d120) = some a120 := by kernel_rfl
theorem c121 : (Tryz.prog.funcs[121]?).bind (cF (tiOf Tryz.prog) d121) = some a121 := by kernel_rfl
theorem c122 : (Tryz.prog.funcs[122]?).bind (cF (tiOf Tryz.prog) d122) = some a122 := by kernel_rfl
theorem c123 : (Tryz.prog.funcs[123]?).bind (cF (tiOf Tryz.prog) d123) = some a123 := by kernel_rfl
theorem c124 : (Tryz.prog.funcs[124]?).bind (cF (tiOf Tryz.prog) d124) = some a124 := by kernel_rfl
theorem c125 : (Tryz.prog.funcs[125]?).bind (cF (tiOf Tryz.prog) d125) = some a125 := by kernel_rfl
theorem c126 : (Tryz.prog.funcs[126]?).bind (cF (tiOf Tryz.prog) d126) = some a126 := by kernel_rfl
theorem c127 : (Tryz.prog.funcs[127]?).bind (cF (tiOf Tryz.prog) d127) = some a127 := by kernel_rfl
theorem c128 : (Tryz.prog.funcs[128]?).bind (cF (tiOf Tryz.prog) d128) = some a128 := by kernel_rfl
theorem c130 : (Tryz.prog.funcs[130]?).bind (cF (tiOf Tryz.prog) d130) = some a130 := by kernel_rfl
theorem c131 : (Tryz.prog.funcs[131]?).bind (cF (tiOf Tryz.prog) d131) = some a131 := by kernel_rfl
theorem c133 : (Tryz.prog.funcs[133]?).bind (cF (tiOf Tryz.prog) d133) = some a133 := by kernel_rfl
theorem c134 : (Tryz.prog.funcs[134]?).bind (cF (tiOf Tryz.prog) d134) = some a134 := by kernel_rfl
theorem c135 : (Tryz.prog.funcs[135]?).bind (cF (tiOf Tryz.prog) d135) = some a135 := by kernel_rfl
theorem c136 : (Tryz.prog.funcs[136]?).bind (cF (tiOf Tryz.prog) d136) = some a136 := by kernel_rfl
theorem c137 : (Tryz.prog.funcs[137]?).bind (cF (tiOf Tryz.prog) d137) = some a137 := by kernel_rfl
theorem c138 : (Tryz.prog.funcs[138]?).bind (cF (tiOf Tryz.prog) d138) = some a138 := by kernel_rfl
theorem c139 : (Tryz.prog.funcs[139]?).bind (cF (tiOf Tryz.prog) d139) = some a139 := by kernel_rfl
theorem c140 : (Tryz.prog.funcs[140]?).bind (cF (tiOf Tryz.prog) d140) = some a140 := by kernel_rfl
theorem c141 : (Tryz.prog.funcs[141]?).bind (cF (tiOf Tryz.prog) d141) = some a141 := by kernel_rfl
theorem c147 : (Tryz.prog.funcs[147]?).bind (cF (tiOf Tryz.prog) d147) = some a147 := by kernel_rfl
theorem c149 : (Tryz.prog.funcs[149]?).bind (cF (tiOf Tryz.prog) d149) = some a149 := by kernel_rfl
theorem c150 : (Tryz.prog.funcs[150]?).bind (cF (tiOf Tryz.prog) d150) = some a150 := by kernel_rfl
theorem c151 : (Tryz.prog.funcs[151]?).bind (cF (tiOf Tryz.prog) d151) = some a151 := by kernel_rfl
theorem c152 : (Tryz.prog.funcs[152]?).bind (cF (tiOf Tryz.prog) d152) = some a152 := by kernel_rfl
theorem c153 : (Tryz.prog.funcs[153]?).bind (cF (tiOf Tryz.prog) d153) = some a153 := by kernel_rfl
theorem c154 : (Tryz.prog.funcs[154]?).bind (cF (tiOf Tryz.prog) d154) = some a154 := by kernel_rfl
theorem c155 : (Tryz.prog.funcs[155]?).bind (cF (tiOf Tryz.prog) d155) = some a155 := by kernel_rfl
theorem c156 : (Tryz.prog.funcs[156]?).bind (cF (tiOf Tryz.prog) d156) = some a156 := by kernel_rfl
theorem c157 : (Tryz.prog.funcs[157]?).bind (cF (tiOf Tryz.prog) d157) = some a157 := by kernel_rfl
theorem c158 : (Tryz.prog.funcs[158]?).bind (cF (tiOf Tryz.prog) d158) = some a158 := by kernel_rfl
theorem c159 : (Tryz.prog.funcs[159]?).bind (cF (tiOf Tryz.prog) d159) = some a159 := by kernel_rfl
theorem c160 : (Tryz.prog.funcs[160]?).bind (cF (tiOf Tryz.prog) d160) = some a160 := by kernel_rfl
theorem c161 : (Tryz.prog.funcs[161]?).bind (cF (tiOf Tryz.prog) d161) = some a161 := by kernel_rfl
theorem c162 : (Tryz.prog.funcs[162]?).bind (cF (tiOf Tryz.prog) d162) = some a162 := by kernel_rfl
theorem c163 : (Tryz.prog.funcs[163]?).bind (cF (tiOf Tryz.prog) d163) = some a163 := by kernel_rfl
theorem c164 : (Tryz.prog.funcs[164]?).bind (cF (tiOf Tryz.prog) d164) = some a164 := by kernel_rfl
theorem c165 : (Tryz.prog.funcs[165]?).bind (cF (tiOf Tryz.prog) d165) = some a165 := by kernel_rfl
theorem c167 : (Tryz.prog.funcs[167]?).bind (cF (tiOf Tryz.prog) d167) = some a167 := by kernel_rfl
theorem c168 : (Tryz.prog.funcs[168]?).bind (cF (tiOf Tryz.prog) d168) = some a168 := by kernel_rfl
theorem c170 : (Tryz.prog.funcs[170]?).bind (cF (tiOf Tryz.prog) d170) = some a170 := by kernel_rfl
theorem c171 : (Tryz.prog.funcs[171]?).bind (cF (tiOf Tryz.prog) d171) = some a171 := by kernel_rfl
theorem c172 : (Tryz.prog.funcs[172]?).bind (cF (tiOf Tryz.prog) d172) = some a172 := by kernel_rfl
theorem c173 : (Tryz.prog.funcs[173]?).bind (cF (tiOf Tryz.prog) d173) = some a173 := by kernel_rfl
theorem c174 : (Tryz.prog.funcs[174]?).bind (cF (tiOf Tryz.prog) d174) = some a174 := by kernel_rfl
theorem c182 : (Tryz.prog.funcs[182]?).bind (cF (tiOf Tryz.prog) d182) = some a182 := by kernel_rfl
theorem c183 : (Tryz.prog.funcs[183]?).bind (cF (tiOf Tryz.prog) d183) = some a183 := by kernel_rfl
theorem c184 : (Tryz.prog.funcs[184]?).bind (cF (tiOf Tryz.prog) d184) = some a184 := by kernel_rfl
theorem c185 : (Tryz.prog.funcs[185]?).bind (cF (tiOf Tryz.prog) d185) = some a185 := by kernel_rfl
theorem c186 : (Tryz.prog.funcs[186]?).bind (cF (tiOf Tryz.prog) d186) = some a186 := by kernel_rfl
theorem c187 : (Tryz.prog.funcs[187]?).bind (cF (tiOf Tryz.prog) d187) = some a187 := by kernel_rfl
theorem c188 : (Tryz.prog.funcs[188]?).bind (cF (tiOf Tryz.prog) d188) = some a188 := by kernel_rfl
theorem c189 : (Tryz.prog.funcs[189]?).bind (cF (tiOf Tryz.prog) d189) = some a189 := by kernel_rfl
theorem c190 : (Tryz.prog.funcs[190]?).bind (cF (tiOf Tryz.prog) d190) = some a190 := by kernel_rfl
theorem c192 : (Tryz.prog.funcs[192]?).bind (cF (tiOf Tryz.prog) d192) = some a192 := by kernel_rfl
theorem c195 : (Tryz.prog.funcs[195]?).bind (cF (tiOf Tryz.prog) d195) = some a195 := by kernel_rfl
theorem c196 : (Tryz.prog.funcs[196]?).bind (cF (tiOf Tryz.prog) d196) = some a196 := by kernel_rfl
theorem c198 : (Tryz.prog.funcs[198]?).bind (cF (tiOf Tryz.prog) d198) = some a198 := by kernel_rfl
theorem c199 : (Tryz.prog.funcs[199]?).bind (cF (tiOf Tryz.prog) d199) = some a199 := by kernel_rfl
theorem c205 : (Tryz.prog.funcs[205]?).bind (cF (tiOf Tryz.prog) d205) = some a205 := by kernel_rfl
theorem c209 : (Tryz.prog.funcs[209]?).bind (cF (tiOf Tryz.prog) d209) = some a209 := by kernel_rfl
theorem c219 : (Tryz.prog.funcs[219]?).bind (cF (tiOf Tryz.prog) d219) = some a219 := by kernel_rfl
theorem mixed : Tryz.prog.follows .mixedOrders = true := by kernel_rfl
theorem tab_ok : tab.Ok Tryz.prog (tiOf Tryz.prog) := ⟨⟨⟨⟨⟨⟨⟨⟨_, c3⟩, ⟨_, c4⟩⟩, ⟨⟨_, c5⟩, ⟨⟨_, c6⟩, ⟨_, c7⟩⟩⟩⟩, ⟨⟨⟨_, c8⟩, ⟨_, c9⟩⟩, ⟨⟨_, c10⟩, ⟨⟨_, c11⟩, ⟨_, c12⟩⟩⟩⟩⟩, ⟨⟨⟨⟨_, c13⟩, ⟨_, c14⟩⟩, ⟨⟨_, c15⟩, ⟨⟨_, c16⟩, ⟨_, c17⟩⟩⟩⟩, ⟨⟨⟨_, c18⟩, ⟨⟨_, c19⟩, ⟨_, c20⟩⟩⟩, ⟨⟨_, c21⟩, ⟨⟨_, c22⟩, ⟨_, c23⟩⟩⟩⟩⟩⟩, ⟨⟨⟨⟨⟨_, c24⟩, ⟨_, c25⟩⟩, ⟨⟨_, c26⟩, ⟨⟨_, c27⟩, ⟨_, c28⟩⟩⟩⟩, ⟨⟨⟨_, c29⟩, ⟨_, c30⟩⟩, ⟨⟨_, c31⟩, ⟨⟨_, c32⟩, ⟨_, c33⟩⟩⟩⟩⟩, ⟨⟨⟨⟨_, c34⟩, ⟨_, c35⟩⟩, ⟨⟨_, c36⟩, ⟨⟨_, c37⟩, ⟨_, c38⟩⟩⟩⟩, ⟨⟨⟨_, c39⟩, ⟨⟨_, c40⟩, ⟨_, c41⟩⟩⟩, ⟨⟨_, c42⟩, ⟨⟨_, c43⟩, ⟨_, c44⟩⟩⟩⟩⟩⟩⟩, ⟨⟨⟨⟨⟨⟨_, c45⟩, ⟨_, c46⟩⟩, ⟨⟨_, c47⟩, ⟨⟨_, c48⟩, ⟨_, c49⟩⟩⟩⟩, ⟨⟨⟨_, c50⟩, ⟨_, c51⟩⟩, ⟨⟨_, c52⟩, ⟨⟨_, c53⟩, ⟨_, c54⟩⟩⟩⟩⟩, ⟨⟨⟨⟨_, c55⟩, ⟨_, c56⟩⟩, ⟨⟨_, c57⟩, ⟨⟨_, c58⟩, ⟨_, c59⟩⟩⟩⟩, ⟨⟨⟨_, c60⟩, ⟨⟨_, c61⟩, ⟨_, c62⟩⟩⟩, ⟨⟨_, c63⟩, ⟨⟨_, c64⟩, ⟨_, c65⟩⟩⟩⟩⟩⟩, ⟨⟨⟨⟨⟨_, c66⟩, ⟨_, c67⟩⟩, ⟨⟨_, c68⟩, ⟨⟨_, c69⟩, ⟨_, c70⟩⟩⟩⟩, ⟨⟨⟨_, c72⟩, ⟨⟨_, c73⟩, ⟨_, c74⟩⟩⟩, ⟨⟨_, c75⟩, ⟨⟨_, c76⟩, ⟨_, c77⟩⟩⟩⟩⟩, ⟨⟨⟨⟨_, c78⟩, ⟨_, c79⟩⟩, ⟨⟨_, c80⟩, ⟨⟨_, c81⟩, ⟨_, c82⟩⟩⟩⟩, ⟨⟨⟨_, c83⟩, ⟨⟨_, c84⟩, ⟨_, c85⟩⟩⟩, ⟨⟨_, c86⟩, ⟨⟨_, c87⟩, ⟨_, c88⟩⟩⟩⟩⟩⟩⟩⟩, ⟨⟨⟨⟨⟨⟨⟨_, c89⟩, ⟨_, c90⟩⟩, ⟨⟨_, c91⟩, ⟨⟨_, c92⟩, ⟨_, c93⟩⟩⟩⟩, ⟨⟨⟨_, c94⟩, ⟨_, c95⟩⟩, ⟨⟨_, c96⟩, ⟨⟨_, c97⟩, ⟨_, c98⟩⟩⟩⟩⟩, ⟨⟨⟨⟨_, c105⟩, ⟨_, c106⟩⟩, ⟨⟨_, c109⟩, ⟨⟨_, c110⟩, ⟨_, c111⟩⟩⟩⟩, ⟨⟨⟨_, c112⟩, ⟨⟨_, c113⟩, ⟨_, c114⟩⟩⟩, ⟨⟨_, c115⟩, ⟨⟨_, c116⟩, ⟨_, c117⟩⟩⟩⟩⟩⟩, ⟨⟨⟨⟨⟨_, c118⟩, ⟨_, c119⟩⟩, ⟨⟨_, c120⟩, ⟨⟨_, c121⟩, ⟨_, c122⟩⟩⟩⟩, ⟨⟨⟨_, c123⟩, ⟨_, c124⟩⟩, ⟨⟨_, c125⟩, ⟨⟨_, c126⟩, ⟨_, c127⟩⟩⟩⟩⟩, ⟨⟨⟨⟨_, c128⟩, ⟨_, c130⟩⟩, ⟨⟨_, c131⟩, ⟨⟨_, c133⟩, ⟨_, c134⟩⟩⟩⟩, ⟨⟨⟨_, c135⟩, ⟨⟨_, c136⟩, ⟨_, c137⟩⟩⟩, ⟨⟨_, c138⟩, ⟨⟨_, c139⟩, ⟨_, c140⟩⟩⟩⟩⟩⟩⟩, ⟨⟨⟨⟨⟨⟨_, c141⟩, ⟨_, c147⟩⟩, ⟨⟨_, c149⟩, ⟨⟨_, c150⟩, ⟨_, c151⟩⟩⟩⟩, ⟨⟨⟨_, c152⟩, ⟨_, c153⟩⟩, ⟨⟨_, c154⟩, ⟨⟨_, c155⟩, ⟨_, c156⟩⟩⟩⟩⟩, ⟨⟨⟨⟨_, c157⟩, ⟨_, c158⟩⟩, ⟨⟨_, c159⟩, ⟨⟨_, c160⟩, ⟨_, c161⟩⟩⟩⟩, ⟨⟨⟨_, c162⟩, ⟨⟨_, c163⟩, ⟨_, c164⟩⟩⟩, ⟨⟨_, c165⟩, ⟨⟨_, c167⟩, ⟨_, c168⟩⟩⟩⟩⟩⟩, ⟨⟨⟨⟨⟨_, c170⟩, ⟨_, c171⟩⟩, ⟨⟨_, c172⟩, ⟨⟨_, c173⟩, ⟨_, c174⟩⟩⟩⟩, ⟨⟨⟨_, c182⟩, ⟨⟨_, c183⟩, ⟨_, c184⟩⟩⟩, ⟨⟨_, c185⟩, ⟨⟨_, c186⟩, ⟨_, c187⟩⟩⟩⟩⟩, ⟨⟨⟨⟨_, c188⟩, ⟨_, c189⟩⟩, ⟨⟨_, c190⟩, ⟨⟨_, c192⟩, ⟨_, c195⟩⟩⟩⟩, ⟨⟨⟨_, c196⟩, ⟨⟨_, c198⟩, ⟨_, c199⟩⟩⟩, ⟨⟨_, c205⟩, ⟨⟨_, c209⟩, ⟨_, c219⟩⟩⟩⟩⟩⟩⟩⟩⟩
end Go.Pal
