/-
  Part 5 of the proof (Tab, Ty, B0, B1, B2, BL, B3, B4, C1, BT, B5, B6, C3, BC, C4, C5, C4b, BP): what later parts use. No conditions.
-/
import Derived.Test.YtkbaecjnhmbeeaaGreatProg
import Derived.KernelRfl
import Derived.Test.YtkbaecjnhmbeeaaGreatMG4
/-
  The types and functions of the program. Written by a tool; no conditions.
-/
namespace Go.Proofs.YtkbaecjnhmbeeaaGreat.Cw
open Go.Cw Go.Proofs
noncomputable def T : Tab := ⟨.node 147 (.mk 1 8 false .func [.val .nilFunc]) (.node 73 (.mk 1 24 false (.slice 76) [.val (.slice none 0 0)]) (.node 35 (.mk 1 24 false (.slice 120) [.val (.slice none 0 0)]) (.node 18 (.mk 1 8 true (.struct [(0, 17)]) [.val (.pointer none)]) (.node 9 (.mk 1 16 false .str [.val (.string (⟨#[]⟩))]) (.node 5 (.mk 1 1 false (.int .u8) [.val (.int .u8 0)]) (.node 3 (.mk 1 8 false (.int .i64) [.val (.int .i64 0)]) (.node 2 (.mk 1 8 false (.int .i64) [.val (.int .i64 0)]) (.node 1 (.mk 1 8 false .func [.val .nilFunc]) .nil .nil) .nil)
 (.node 4 (.mk 1 1 false .bool [.val (.bool false)]) .nil .nil))
 (.node 7 (.mk 4 24 true (.struct [(0, 2), (1, 3), (2, 4), (3, 6)]) [.val (.int .i64 0), .val (.int .i64 0), .val (.bool false), .val (.int .u8 0)]) (.node 6 (.mk 1 1 false (.int .u8) [.val (.int .u8 0)]) .nil .nil)
 (.node 8 (.mk 4 24 true (.struct [(0, 2), (1, 3), (2, 4), (3, 6)]) [.val (.int .i64 0), .val (.int .i64 0), .val (.bool false), .val (.int .u8 0)]) .nil .nil)))
 (.node 14 (.mk 2 24 true (.struct [(0, 9), (1, 12)]) [.val (.string (⟨#[]⟩)), .val (.int .u64 0)]) (.node 12 (.mk 1 8 false (.int .u64) [.val (.int .u64 0)]) (.node 11 (.mk 1 16 false .str [.val (.string (⟨#[]⟩))]) (.node 10 (.mk 1 16 false .str [.val (.string (⟨#[]⟩))]) .nil .nil) .nil)
 (.node 13 (.mk 2 24 true (.struct [(0, 9), (1, 12)]) [.val (.string (⟨#[]⟩)), .val (.int .u64 0)]) .nil .nil))
 (.node 16 (.mk 1 8 false (.ptr 281) [.val (.pointer none)]) (.node 15 (.mk 1 8 false (.ptr 278) [.val (.pointer none)]) .nil .nil)
 (.node 17 (.mk 1 8 false (.ptr 290) [.val (.pointer none)]) .nil .nil))))
 (.node 27 (.mk 1 24 false (.slice 163) [.val (.slice none 0 0)]) (.node 23 (.mk 4 32 true (.struct [(0, 3), (1, 3), (2, 3), (3, 3)]) [.val (.int .i64 0), .val (.int .i64 0), .val (.int .i64 0), .val (.int .i64 0)]) (.node 21 (.mk 1 4 false (.int .i32) [.val (.int .i32 0)]) (.node 20 (.mk 1 16 false .other [.val .nilIface]) (.node 19 (.mk 1 8 true (.struct [(0, 17)]) [.val (.pointer none)]) .nil .nil) .nil)
 (.node 22 (.mk 4 32 true (.struct [(0, 3), (1, 3), (2, 3), (3, 3)]) [.val (.int .i64 0), .val (.int .i64 0), .val (.int .i64 0), .val (.int .i64 0)]) .nil .nil))
 (.node 25 (.mk 3 40 true (.struct [(0, 3), (1, 3), (2, 24)]) [.val (.int .i64 0), .val (.int .i64 0), .val (.slice none 0 0)]) (.node 24 (.mk 1 24 false (.slice 3) [.val (.slice none 0 0)]) .nil .nil)
 (.node 26 (.mk 3 40 true (.struct [(0, 3), (1, 3), (2, 24)]) [.val (.int .i64 0), .val (.int .i64 0), .val (.slice none 0 0)]) .nil .nil)))
 (.node 31 (.mk 2 48 true (.struct [(0, 28), (1, 29)]) [.val (.slice none 0 0), .val (.slice none 0 0)]) (.node 29 (.mk 1 24 false (.slice 24) [.val (.slice none 0 0)]) (.node 28 (.mk 1 24 false (.slice 9) [.val (.slice none 0 0)]) .nil .nil)
 (.node 30 (.mk 2 48 true (.struct [(0, 28), (1, 29)]) [.val (.slice none 0 0), .val (.slice none 0 0)]) .nil .nil))
 (.node 33 (.mk 1 24 false (.slice 65) [.val (.slice none 0 0)]) (.node 32 (.mk 1 24 false (.slice 184) [.val (.slice none 0 0)]) .nil .nil)
 (.node 34 (.mk 1 24 false (.slice 115) [.val (.slice none 0 0)]) .nil .nil)))))
 (.node 55 (.mk 1 8 false .func [.val .nilFunc]) (.node 44 (.mk 4 80 true (.struct [(0, 40), (1, 41), (2, 42), (3, 3)]) [.val (.slice none 0 0), .val (.slice none 0 0), .val (.slice none 0 0), .val (.int .i64 0)]) (.node 40 (.mk 1 24 false (.slice 85) [.val (.slice none 0 0)]) (.node 38 (.mk 1 24 false (.slice 68) [.val (.slice none 0 0)]) (.node 37 (.mk 14 240 true (.struct [(0, 23), (4, 26), (7, 27), (8, 31), (10, 32), (11, 33), (12, 34), (13, 35)]) [.val (.int .i64 0), .val (.int .i64 0), .val (.int .i64 0), .val (.int .i64 0), .val (.int .i64 0), .val (.int .i64 0), .val (.slice none 0 0), .val (.slice none 0 0), .val (.slice none 0 0), .val (.slice none 0 0), .val (.slice none 0 0), .val (.slice none 0 0), .val (.slice none 0 0), .val (.slice none 0 0)]) (.node 36 (.mk 14 240 true (.struct [(0, 23), (4, 26), (7, 27), (8, 31), (10, 32), (11, 33), (12, 34), (13, 35)]) [.val (.int .i64 0), .val (.int .i64 0), .val (.int .i64 0), .val (.int .i64 0), .val (.int .i64 0), .val (.int .i64 0), .val (.slice none 0 0), .val (.slice none 0 0), .val (.slice none 0 0), .val (.slice none 0 0), .val (.slice none 0 0), .val (.slice none 0 0), .val (.slice none 0 0), .val (.slice none 0 0)]) .nil .nil) .nil)
 (.node 39 (.mk 1 8 false .func [.val .nilFunc]) .nil .nil))
 (.node 42 (.mk 1 24 false (.slice 88) [.val (.slice none 0 0)]) (.node 41 (.mk 1 24 false (.slice 70) [.val (.slice none 0 0)]) .nil .nil)
 (.node 43 (.mk 4 80 true (.struct [(0, 40), (1, 41), (2, 42), (3, 3)]) [.val (.slice none 0 0), .val (.slice none 0 0), .val (.slice none 0 0), .val (.int .i64 0)]) .nil .nil)))
 (.node 50 (.mk 1 24 false (.slice 52) [.val (.slice none 0 0)]) (.node 48 (.mk 1 8 false .func [.val .nilFunc]) (.node 47 (.mk 1 8 false .func [.val .nilFunc]) (.node 45 (.mk 1 8 false (.int .i64) [.val (.int .i64 0)]) .nil .nil) .nil)
 (.node 49 (.mk 1 8 false .func [.val .nilFunc]) .nil .nil))
 (.node 52 (.mk 3 48 true (.struct [(0, 3), (1, 9), (2, 50)]) [.val (.int .i64 0), .val (.string (⟨#[]⟩)), .val (.slice none 0 0)]) (.node 51 (.mk 3 48 true (.struct [(0, 3), (1, 9), (2, 50)]) [.val (.int .i64 0), .val (.string (⟨#[]⟩)), .val (.slice none 0 0)]) .nil .nil)
 (.node 53 (.mk 1 8 false .func [.val .nilFunc]) .nil .nil))))
 (.node 65 (.mk 9 160 true (.struct [(0, 9), (1, 9), (2, 9), (3, 3), (4, 24), (5, 3), (6, 28), (7, 28), (8, 63)]) [.val (.string (⟨#[]⟩)), .val (.string (⟨#[]⟩)), .val (.string (⟨#[]⟩)), .val (.int .i64 0), .val (.slice none 0 0), .val (.int .i64 0), .val (.slice none 0 0), .val (.slice none 0 0), .val (.slice none 0 0)]) (.node 61 (.mk 1 8 false .func [.val .nilFunc]) (.node 59 (.mk 1 8 false .func [.val .nilFunc]) (.node 58 (.mk 1 8 false .func [.val .nilFunc]) (.node 57 (.mk 1 8 false .func [.val .nilFunc]) .nil .nil) .nil)
 (.node 60 (.mk 1 8 false .func [.val .nilFunc]) .nil .nil))
 (.node 63 (.mk 1 24 false (.slice 241) [.val (.slice none 0 0)]) (.node 62 (.mk 1 24 false (.slice 5) [.val (.slice none 0 0)]) .nil .nil)
 (.node 64 (.mk 9 160 true (.struct [(0, 9), (1, 9), (2, 9), (3, 3), (4, 24), (5, 3), (6, 28), (7, 28), (8, 63)]) [.val (.string (⟨#[]⟩)), .val (.string (⟨#[]⟩)), .val (.string (⟨#[]⟩)), .val (.int .i64 0), .val (.slice none 0 0), .val (.int .i64 0), .val (.slice none 0 0), .val (.slice none 0 0), .val (.slice none 0 0)]) .nil .nil)))
 (.node 69 (.mk 4 48 true (.struct [(0, 3), (1, 3), (2, 3), (3, 24)]) [.val (.int .i64 0), .val (.int .i64 0), .val (.int .i64 0), .val (.slice none 0 0)]) (.node 67 (.mk 13 192 true (.struct [(0, 9), (1, 3), (2, 3), (3, 52), (6, 52), (9, 3), (10, 66), (11, 28), (12, 3)]) [.val (.string (⟨#[]⟩)), .val (.int .i64 0), .val (.int .i64 0), .val (.int .i64 0), .val (.string (⟨#[]⟩)), .val (.slice none 0 0), .val (.int .i64 0), .val (.string (⟨#[]⟩)), .val (.slice none 0 0), .val (.int .i64 0), .val (.slice none 0 0), .val (.slice none 0 0), .val (.int .i64 0)]) (.node 66 (.mk 1 24 false (.slice 135) [.val (.slice none 0 0)]) .nil .nil)
 (.node 68 (.mk 13 192 true (.struct [(0, 9), (1, 3), (2, 3), (3, 52), (6, 52), (9, 3), (10, 66), (11, 28), (12, 3)]) [.val (.string (⟨#[]⟩)), .val (.int .i64 0), .val (.int .i64 0), .val (.int .i64 0), .val (.string (⟨#[]⟩)), .val (.slice none 0 0), .val (.int .i64 0), .val (.string (⟨#[]⟩)), .val (.slice none 0 0), .val (.int .i64 0), .val (.slice none 0 0), .val (.slice none 0 0), .val (.int .i64 0)]) .nil .nil))
 (.node 71 (.mk 1 8 false .func [.val .nilFunc]) (.node 70 (.mk 4 48 true (.struct [(0, 3), (1, 3), (2, 3), (3, 24)]) [.val (.int .i64 0), .val (.int .i64 0), .val (.int .i64 0), .val (.slice none 0 0)]) .nil .nil)
 (.node 72 (.mk 1 8 false (.ptr 75) [.val (.pointer none)]) .nil .nil))))))
 (.node 110 (.mk 1 8 false .func [.val .nilFunc]) (.node 92 (.mk 1 24 false (.slice 4) [.val (.slice none 0 0)]) (.node 83 (.mk 1 8 false (.ptr 44) [.val (.pointer none)]) (.node 79 (.mk 1 8 false .func [.val .nilFunc]) (.node 76 (.mk 1 8 false (.ptr 125) [.val (.pointer none)]) (.node 75 (.mk 20 368 true (.struct [(0, 44), (4, 37), (18, 38), (19, 73)]) [.val (.slice none 0 0), .val (.slice none 0 0), .val (.slice none 0 0), .val (.int .i64 0), .val (.int .i64 0), .val (.int .i64 0), .val (.int .i64 0), .val (.int .i64 0), .val (.int .i64 0), .val (.int .i64 0), .val (.slice none 0 0), .val (.slice none 0 0), .val (.slice none 0 0), .val (.slice none 0 0), .val (.slice none 0 0), .val (.slice none 0 0), .val (.slice none 0 0), .val (.slice none 0 0), .val (.slice none 0 0), .val (.slice none 0 0)]) (.node 74 (.mk 20 368 true (.struct [(0, 44), (4, 37), (18, 38), (19, 73)]) [.val (.slice none 0 0), .val (.slice none 0 0), .val (.slice none 0 0), .val (.int .i64 0), .val (.int .i64 0), .val (.int .i64 0), .val (.int .i64 0), .val (.int .i64 0), .val (.int .i64 0), .val (.int .i64 0), .val (.slice none 0 0), .val (.slice none 0 0), .val (.slice none 0 0), .val (.slice none 0 0), .val (.slice none 0 0), .val (.slice none 0 0), .val (.slice none 0 0), .val (.slice none 0 0), .val (.slice none 0 0), .val (.slice none 0 0)]) .nil .nil) .nil)
 (.node 78 (.mk 1 8 false .func [.val .nilFunc]) .nil .nil))
 (.node 81 (.mk 1 8 false .func [.val .nilFunc]) (.node 80 (.mk 1 24 false (.slice 1) [.val (.slice none 0 0)]) .nil .nil)
 (.node 82 (.mk 1 8 false .func [.val .nilFunc]) .nil .nil)))
 (.node 88 (.mk 4 48 true (.struct [(0, 3), (1, 86), (2, 3), (3, 3)]) [.val (.int .i64 0), .val (.slice none 0 0), .val (.int .i64 0), .val (.int .i64 0)]) (.node 86 (.mk 1 24 false (.slice 90) [.val (.slice none 0 0)]) (.node 85 (.mk 1 24 false (.slice 140) [.val (.slice none 0 0)]) (.node 84 (.mk 1 8 false .func [.val .nilFunc]) .nil .nil) .nil)
 (.node 87 (.mk 4 48 true (.struct [(0, 3), (1, 86), (2, 3), (3, 3)]) [.val (.int .i64 0), .val (.slice none 0 0), .val (.int .i64 0), .val (.int .i64 0)]) .nil .nil))
 (.node 90 (.mk 3 24 true (.struct [(0, 3), (1, 3), (2, 3)]) [.val (.int .i64 0), .val (.int .i64 0), .val (.int .i64 0)]) (.node 89 (.mk 3 24 true (.struct [(0, 3), (1, 3), (2, 3)]) [.val (.int .i64 0), .val (.int .i64 0), .val (.int .i64 0)]) .nil .nil)
 (.node 91 (.mk 1 8 false .func [.val .nilFunc]) .nil .nil))))
 (.node 102 (.mk 1 8 false .func [.val .nilFunc]) (.node 98 (.mk 1 8 false .func [.val .nilFunc]) (.node 96 (.mk 1 8 false .func [.val .nilFunc]) (.node 95 (.mk 1 8 false .func [.val .nilFunc]) (.node 94 (.mk 1 8 false .func [.val .nilFunc]) .nil .nil) .nil)
 (.node 97 (.mk 1 8 false .func [.val .nilFunc]) .nil .nil))
 (.node 100 (.mk 1 8 false .func [.val .nilFunc]) (.node 99 (.mk 1 8 false .func [.val .nilFunc]) .nil .nil)
 (.node 101 (.mk 1 8 false .func [.val .nilFunc]) .nil .nil)))
 (.node 106 (.mk 1 8 false .func [.val .nilFunc]) (.node 104 (.mk 1 8 false .func [.val .nilFunc]) (.node 103 (.mk 1 8 false .func [.val .nilFunc]) .nil .nil)
 (.node 105 (.mk 1 8 false .func [.val .nilFunc]) .nil .nil))
 (.node 108 (.mk 1 8 false .func [.val .nilFunc]) (.node 107 (.mk 1 8 false .func [.val .nilFunc]) .nil .nil)
 (.node 109 (.mk 1 24 false (.slice 101) [.val (.slice none 0 0)]) .nil .nil)))))
 (.node 128 (.mk 1 8 false .func [.val .nilFunc]) (.node 119 (.mk 4 64 true (.struct [(0, 9), (1, 9), (2, 3), (3, 28)]) [.val (.string (⟨#[]⟩)), .val (.string (⟨#[]⟩)), .val (.int .i64 0), .val (.slice none 0 0)]) (.node 115 (.mk 2 40 true (.struct [(0, 9), (1, 28)]) [.val (.string (⟨#[]⟩)), .val (.slice none 0 0)]) (.node 113 (.mk 1 8 false .func [.val .nilFunc]) (.node 112 (.mk 1 8 false .func [.val .nilFunc]) (.node 111 (.mk 1 8 false .func [.val .nilFunc]) .nil .nil) .nil)
 (.node 114 (.mk 2 40 true (.struct [(0, 9), (1, 28)]) [.val (.string (⟨#[]⟩)), .val (.slice none 0 0)]) .nil .nil))
 (.node 117 (.mk 1 8 false .func [.val .nilFunc]) (.node 116 (.mk 1 8 false .func [.val .nilFunc]) .nil .nil)
 (.node 118 (.mk 1 8 false .func [.val .nilFunc]) .nil .nil)))
 (.node 124 (.mk 31 528 true (.struct [(0, 37), (14, 68), (27, 92), (28, 92), (29, 31)]) [.val (.int .i64 0), .val (.int .i64 0), .val (.int .i64 0), .val (.int .i64 0), .val (.int .i64 0), .val (.int .i64 0), .val (.slice none 0 0), .val (.slice none 0 0), .val (.slice none 0 0), .val (.slice none 0 0), .val (.slice none 0 0), .val (.slice none 0 0), .val (.slice none 0 0), .val (.slice none 0 0), .val (.string (⟨#[]⟩)), .val (.int .i64 0), .val (.int .i64 0), .val (.int .i64 0), .val (.string (⟨#[]⟩)), .val (.slice none 0 0), .val (.int .i64 0), .val (.string (⟨#[]⟩)), .val (.slice none 0 0), .val (.int .i64 0), .val (.slice none 0 0), .val (.slice none 0 0), .val (.int .i64 0), .val (.slice none 0 0), .val (.slice none 0 0), .val (.slice none 0 0), .val (.slice none 0 0)]) (.node 122 (.mk 1 8 false .func [.val .nilFunc]) (.node 121 (.mk 1 8 false .func [.val .nilFunc]) (.node 120 (.mk 4 64 true (.struct [(0, 9), (1, 9), (2, 3), (3, 28)]) [.val (.string (⟨#[]⟩)), .val (.string (⟨#[]⟩)), .val (.int .i64 0), .val (.slice none 0 0)]) .nil .nil) .nil)
 (.node 123 (.mk 1 8 false .func [.val .nilFunc]) .nil .nil))
 (.node 126 (.mk 1 8 false .func [.val .nilFunc]) (.node 125 (.mk 31 528 true (.struct [(0, 37), (14, 68), (27, 92), (28, 92), (29, 31)]) [.val (.int .i64 0), .val (.int .i64 0), .val (.int .i64 0), .val (.int .i64 0), .val (.int .i64 0), .val (.int .i64 0), .val (.slice none 0 0), .val (.slice none 0 0), .val (.slice none 0 0), .val (.slice none 0 0), .val (.slice none 0 0), .val (.slice none 0 0), .val (.slice none 0 0), .val (.slice none 0 0), .val (.string (⟨#[]⟩)), .val (.int .i64 0), .val (.int .i64 0), .val (.int .i64 0), .val (.string (⟨#[]⟩)), .val (.slice none 0 0), .val (.int .i64 0), .val (.string (⟨#[]⟩)), .val (.slice none 0 0), .val (.int .i64 0), .val (.slice none 0 0), .val (.slice none 0 0), .val (.int .i64 0), .val (.slice none 0 0), .val (.slice none 0 0), .val (.slice none 0 0), .val (.slice none 0 0)]) .nil .nil)
 (.node 127 (.mk 1 8 false .func [.val .nilFunc]) .nil .nil))))
 (.node 139 (.mk 6 64 true (.struct [(0, 137), (5, 138)]) [.val (.int .i64 0), .val (.int .i64 0), .val (.int .i64 0), .val (.int .i64 0), .val (.int .i64 0), .val (.slice none 0 0)]) (.node 135 (.mk 4 32 true (.struct [(0, 3), (1, 3), (2, 3), (3, 3)]) [.val (.int .i64 0), .val (.int .i64 0), .val (.int .i64 0), .val (.int .i64 0)]) (.node 133 (.mk 1 8 false .func [.val .nilFunc]) (.node 131 (.mk 1 24 false (.slice 137) [.val (.slice none 0 0)]) (.node 130 (.mk 1 8 false .func [.val .nilFunc]) .nil .nil) .nil)
 (.node 134 (.mk 4 32 true (.struct [(0, 3), (1, 3), (2, 3), (3, 3)]) [.val (.int .i64 0), .val (.int .i64 0), .val (.int .i64 0), .val (.int .i64 0)]) .nil .nil))
 (.node 137 (.mk 5 40 true (.struct [(0, 135), (4, 3)]) [.val (.int .i64 0), .val (.int .i64 0), .val (.int .i64 0), .val (.int .i64 0), .val (.int .i64 0)]) (.node 136 (.mk 5 40 true (.struct [(0, 135), (4, 3)]) [.val (.int .i64 0), .val (.int .i64 0), .val (.int .i64 0), .val (.int .i64 0), .val (.int .i64 0)]) .nil .nil)
 (.node 138 (.mk 1 24 false (.slice 144) [.val (.slice none 0 0)]) .nil .nil)))
 (.node 143 (.mk 2 16 true (.struct [(0, 3), (1, 3)]) [.val (.int .i64 0), .val (.int .i64 0)]) (.node 141 (.mk 1 8 false .func [.val .nilFunc]) (.node 140 (.mk 6 64 true (.struct [(0, 137), (5, 138)]) [.val (.int .i64 0), .val (.int .i64 0), .val (.int .i64 0), .val (.int .i64 0), .val (.int .i64 0), .val (.slice none 0 0)]) .nil .nil)
 (.node 142 (.mk 1 8 false .func [.val .nilFunc]) .nil .nil))
 (.node 145 (.mk 1 8 false .func [.val .nilFunc]) (.node 144 (.mk 2 16 true (.struct [(0, 3), (1, 3)]) [.val (.int .i64 0), .val (.int .i64 0)]) .nil .nil)
 (.node 146 (.mk 1 8 false .func [.val .nilFunc]) .nil .nil)))))))
 (.node 219 (.mk 1 8 false .func [.val .nilFunc]) (.node 184 (.mk 2 40 true (.struct [(0, 9), (1, 66)]) [.val (.string (⟨#[]⟩)), .val (.slice none 0 0)]) (.node 167 (.mk 1 8 false .func [.val .nilFunc]) (.node 158 (.mk 1 8 false (.int .u64) [.val (.int .u64 0)]) (.node 153 (.mk 1 8 false .func [.val .nilFunc]) (.node 151 (.mk 1 8 false .func [.val .nilFunc]) (.node 150 (.mk 1 24 false (.slice 45) [.val (.slice none 0 0)]) (.node 149 (.mk 1 8 false .func [.val .nilFunc]) .nil .nil) .nil)
 (.node 152 (.mk 1 8 false .func [.val .nilFunc]) .nil .nil))
 (.node 156 (.mk 1 8 false .func [.val .nilFunc]) (.node 154 (.mk 1 8 false .func [.val .nilFunc]) .nil .nil)
 (.node 157 (.mk 1 8 false .func [.val .nilFunc]) .nil .nil)))
 (.node 163 (.mk 5 88 true (.struct [(0, 9), (1, 9), (2, 3), (3, 28), (4, 66)]) [.val (.string (⟨#[]⟩)), .val (.string (⟨#[]⟩)), .val (.int .i64 0), .val (.slice none 0 0), .val (.slice none 0 0)]) (.node 161 (.mk 1 8 false .func [.val .nilFunc]) (.node 160 (.mk 1 8 false .func [.val .nilFunc]) (.node 159 (.mk 1 8 false .func [.val .nilFunc]) .nil .nil) .nil)
 (.node 162 (.mk 5 88 true (.struct [(0, 9), (1, 9), (2, 3), (3, 28), (4, 66)]) [.val (.string (⟨#[]⟩)), .val (.string (⟨#[]⟩)), .val (.int .i64 0), .val (.slice none 0 0), .val (.slice none 0 0)]) .nil .nil))
 (.node 165 (.mk 1 8 true (.struct [(0, 3)]) [.val (.int .i64 0)]) (.node 164 (.mk 1 8 false (.ptr 166) [.val (.pointer none)]) .nil .nil)
 (.node 166 (.mk 1 8 true (.struct [(0, 3)]) [.val (.int .i64 0)]) .nil .nil))))
 (.node 176 (.mk 1 8 false .func [.val .nilFunc]) (.node 172 (.mk 1 8 false .func [.val .nilFunc]) (.node 170 (.mk 1 8 false .func [.val .nilFunc]) (.node 169 (.mk 1 8 false .func [.val .nilFunc]) (.node 168 (.mk 1 8 false .func [.val .nilFunc]) .nil .nil) .nil)
 (.node 171 (.mk 1 8 false .func [.val .nilFunc]) .nil .nil))
 (.node 174 (.mk 1 8 false .func [.val .nilFunc]) (.node 173 (.mk 1 8 false .func [.val .nilFunc]) .nil .nil)
 (.node 175 (.mk 1 8 false .func [.val .nilFunc]) .nil .nil)))
 (.node 180 (.mk 1 8 false .func [.val .nilFunc]) (.node 178 (.mk 1 8 false (.map 9 4) [.val (.map none)]) (.node 177 (.mk 1 8 false .func [.val .nilFunc]) .nil .nil)
 (.node 179 (.mk 1 8 false .func [.val .nilFunc]) .nil .nil))
 (.node 182 (.mk 1 8 false .func [.val .nilFunc]) (.node 181 (.mk 1 8 false .func [.val .nilFunc]) .nil .nil)
 (.node 183 (.mk 2 40 true (.struct [(0, 9), (1, 66)]) [.val (.string (⟨#[]⟩)), .val (.slice none 0 0)]) .nil .nil)))))
 (.node 202 (.mk 1 8 false .func [.val .nilFunc]) (.node 193 (.mk 1 8 false .func [.val .nilFunc]) (.node 189 (.mk 1 8 false (.map 9 3) [.val (.map none)]) (.node 187 (.mk 1 8 false .func [.val .nilFunc]) (.node 186 (.mk 1 8 false .func [.val .nilFunc]) (.node 185 (.mk 1 8 false .func [.val .nilFunc]) .nil .nil) .nil)
 (.node 188 (.mk 1 8 false .func [.val .nilFunc]) .nil .nil))
 (.node 191 (.mk 1 8 false .func [.val .nilFunc]) (.node 190 (.mk 1 8 false .func [.val .nilFunc]) .nil .nil)
 (.node 192 (.mk 1 8 false .func [.val .nilFunc]) .nil .nil)))
 (.node 198 (.mk 1 8 false .func [.val .nilFunc]) (.node 196 (.mk 1 8 false .func [.val .nilFunc]) (.node 195 (.mk 1 8 false .func [.val .nilFunc]) (.node 194 (.mk 1 8 false .func [.val .nilFunc]) .nil .nil) .nil)
 (.node 197 (.mk 1 8 false .func [.val .nilFunc]) .nil .nil))
 (.node 200 (.mk 1 8 false .func [.val .nilFunc]) (.node 199 (.mk 1 8 false .func [.val .nilFunc]) .nil .nil)
 (.node 201 (.mk 1 8 false .func [.val .nilFunc]) .nil .nil))))
 (.node 211 (.mk 1 8 false .func [.val .nilFunc]) (.node 207 (.mk 1 8 false .func [.val .nilFunc]) (.node 205 (.mk 1 8 false .func [.val .nilFunc]) (.node 204 (.mk 1 8 false .func [.val .nilFunc]) (.node 203 (.mk 1 8 false .func [.val .nilFunc]) .nil .nil) .nil)
 (.node 206 (.mk 1 8 false .func [.val .nilFunc]) .nil .nil))
 (.node 209 (.mk 1 8 false .func [.val .nilFunc]) (.node 208 (.mk 1 8 false .func [.val .nilFunc]) .nil .nil)
 (.node 210 (.mk 1 8 false .func [.val .nilFunc]) .nil .nil)))
 (.node 215 (.mk 1 8 false .func [.val .nilFunc]) (.node 213 (.mk 1 8 false .func [.val .nilFunc]) (.node 212 (.mk 1 8 false .func [.val .nilFunc]) .nil .nil)
 (.node 214 (.mk 1 8 false .func [.val .nilFunc]) .nil .nil))
 (.node 217 (.mk 1 8 false .func [.val .nilFunc]) (.node 216 (.mk 1 8 false .func [.val .nilFunc]) .nil .nil)
 (.node 218 (.mk 1 8 false .func [.val .nilFunc]) .nil .nil))))))
 (.node 255 (.mk 1 8 false .func [.val .nilFunc]) (.node 237 (.mk 1 8 false .func [.val .nilFunc]) (.node 228 (.mk 1 8 false .func [.val .nilFunc]) (.node 224 (.mk 1 8 false .func [.val .nilFunc]) (.node 222 (.mk 1 8 false .func [.val .nilFunc]) (.node 221 (.mk 1 8 false .func [.val .nilFunc]) (.node 220 (.mk 1 8 false .func [.val .nilFunc]) .nil .nil) .nil)
 (.node 223 (.mk 1 8 false .func [.val .nilFunc]) .nil .nil))
 (.node 226 (.mk 1 8 false .func [.val .nilFunc]) (.node 225 (.mk 1 8 false .func [.val .nilFunc]) .nil .nil)
 (.node 227 (.mk 1 8 false .func [.val .nilFunc]) .nil .nil)))
 (.node 233 (.mk 1 8 false .func [.val .nilFunc]) (.node 231 (.mk 1 8 false .func [.val .nilFunc]) (.node 230 (.mk 1 8 false .func [.val .nilFunc]) (.node 229 (.mk 1 8 false .func [.val .nilFunc]) .nil .nil) .nil)
 (.node 232 (.mk 1 8 false .func [.val .nilFunc]) .nil .nil))
 (.node 235 (.mk 1 8 false .func [.val .nilFunc]) (.node 234 (.mk 1 8 false .func [.val .nilFunc]) .nil .nil)
 (.node 236 (.mk 1 8 false .func [.val .nilFunc]) .nil .nil))))
 (.node 247 (.mk 1 8 false .func [.val .nilFunc]) (.node 242 (.mk 1 8 false .func [.val .nilFunc]) (.node 240 (.mk 2 16 true (.struct [(0, 3), (1, 3)]) [.val (.int .i64 0), .val (.int .i64 0)]) (.node 239 (.mk 1 8 false .func [.val .nilFunc]) (.node 238 (.mk 1 8 false .func [.val .nilFunc]) .nil .nil) .nil)
 (.node 241 (.mk 2 16 true (.struct [(0, 3), (1, 3)]) [.val (.int .i64 0), .val (.int .i64 0)]) .nil .nil))
 (.node 245 (.mk 1 8 false .func [.val .nilFunc]) (.node 244 (.mk 1 8 false .func [.val .nilFunc]) .nil .nil)
 (.node 246 (.mk 1 8 false .func [.val .nilFunc]) .nil .nil)))
 (.node 251 (.mk 1 8 false .func [.val .nilFunc]) (.node 249 (.mk 1 8 false .func [.val .nilFunc]) (.node 248 (.mk 1 8 false .func [.val .nilFunc]) .nil .nil)
 (.node 250 (.mk 1 8 false .func [.val .nilFunc]) .nil .nil))
 (.node 253 (.mk 1 8 false .func [.val .nilFunc]) (.node 252 (.mk 1 8 false .func [.val .nilFunc]) .nil .nil)
 (.node 254 (.mk 1 8 false .func [.val .nilFunc]) .nil .nil)))))
 (.node 275 (.mk 1 8 false .func [.val .nilFunc]) (.node 265 (.mk 1 8 false .func [.val .nilFunc]) (.node 261 (.mk 1 8 false .func [.val .nilFunc]) (.node 259 (.mk 1 8 false .func [.val .nilFunc]) (.node 257 (.mk 1 8 false (.int .i64) [.val (.int .i64 0)]) (.node 256 (.mk 1 8 false .func [.val .nilFunc]) .nil .nil) .nil)
 (.node 260 (.mk 1 8 false .func [.val .nilFunc]) .nil .nil))
 (.node 263 (.mk 1 8 false .func [.val .nilFunc]) (.node 262 (.mk 1 8 false .func [.val .nilFunc]) .nil .nil)
 (.node 264 (.mk 1 4 false (.int .u32) [.val (.int .u32 0)]) .nil .nil)))
 (.node 270 (.mk 1 8 false .func [.val .nilFunc]) (.node 268 (.mk 1 8 false .func [.val .nilFunc]) (.node 267 (.mk 1 8 false (.int .u64) [.val (.int .u64 0)]) (.node 266 (.mk 1 8 false (.int .u64) [.val (.int .u64 0)]) .nil .nil) .nil)
 (.node 269 (.mk 1 8 false .func [.val .nilFunc]) .nil .nil))
 (.node 272 (.mk 1 8 false .func [.val .nilFunc]) (.node 271 (.mk 1 8 false (.ptr 3) [.val (.pointer none)]) .nil .nil)
 (.node 273 (.mk 1 8 false (.ptr 267) [.val (.pointer none)]) .nil .nil))))
 (.node 284 (.mk 1 1 false (.int .u8) [.val (.int .u8 0)]) (.node 280 (.mk 0 0 true (.struct [(0, 279)]) []) (.node 278 (.mk 4 40 true (.struct [(0, 17), (1, 17), (2, 17), (3, 9)]) [.val (.pointer none), .val (.pointer none), .val (.pointer none), .val (.string (⟨#[]⟩))]) (.node 277 (.mk 4 40 true (.struct [(0, 17), (1, 17), (2, 17), (3, 9)]) [.val (.pointer none), .val (.pointer none), .val (.pointer none), .val (.string (⟨#[]⟩))]) (.node 276 (.mk 1 8 false .func [.val .nilFunc]) .nil .nil) .nil)
 (.node 279 (.mk 0 0 true (.array 0 16) []) .nil .nil))
 (.node 282 (.mk 1 8 false .func [.val .nilFunc]) (.node 281 (.mk 0 0 true (.struct [(0, 279)]) []) .nil .nil)
 (.node 283 (.mk 1 1 false (.int .u8) [.val (.int .u8 0)]) .nil .nil)))
 (.node 288 (.mk 1 4 false (.int .i32) [.val (.int .i32 0)]) (.node 286 (.mk 1 8 false (.ptr 5) [.val (.pointer none)]) (.node 285 (.mk 1 8 false .func [.val .nilFunc]) .nil .nil)
 (.node 287 (.mk 1 4 false (.int .i32) [.val (.int .i32 0)]) .nil .nil))
 (.node 290 (.mk 11 48 true (.struct [(0, 12), (1, 12), (2, 264), (3, 283), (4, 5), (5, 5), (6, 284), (7, 285), (8, 286), (9, 287), (10, 288)]) [.val (.int .u64 0), .val (.int .u64 0), .val (.int .u32 0), .val (.int .u8 0), .val (.int .u8 0), .val (.int .u8 0), .val (.int .u8 0), .val .nilFunc, .val (.pointer none), .val (.int .i32 0), .val (.int .i32 0)]) (.node 289 (.mk 11 48 true (.struct [(0, 12), (1, 12), (2, 264), (3, 283), (4, 5), (5, 5), (6, 284), (7, 285), (8, 286), (9, 287), (10, 288)]) [.val (.int .u64 0), .val (.int .u64 0), .val (.int .u32 0), .val (.int .u8 0), .val (.int .u8 0), .val (.int .u8 0), .val (.int .u8 0), .val .nilFunc, .val (.pointer none), .val (.int .i32 0), .val (.int .i32 0)]) .nil .nil)
 (.node 291 (.mk 1 8 false .other [.val (.pointer none)]) .nil .nil))))))), [7, 8, 22, 23, 25, 26, 30, 31, 36, 37, 43, 44, 51, 52, 64, 65, 67, 68, 69, 70, 74, 75, 87, 88, 89, 90, 114, 115, 119, 120, 124, 125, 134, 135, 136, 137, 139, 140, 143, 144, 162, 163, 165, 166, 183, 184, 240, 241]⟩
theorem tok : TabOk Tryz.prog T := TabOk.of_eq (by kernel_rfl) (by kernel_rfl)
theorem mixed : Tryz.prog.follows .mixedOrders = true := by kernel_rfl
end Go.Proofs.YtkbaecjnhmbeeaaGreat.Cw
/-
  Data of the program, as_ lists of cells.
-/
namespace Go.Proofs.YtkbaecjnhmbeeaaGreat.Cw
open Go.Cw Go.Proofs
set_option linter.unusedVariables false
abbrev Str := ByteArray
def ei (n : Int) : PV := .val (.int .i64 n)
def es (s : Str) : PV := .val (.string s)
def encStrs (l : List Str) : PV := .sl 1 (l.map fun s => [es s])
def encInts (l : List Int) : PV := .sl 1 (l.map fun x => [ei x])
structure Time where
  (weeks day start len : Int)
def Time.row (t : Time) : List PV := [ei t.weeks, ei t.day, ei t.start, ei t.len]
def encTimes (l : List Time) : PV := .sl 4 (l.map Time.row)
structure Grid where
  (days slots begin_ mins : Int)
def Grid.row (g : Grid) : List PV := [ei g.days, ei g.slots, ei g.begin_, ei g.mins]
structure Room where
  (code bld : Str)
  (seats : Int)
  (feats : List Str)
  (closed : List Time)
def Room.row (r : Room) : List PV := [es r.code, es r.bld, ei r.seats, encStrs r.feats, encTimes r.closed]
def encRooms (l : List Room) : PV := .sl 5 (l.map Room.row)
structure Exam where
  (code : Str)
  (len : Int)
  (feats studs : List Str)
def Exam.row (e : Exam) : List PV := [es e.code, ei e.len, encStrs e.feats, encStrs e.studs]
structure Sitting where
  (day start len cost : Int)
def Sitting.row (s : Sitting) : List PV := [ei s.day, ei s.start, ei s.len, ei s.cost]
structure Gaps where
  (row day near days mixed : Int)
structure Exams where
  (rooms : List Room)
  (exams : List Exam)
  (sits : List Sitting)
  (gaps : Gaps)
def Exams.cells (x : Exams) : List PV := [encRooms x.rooms, .sl 4 (x.exams.map Exam.row), .sl 4 (x.sits.map Sitting.row), ei x.gaps.row, ei x.gaps.day, ei x.gaps.near, ei x.gaps.days, ei x.gaps.mixed]
/-! Registries. -/
structure Term where
  (first weeks : Int)
  (hols : List Int)
def Term.row (t : Term) : List PV := [ei t.first, ei t.weeks, encInts t.hols]
structure Travel where
  (blds : List Str)
  (slots : List (List Int))
def intsRow (l : List Int) : List PV := [encInts l]
def Travel.row (t : Travel) : List PV := [encStrs t.blds, .sl 1 (t.slots.map intsRow)]
structure Lecturer where
  (code : Str)
  (away : List Time)
def Lecturer.row (l : Lecturer) : List PV := [es l.code, encTimes l.away]
structure Start where
  (day slot : Int)
def Start.row (s : Start) : List PV := [ei s.day, ei s.slot]
structure Class where
  (code course part : Str)
  (len : Int)
  (pats : List Int)
  (seats : Int)
  (feats staff : List Str)
  (starts : List Start)
def Class.row (c : Class) : List PV := [es c.code, es c.course, es c.part, ei c.len, encInts c.pats, ei c.seats, encStrs c.feats, encStrs c.staff, .sl 2 (c.starts.map Start.row)]
structure Curri where
  (code : Str)
  (courses : List Str)
def Curri.row (c : Curri) : List PV := [es c.code, encStrs c.courses]
structure Req where
  (student course : Str)
  (prio : Int)
  (instead : List Str)
def Req.row (r : Req) : List PV := [es r.student, es r.course, ei r.prio, encStrs r.instead]
structure Reg where
  (grid : Grid)
  (term : Term)
  (rooms : List Room)
  (travel : Travel)
  (staff : List Lecturer)
  (classes : List Class)
  (curris : List Curri)
  (reqs : List Req)
def Reg.cells (r : Reg) : List PV := [ei r.grid.days, ei r.grid.slots, ei r.grid.begin_, ei r.grid.mins, ei r.term.first, ei r.term.weeks, encInts r.term.hols, encRooms r.rooms, encStrs r.travel.blds, .sl 1 (r.travel.slots.map intsRow),
  .sl 2 (r.staff.map Lecturer.row), .sl 9 (r.classes.map Class.row), .sl 2 (r.curris.map Curri.row), .sl 4 (r.reqs.map Req.row)]
abbrev ag (l : List PV) : AV := .agg (pvs l)
end Go.Proofs.YtkbaecjnhmbeeaaGreat.Cw
/-
  Words for what functions answer.
-/
namespace Go.Proofs.YtkbaecjnhmbeeaaGreat.Cw
open Go.Cw Go.Proofs
set_option linter.unusedVariables false
noncomputable abbrev pB (p : Prop) : Bool := @decide p (Classical.propDecidable p)
theorem pB_t {p : Prop} (h : p) : pB p = true := by simp [h]
theorem pB_f {p : Prop} (h : ¬ p) : pB p = false := by simp [h]
theorem pB_iff {p q : Prop} (h : p ↔ q) : pB p = pB q := by simp [h]
theorem pB_eq {p : Prop} {b : Bool} (h : b = true ↔ p) : b = pB p := by
  cases b <;> simp at h <;> simp [h]
def firstE (f : Nat → Int) : Nat → Int
  | 0 => 0
  | n + 1 => if firstE f n = 0 then f n else firstE f n
theorem firstE_zero {f : Nat → Int} : ∀ {n : Nat}, (∀ i, i < n → f i = 0) → firstE f n = 0
  | 0, _ => rfl
  | n + 1, h => by simp [firstE, firstE_zero (n := n) fun i hi => h i (by omega), h n (by omega)]
theorem firstE_at {f : Nat → Int} {i : Nat} (h0 : ∀ j, j < i → f j = 0) (hi : f i ≠ 0) : ∀ {n : Nat}, i < n → firstE f n = f i
  | 0, h => by omega
  | n + 1, h => by
    rcases Nat.lt_or_ge i n with h1 | h1
    · rw [firstE, firstE_at h0 hi h1, if_neg hi]
    · have : i = n := by omega
      subst this
      rw [firstE, firstE_zero h0, if_pos rfl]
theorem firstE_zero_iff {f : Nat → Int} : ∀ {n : Nat}, firstE f n = 0 ↔ ∀ i, i < n → f i = 0
  | 0 => by simp [firstE]
  | n + 1 => by
    refine ⟨fun h i hi => ?_, firstE_zero⟩
    simp only [firstE] at h
    split at h
    · rename_i h0
      rcases Nat.lt_or_ge i n with h1 | h1
      · exact firstE_zero_iff.1 h0 i h1
      · have : i = n := by omega
        subst this; exact h
    · rename_i h0; exact absurd h h0
theorem all_lt_succ {p : Nat → Prop} {i : Nat} (h : ∀ j, j < i → p j) (hi : p i) : ∀ j, j < i + 1 → p j := fun j hj => by
  rcases Nat.lt_or_ge j i with h1 | h1
  · exact h j h1
  · have : j = i := by omega
    subst this; exact hi
theorem str_at {s : Str} {i : Nat} (h : i < s.size) : ∃ b, s[i]? = some b := ⟨_, by rw [ByteArray.getElem?_lt' s _ h]⟩
theorem sEq_iff {x y : Str} : sEq x y = true ↔ x = y := by
  unfold sEq bts
  rw [beq_iff_eq, Array.toList_inj]
  exact ⟨fun h => ByteArray.ext h, fun h => by rw [h]⟩
theorem sEq_f {x y : Str} : sEq x y = false ↔ x ≠ y := by
  rw [← Bool.not_eq_true, sEq_iff]
theorem mulw {a b : Int} (ha : 0 ≤ a ∧ a ≤ 1000000) (hb : 0 ≤ b ∧ b ≤ 1000000) : 0 ≤ a * b ∧ a * b ≤ 1000000000000 :=
  ⟨Int.mul_nonneg ha.1 hb.1, Int.le_trans (Int.mul_le_mul ha.2 hb.2 hb.1 (by omega)) (by omega)⟩
theorem eqv_mul {a b : Int} {K : Int → Prop} (ha : 0 ≤ a ∧ a ≤ 1000000) (hb : 0 ≤ b ∧ b ≤ 1000000) (h : 0 ≤ a * b → a * b ≤ 1000000000000 → K (a * b)) : eqv (IntKind.i64.wrap (a * b)) K :=
  eqv_wrap (by have := mulw ha hb; omega) (by have := mulw ha hb; omega) (h (mulw ha hb).1 (mulw ha hb).2)
theorem pow2_pos (n : Nat) : (1 : Int) ≤ 2 ^ n := by
  induction n with
  | zero => simp
  | succ n ih => rw [Int.pow_succ]; omega
theorem pow2_le {n : Nat} (h : n ≤ 40) : (2 : Int) ^ n ≤ 1099511627776 := by
  have h1 : (2 : Nat) ^ n ≤ 2 ^ 40 := Nat.pow_le_pow_right (by omega) h
  have h2 : ((2 ^ n : Nat) : Int) = (2 : Int) ^ n := by simp
  have h3 : (2 : Nat) ^ 40 = 1099511627776 := by decide
  omega
theorem eqv_shl {n : Int} {K : Int → Prop} (h : 0 ≤ n ∧ n ≤ 40) (hk : K (2 ^ n.toNat)) : eqv (IntKind.i64.wrap (1 * 2 ^ (min n.toNat IntKind.i64.bits))) K := by
  have e : min n.toNat IntKind.i64.bits = n.toNat := by simp [IntKind.bits]; omega
  rw [e, Int.one_mul]
  have h1 := pow2_pos n.toNat
  have h2 := pow2_le (n := n.toNat) (by omega)
  exact eqv_wrap (by omega) (by omega) hk
theorem eqv_u64 {x : Int} {K : Int → Prop} (h1 : 0 ≤ x) (h2 : x < 18446744073709551616) (h : K x) : eqv (IntKind.u64.wrap x) K :=
  ⟨x, by simp only [IntKind.wrap, IntKind.bits, IntKind.signed]; first | omega | (simp; omega), h⟩
def idxB {α : Type} (p : α → Bool) (l : List α) : Int := match l.findIdx? p with
  | some i => i
  | none => -1
theorem idxB_at {α : Type} {p : α → Bool} {l : List α} {i : Nat} {x : α} (h0 : ∀ j, j < i → ∀ y, l[j]? = some y → p y = false) (hx : l[i]? = some x) (hp : p x = true) : idxB p l = i := by
  have hi := (List.getElem?_eq_some_iff.1 hx).1
  have : l.findIdx? p = some i := by
    rw [List.findIdx?_eq_some_iff_getElem]
    refine ⟨hi, ?_, fun j hj => ?_⟩
    · rw [(List.getElem?_eq_some_iff.1 hx).2]; exact hp
    · have := h0 j hj l[j] (List.getElem?_eq_getElem (by omega))
      simp [this]
  simp [idxB, this]
theorem idxB_none {α : Type} {p : α → Bool} {l : List α} (h : ∀ j, j < l.length → ∀ y, l[j]? = some y → p y = false) : idxB p l = -1 := by
  have : l.findIdx? p = none := by
    rw [List.findIdx?_eq_none_iff]
    intro x hx
    obtain ⟨i, hi, rfl⟩ := List.getElem_of_mem hx
    exact h i hi _ (List.getElem?_eq_getElem hi)
  simp [idxB, this]
theorem idxB_any {α : Type} {p : α → Bool} {l : List α} : decide (idxB p l ≥ 0) = l.any p := by
  unfold idxB
  split
  · rename_i i hi
    have := List.findIdx?_eq_some_iff_getElem.1 hi
    obtain ⟨h1, h2, _⟩ := this
    rw [List.any_eq_true.2 ⟨_, List.getElem_mem h1, h2⟩]
    simp
  · rename_i hi
    rw [List.findIdx?_eq_none_iff] at hi
    have : l.any p = false := List.any_eq_false.2 fun x hx => by simp [hi x hx]
    rw [this]; rfl
end Go.Proofs.YtkbaecjnhmbeeaaGreat.Cw
/-
  Contracts: characters, codes.
-/
namespace Go.Proofs.YtkbaecjnhmbeeaaGreat.Cw
open Go.Cw Go.Proofs
set_option linter.unusedVariables false
set_option maxRecDepth 100000
def digB (c : Int) : Bool := decide (48 ≤ c ∧ c ≤ 57)
def letB (c : Int) : Bool := decide ((65 ≤ c ∧ c ≤ 90) ∨ (97 ≤ c ∧ c ≤ 122))
theorem c_digit (c : Int) : PCall Tryz.prog 220 [vint .u8 c] (fun r => r = vbool (digB c)) := by
  refine acall_of tok mixed 9 rfl (fn := Tryz.f220) (c := Tryz.f220.body.getD .skip) (by kernel_rfl) (by kernel_rfl) (by kernel_rfl) rfl 0 rfl ?_
  repeat' (first | refine o1 ?_ | refine o2 ?_ | refine k1 ?_ | refine k2 ?_ | refine k7 ?_ | refine And.intro ?_ ?_ | (intro h; first | exact Bool.noConfusion h | exact nz _ h | exact nl h | (simp at h; done) | (simp at h; first | (exfalso; omega) | skip) | skip) | fail); all_goals try (change retOk _ _ _ _; refine ret_pure rfl trivial ?_)
  all_goals (refine congrArg vbool ?_; unfold digB; first | (simp; omega) | (simp_all; done) | grind)
theorem c_letter (c : Int) : PCall Tryz.prog 221 [vint .u8 c] (fun r => r = vbool (letB c)) := by
  refine acall_of tok mixed 17 rfl (fn := Tryz.f221) (c := Tryz.f221.body.getD .skip) (by kernel_rfl) (by kernel_rfl) (by kernel_rfl) rfl 0 rfl ?_
  repeat' (first | refine o1 ?_ | refine o2 ?_ | refine k1 ?_ | refine k2 ?_ | refine k7 ?_ | refine And.intro ?_ ?_ | (intro h; first | exact Bool.noConfusion h | exact nz _ h | exact nl h | (simp at h; done) | (simp at h; first | (exfalso; omega) | skip) | skip) | fail); all_goals try (change retOk _ _ _ _; refine ret_pure rfl trivial ?_)
  all_goals (refine congrArg vbool ?_; unfold letB; grind)
def chrP (i : Nat) (c : Int) : Prop := digB c = true ∨ letB c = true ∨ (0 < i ∧ (c = 95 ∨ c = 45))
def codeP (s : Str) : Prop := 1 ≤ s.size ∧ s.size ≤ 16 ∧ ∀ i, i < s.size → ∀ b, s[i]? = some b → chrP i b.toNat
theorem codeP_next {s : Str} {i : Nat} {b : UInt8} (hall : ∀ j, j < i → ∀ b, s[j]? = some b → chrP j b.toNat) (hb : s[i]? = some b) (h : chrP i b.toNat) : ∀ j, j < i + 1 → ∀ b, s[j]? = some b → chrP j b.toNat :=
  all_lt_succ hall fun b' hb' => by rw [hb] at hb'; injection hb' with hb'; subst hb'; exact h
theorem c_code (s : Str) : PCall Tryz.prog 123 [.pv (es s)] (fun r => r = vbool (pB (codeP s))) := by
  refine acall_of tok mixed 49 rfl (fn := Tryz.f123) (c := Tryz.f123.body.getD .skip) (by kernel_rfl) (by kernel_rfl) (by kernel_rfl) rfl 0 rfl ?_
  repeat' (first | refine o1 ?_ | refine o2 ?_ | refine k1 ?_ | refine k2 ?_ | refine k3 ?_ | refine k4 ?_ | refine k6 ?_ | refine k7 ?_ | refine And.intro ?_ ?_ | (intro h; first | exact Bool.noConfusion h | exact nz _ h | exact nl h | (simp at h; done) | (simp at h; first | (exfalso; omega) | skip) | skip) | refine eqv_size ?_ | fail); all_goals try (change retOk _ _ _ _; refine ret_pure rfl trivial ?_)
  · exact congrArg vbool (pB_f fun h => by have := h.2.1; omega).symm
  · refine loop_at (fun i : Nat => [(15, vint .i64 i)]) (fun _ => []) (fun i => i ≤ s.size ∧ ∀ j, j < i → ∀ b, s[j]? = some b → chrP j b.toNat) (fun i => s.size - i) 0 ⟨by omega, fun j hj => by omega⟩ (by repeat' (first | exact trivial | exact ⟨_, rfl, ALe.refl⟩ | refine And.intro ?_ ?_)) (by repeat' (first | exact trivial)) ?_
    intro i ⟨hi, hall⟩
    rcases Nat.lt_or_ge i s.size with hlt | hge
    · obtain ⟨b, hb⟩ := str_at hlt
      repeat' (first | refine o1 ?_ | refine o2 ?_ | refine k1 ?_ | refine k2 ?_ | refine k3 ?_ | refine k4 ?_ | refine k6 ?_ | refine k7 ?_ | refine And.intro ?_ ?_ | (intro h; first | exact Bool.noConfusion h | exact nz _ h | exact nl h | (simp at h; done) | (simp at h; first | (exfalso; omega) | skip) | skip) | (change retOk _ _ _ _; refine ret_pure rfl trivial ?_) | refine eqv_wrap (by omega) (by omega) ?_ | refine ⟨_, _, (by first | rfl | assumption), (by assumption), ?_⟩ | (change vcFun _ _ _ _ _; refine call_eq rfl (by repeat' (first | trivial | refine And.intro ?_ ?_ | (show 0 + _ ≤ List.length _; simp))) ALeL.refl (c_digit _) rfl ?_) | (change vcFun _ _ _ _ _; refine call_eq rfl (by repeat' (first | trivial | refine And.intro ?_ ?_ | (show 0 + _ ≤ List.length _; simp))) ALeL.refl (c_letter _) rfl ?_) | fail)
      all_goals first
        | (exfalso; omega)
        | exact ⟨i + 1, ⟨by omega, codeP_next hall hb (by simp [chrP, *])⟩, by omega, back [] rfl rfl trivial (by repeat' (first | exact trivial | exact rfl | refine And.intro ?_ ?_))⟩
        | (refine congrArg vbool (pB_f fun h => ?_).symm; have := h.2.2 i hlt b hb; simp [chrP, *] at this; done)
    · repeat' (first | refine o1 ?_ | refine o2 ?_ | refine k1 ?_ | refine k2 ?_ | refine k3 ?_ | refine k7 ?_ | refine k8 ?_ | refine And.intro ?_ ?_ | (intro h; first | exact Bool.noConfusion h | exact nz _ h | exact nl h | (simp at h; done) | (simp at h; first | (exfalso; omega) | skip) | skip) | (change retOk _ _ _ _; refine ret_pure rfl trivial ?_) | fail)
      all_goals first
        | (exfalso; omega)
        | (refine congrArg vbool (pB_t ?_).symm; exact ⟨by omega, by omega, fun j hj => hall j (by omega)⟩)
  · exact congrArg vbool (pB_f fun h => by have := h.1; omega).symm
end Go.Proofs.YtkbaecjnhmbeeaaGreat.Cw
/-
  Contracts: codes that ascend.
-/
namespace Go.Proofs.YtkbaecjnhmbeeaaGreat.Cw
open Go.Cw Go.Proofs
set_option linter.unusedVariables false
set_option maxRecDepth 100000
def risP (l : List Str) : Prop := ∀ i, i + 1 < l.length → ∀ s p, l[i + 1]? = some s → l[i]? = some p → sLe s p = false
def codesP (l : List Str) : Prop := ∀ i, i < l.length → ∀ s, l[i]? = some s → codeP s
def ascP (l : List Str) : Prop := codesP l ∧ risP l
def ascTo (l : List Str) (i : Nat) : Prop := (∀ j, j < i → ∀ s, l[j]? = some s → codeP s) ∧ ∀ j, j + 1 < i → ∀ s p, l[j + 1]? = some s → l[j]? = some p → sLe s p = false
theorem ascTo_next {l : List Str} {i : Nat} {s : Str} (h : ascTo l i) (hs : l[i]? = some s) (h1 : codeP s) (h2 : ∀ k p, i = k + 1 → l[k]? = some p → sLe s p = false) : ascTo l (i + 1) :=
  ⟨all_lt_succ h.1 fun s' h' => by rw [hs] at h'; injection h' with h'; subst h'; exact h1, fun j hj s' p h3 h4 => by
    rcases Nat.lt_or_ge (j + 1) i with h5 | h5
    · exact h.2 j h5 s' p h3 h4
    · have : i = j + 1 := by omega
      subst this
      rw [hs] at h3; injection h3 with h3; subst h3
      exact h2 j p rfl h4⟩
theorem ascTo_all {l : List Str} {i : Nat} (h : ascTo l i) (hi : l.length ≤ i) : ascP l := ⟨fun j hj => h.1 j (by omega), fun j hj => h.2 j (by omega)⟩
theorem c_asc (l : List Str) (hl : l.length ≤ 1000) : PCall Tryz.prog 124 [.pv (encStrs l)] (fun r => r = vbool (pB (ascP l))) := by
  refine acall_of tok mixed 29 rfl (fn := Tryz.f124) (c := Tryz.f124.body.getD .skip) (by kernel_rfl) (by kernel_rfl) (by kernel_rfl) rfl 0 rfl ?_
  repeat' (first | refine o1 ?_ | refine o2 ?_ | refine k1 ?_ | refine k2 ?_ | refine k4 ?_ | refine eqv_len_map ?_ | fail)
  refine loop_at (fun i : Nat => [(7, vint .i64 i)]) (fun _ => []) (fun i => i ≤ l.length ∧ ascTo l i) (fun i => l.length - i) 0 ⟨by omega, fun j hj => by omega, fun j hj => by omega⟩ (by repeat' (first | exact trivial | exact ⟨_, rfl, ALe.refl⟩ | refine And.intro ?_ ?_)) (by repeat' (first | exact trivial)) ?_
  intro i ⟨hi, hall⟩
  rcases Nat.lt_or_ge i l.length with hlt | hge
  · obtain ⟨s, hs⟩ := getE hlt
    rcases i with _ | k
    · repeat' (first | refine o1 ?_ | refine o2 ?_ | refine k1 ?_ | refine k2 ?_ | refine k3 ?_ | refine k4 ?_ | refine k6 ?_ | refine k7 ?_ | refine k8 ?_ | refine And.intro ?_ ?_ | (intro h; first | exact Bool.noConfusion h | exact nz _ h | exact nl h | (simp at h; done) | (simp at h; first | (exfalso; omega) | skip) | skip) | (change retOk _ _ _ _; refine ret_pure rfl trivial ?_) | refine eqv_wrap (by omega) (by omega) ?_ | refine ⟨_, _, (by first | rfl | assumption), at_map (by assumption), ?_⟩ | (change vcFun _ _ _ _ _; refine call_eq rfl (by repeat' (first | trivial | refine And.intro ?_ ?_ | (show 0 + _ ≤ List.length _; simp))) ALeL.refl (c_code _) rfl ?_) | fail)
      all_goals first
        | (exfalso; simp_all; done)
        | exact ⟨1, ⟨by omega, ascTo_next hall hs (by assumption) (fun k p e => by omega)⟩, by omega, back [] rfl rfl trivial (by repeat' (first | exact trivial | exact rfl | refine And.intro ?_ ?_))⟩
        | (refine congrArg vbool (pB_f fun h => ?_).symm; have := h.1 0 hlt s hs; simp_all; done)
    · obtain ⟨p, hp⟩ := getE (show k < l.length by omega)
      repeat' (first | (refine idx_sl (k := k + 1) (at_map hs) (by omega) ?_) | (refine idx_sl (k := k) (at_map hp) (by omega) ?_) | refine o1 ?_ | refine o2 ?_ | refine k1 ?_ | refine k2 ?_ | refine k3 ?_ | refine k4 ?_ | refine k6 ?_ | refine k7 ?_ | refine And.intro ?_ ?_ | (intro h; first | exact Bool.noConfusion h | exact nz _ h | exact nl h | (simp at h; done) | (simp at h; first | (exfalso; omega) | skip) | skip) | (change retOk _ _ _ _; refine ret_pure rfl trivial ?_) | refine eqv_wrap (by omega) (by omega) ?_ | (change vcFun _ _ _ _ _; refine call_eq rfl (by repeat' (first | trivial | refine And.intro ?_ ?_ | (show 0 + _ ≤ List.length _; simp))) ALeL.refl (c_code _) rfl ?_) | fail)
      all_goals first
        | (exfalso; omega)
        | exact ⟨k + 2, ⟨by omega, ascTo_next hall hs (by assumption) (fun k' p' e h' => by cases e; rw [hp] at h'; cases h'; assumption)⟩, by omega, back [] rfl rfl trivial (by repeat' (first | exact trivial | exact rfl | refine And.intro ?_ ?_))⟩
        | (refine congrArg vbool (pB_f fun h => ?_).symm; first | exact absurd (h.1 (k + 1) hlt s hs) (by assumption) | (have := h.2 k hlt s p hs hp; simp_all; done))
  · repeat' (first | refine o1 ?_ | refine o2 ?_ | refine k1 ?_ | refine k2 ?_ | refine k3 ?_ | refine k7 ?_ | refine k8 ?_ | refine And.intro ?_ ?_ | (intro h; first | exact Bool.noConfusion h | exact nz _ h | exact nl h | (simp at h; done) | (simp at h; first | (exfalso; omega) | skip) | skip) | (change retOk _ _ _ _; refine ret_pure rfl trivial ?_) | fail)
    all_goals first
      | (exfalso; omega)
      | (exact congrArg vbool (pB_t (ascTo_all hall hge)).symm)
/-! The reference. -/
theorem c_rdigit (c : Int) : PCall Tryz.prog 242 [vint .u8 c] (fun r => r = vbool (digB c)) := by
  refine acall_of tok mixed 9 rfl (fn := Tryz.f242) (c := Tryz.f242.body.getD .skip) (by kernel_rfl) (by kernel_rfl) (by kernel_rfl) rfl 0 rfl ?_
  repeat' (first | refine o1 ?_ | refine o2 ?_ | refine k1 ?_ | refine k2 ?_ | refine k7 ?_ | refine And.intro ?_ ?_ | (intro h; first | exact Bool.noConfusion h | exact nz _ h | exact nl h | (simp at h; done) | (simp at h; first | (exfalso; omega) | skip) | skip) | fail); all_goals try (change retOk _ _ _ _; refine ret_pure rfl trivial ?_)
  all_goals (refine congrArg vbool ?_; unfold digB; grind)
theorem c_rletter (c : Int) : PCall Tryz.prog 243 [vint .u8 c] (fun r => r = vbool (letB c)) := by
  refine acall_of tok mixed 17 rfl (fn := Tryz.f243) (c := Tryz.f243.body.getD .skip) (by kernel_rfl) (by kernel_rfl) (by kernel_rfl) rfl 0 rfl ?_
  repeat' (first | refine o1 ?_ | refine o2 ?_ | refine k1 ?_ | refine k2 ?_ | refine k7 ?_ | refine And.intro ?_ ?_ | (intro h; first | exact Bool.noConfusion h | exact nz _ h | exact nl h | (simp at h; done) | (simp at h; first | (exfalso; omega) | skip) | skip) | fail); all_goals try (change retOk _ _ _ _; refine ret_pure rfl trivial ?_)
  all_goals (refine congrArg vbool ?_; unfold letB; grind)
theorem c_rcode (s : Str) : PCall Tryz.prog 178 [.pv (es s)] (fun r => r = vbool (pB (codeP s))) := by
  refine acall_of tok mixed 52 rfl (fn := Tryz.f178) (c := Tryz.f178.body.getD .skip) (by kernel_rfl) (by kernel_rfl) (by kernel_rfl) rfl 0 rfl ?_
  rcases Nat.lt_or_ge 0 s.size with h0 | h0
  · obtain ⟨a, ha⟩ := str_at h0
    have hno : (a.toNat : Int) = 95 ∨ (a.toNat : Int) = 45 → ¬ codeP s := fun h hc => by
      rcases hc.2.2 0 h0 a ha with h1 | h1 | h1
      · simp [digB] at h1; omega
      · simp [letB] at h1; omega
      · omega
    repeat' (first | refine o1 ?_ | refine o2 ?_ | refine k1 ?_ | refine k2 ?_ | refine k3 ?_ | refine k4 ?_ | refine k6 ?_ | refine k7 ?_ | refine And.intro ?_ ?_ | (intro h; first | exact Bool.noConfusion h | exact nz _ h | exact nl h | (simp at h; done) | (simp at h; first | (exfalso; omega) | skip) | skip) | (change retOk _ _ _ _; refine ret_pure rfl trivial ?_) | refine eqv_size ?_ | refine ⟨_, _, (by first | rfl | assumption), (by assumption), ?_⟩ | fail)
    case' refine_1.refine_1.refine_1.refine_2 =>
      refine loop_at (fun i : Nat => [(3, vint .i64 i)]) (fun _ => []) (fun i => i ≤ s.size ∧ ∀ j, j < i → ∀ b, s[j]? = some b → chrP j b.toNat) (fun i => s.size - i) 0 ⟨by omega, fun j hj => by omega⟩ (by repeat' (first | exact trivial | exact ⟨_, rfl, ALe.refl⟩ | refine And.intro ?_ ?_)) (by repeat' (first | exact trivial)) ?_
      intro i ⟨hi, hall⟩
      rcases Nat.lt_or_ge i s.size with hlt | hge
      · obtain ⟨b, hb⟩ := str_at hlt
        have h00 : i = 0 → a = b := fun e => by subst e; rw [ha] at hb; injection hb
        have hpos : (b.toNat : Int) = 95 ∨ (b.toNat : Int) = 45 → 0 < i := fun h => by
          rcases Nat.eq_zero_or_pos i with h9 | h9
          · have := h00 h9; subst this; omega
          · exact h9
        repeat' (first | (refine ⟨i, b, rfl, hb, ?_⟩) | refine o1 ?_ | refine o2 ?_ | refine k1 ?_ | refine k2 ?_ | refine k3 ?_ | refine k4 ?_ | refine k6 ?_ | refine k7 ?_ | refine And.intro ?_ ?_ | (intro h; first | exact Bool.noConfusion h | exact nz _ h | exact nl h | (simp at h; done) | (simp at h; first | (exfalso; omega) | skip) | skip) | (change retOk _ _ _ _; refine ret_pure rfl trivial ?_) | refine eqv_size ?_ | refine eqv_wrap (by omega) (by omega) ?_ | (change vcFun _ _ _ _ _; refine call_eq rfl (by repeat' (first | trivial | refine And.intro ?_ ?_ | (show 0 + _ ≤ List.length _; simp))) ALeL.refl (c_rdigit _) rfl ?_) | (change vcFun _ _ _ _ _; refine call_eq rfl (by repeat' (first | trivial | refine And.intro ?_ ?_ | (show 0 + _ ≤ List.length _; simp))) ALeL.refl (c_rletter _) rfl ?_) | fail)
        all_goals first
          | exact ⟨i + 1, ⟨by omega, codeP_next hall hb (by unfold chrP; first | exact .inl (by assumption) | exact .inr (.inl (by assumption)) | exact .inr (.inr ⟨hpos (by omega), by omega⟩))⟩, by omega, back [] rfl rfl trivial (by repeat' (first | exact trivial | exact rfl | refine And.intro ?_ ?_))⟩
          | (refine congrArg vbool (pB_f fun h => ?_).symm; have := h.2.2 i hlt b hb; simp [chrP, *] at this; done)
      · repeat' (first | refine o1 ?_ | refine o2 ?_ | refine k1 ?_ | refine k2 ?_ | refine k3 ?_ | refine k7 ?_ | refine k8 ?_ | refine And.intro ?_ ?_ | (intro h; first | exact Bool.noConfusion h | exact nz _ h | exact nl h | (simp at h; done) | (simp at h; first | (exfalso; omega) | skip) | skip) | (change retOk _ _ _ _; refine ret_pure rfl trivial ?_) | refine eqv_size ?_ | fail)
        refine congrArg vbool (pB_t ?_).symm
        exact ⟨by omega, by omega, fun j hj => hall j (by omega)⟩
    all_goals first
      | exact congrArg vbool (pB_f (hno (by omega))).symm
      | exact congrArg vbool (pB_f fun h => by have := h.1; have := h.2.1; omega).symm
  · repeat' (first | refine o1 ?_ | refine o2 ?_ | refine k1 ?_ | refine k2 ?_ | refine k3 ?_ | refine k7 ?_ | refine And.intro ?_ ?_ | (intro h; first | exact Bool.noConfusion h | exact nz _ h | exact nl h | (simp at h; done) | (simp at h; first | (exfalso; omega) | skip) | skip) | (change retOk _ _ _ _; refine ret_pure rfl trivial ?_) | refine eqv_size ?_ | fail)
    all_goals exact congrArg vbool (pB_f fun h => by have := h.1; have := h.2.1; omega).symm
theorem c_ris (l : List Str) (hl : l.length ≤ 1000) : PCall Tryz.prog 244 [.pv (encStrs l)] (fun r => r = vbool (pB (risP l))) := by
  refine acall_of tok mixed 20 rfl (fn := Tryz.f244) (c := Tryz.f244.body.getD .skip) (by kernel_rfl) (by kernel_rfl) (by kernel_rfl) rfl 0 rfl ?_
  repeat' (first | refine o1 ?_ | refine o2 ?_ | refine k1 ?_ | refine k2 ?_ | refine k4 ?_ | fail)
  refine loop_at (fun i : Nat => [(3, vint .i64 (i + 1))]) (fun _ => []) (fun i => (i = 0 ∨ i + 1 ≤ l.length) ∧ ∀ j, j < i → ∀ s p, l[j + 1]? = some s → l[j]? = some p → sLe s p = false) (fun i => l.length - i) 0 ⟨by omega, fun j hj => by omega⟩ (by repeat' (first | exact trivial | exact ⟨_, rfl, ALe.refl⟩ | refine And.intro ?_ ?_)) (by repeat' (first | exact trivial)) ?_
  intro k ⟨hi, hall⟩
  rcases Nat.lt_or_ge (k + 1) l.length with hlt | hge
  · obtain ⟨s, hs⟩ := getE hlt
    obtain ⟨p, hp⟩ := getE (show k < l.length by omega)
    repeat' (first | (refine idx_sl (k := k + 1) (at_map hs) (by omega) ?_) | (refine idx_sl (k := k) (at_map hp) (by omega) ?_) | refine o1 ?_ | refine o2 ?_ | refine k1 ?_ | refine k2 ?_ | refine k3 ?_ | refine k4 ?_ | refine k6 ?_ | refine k7 ?_ | refine And.intro ?_ ?_ | refine o3 ?_ | refine o4 ?_ | (intro h; first | exact Bool.noConfusion h | exact nz _ h | exact nl h | (simp at h; done) | (simp at h; first | (exfalso; omega) | skip) | skip) | (change retOk _ _ _ _; refine ret_pure rfl trivial ?_) | exact (by kernel_rfl : drawOk _ _ = true) | refine eqv_len_map ?_ | refine eqv_wrap (by omega) (by omega) ?_ | fail)
    all_goals first
      | exact ⟨k + 1, ⟨by omega, all_lt_succ hall fun s' p' h1 h2 => by rw [hs] at h1; cases h1; rw [hp] at h2; cases h2; assumption⟩, by omega, back [] rfl rfl trivial (by repeat' (first | exact trivial | exact rfl | refine And.intro ?_ ?_))⟩
      | (refine congrArg vbool (pB_f fun h => ?_).symm; have := h k hlt s p hs hp; simp_all; done)
  · repeat' (first | refine o1 ?_ | refine o2 ?_ | refine k1 ?_ | refine k2 ?_ | refine k3 ?_ | refine k7 ?_ | refine k8 ?_ | refine And.intro ?_ ?_ | (intro h; first | exact Bool.noConfusion h | exact nz _ h | exact nl h | (simp at h; done) | (simp at h; first | (exfalso; omega) | skip) | skip) | (change retOk _ _ _ _; refine ret_pure rfl trivial ?_) | refine eqv_len_map ?_ | fail)
    exact congrArg vbool (pB_t fun j hj => hall j (by omega)).symm
theorem c_rcodes (l : List Str) (hl : l.length ≤ 1000) : PCall Tryz.prog 179 [.pv (encStrs l)] (fun r => r = vbool (pB (ascP l))) := by
  refine acall_of tok mixed 18 rfl (fn := Tryz.f179) (c := Tryz.f179.body.getD .skip) (by kernel_rfl) (by kernel_rfl) (by kernel_rfl) rfl 0 rfl ?_
  repeat' (first | refine o1 ?_ | refine o2 ?_ | refine k1 ?_ | refine k2 ?_ | refine k4 ?_ | fail)
  refine loop_at (fun i : Nat => [(3, vint .i64 i)]) (fun _ => []) (fun i => i ≤ l.length ∧ ∀ j, j < i → ∀ s, l[j]? = some s → codeP s) (fun i => l.length - i) 0 ⟨by omega, fun j hj => by omega⟩ (by repeat' (first | exact trivial | exact ⟨_, rfl, ALe.refl⟩ | refine And.intro ?_ ?_)) (by repeat' (first | exact trivial)) ?_
  intro i ⟨hi, hall⟩
  rcases Nat.lt_or_ge i l.length with hlt | hge
  · obtain ⟨s, hs⟩ := getE hlt
    repeat' (first | refine o1 ?_ | refine o2 ?_ | refine k1 ?_ | refine k2 ?_ | refine k3 ?_ | refine k4 ?_ | refine k6 ?_ | refine k7 ?_ | refine And.intro ?_ ?_ | (intro h; first | exact Bool.noConfusion h | exact nz _ h | exact nl h | (simp at h; done) | (simp at h; first | (exfalso; omega) | skip) | skip) | (change retOk _ _ _ _; refine ret_pure rfl trivial ?_) | refine eqv_len_map ?_ | refine eqv_wrap (by omega) (by omega) ?_ | refine ⟨_, _, (by first | rfl | assumption), at_map (by assumption), ?_⟩ | (change vcFun _ _ _ _ _; refine call_eq rfl (by repeat' (first | trivial | refine And.intro ?_ ?_ | (show 0 + _ ≤ List.length _; simp))) ALeL.refl (c_rcode _) rfl ?_) | fail)
    all_goals first
      | exact ⟨i + 1, ⟨by omega, all_lt_succ hall fun s' h1 => by rw [hs] at h1; cases h1; assumption⟩, by omega, back [] rfl rfl trivial (by repeat' (first | exact trivial | exact rfl | refine And.intro ?_ ?_))⟩
      | (refine congrArg vbool (pB_f fun h => ?_).symm; exact absurd (h.1 i hlt s hs) (by assumption))
  · repeat' (first | refine o1 ?_ | refine o2 ?_ | refine k1 ?_ | refine k2 ?_ | refine k3 ?_ | refine k7 ?_ | refine k8 ?_ | refine And.intro ?_ ?_ | (intro h; first | exact Bool.noConfusion h | exact nz _ h | exact nl h | (simp at h; done) | (simp at h; first | (exfalso; omega) | skip) | skip) | (change retOk _ _ _ _; refine ret_pure rfl trivial ?_) | refine eqv_len_map ?_ | (change vcFun _ _ _ _ _; refine call_eq rfl (by repeat' (first | trivial | refine And.intro ?_ ?_ | (show 0 + _ ≤ List.length _; simp))) ALeL.refl (c_ris _ hl) rfl ?_) | fail)
    exact congrArg vbool (pB_iff ⟨fun h => ⟨fun j hj => hall j (by omega), h⟩, fun h => h.2⟩)
end Go.Proofs.YtkbaecjnhmbeeaaGreat.Cw
/-
  Contracts: lists that contain.
-/
namespace Go.Proofs.YtkbaecjnhmbeeaaGreat.Cw
open Go.Cw Go.Proofs
set_option linter.unusedVariables false
set_option maxRecDepth 100000
set_option maxHeartbeats 800000
theorem has_f {l : List Str} {s : Str} (h : ∀ j, j < l.length → ∀ q, l[j]? = some q → q ≠ s) : ¬ s ∈ l := fun hs => by
  obtain ⟨j, hj⟩ := List.getElem?_of_mem hs
  exact h j (List.getElem?_eq_some_iff.1 hj).1 s hj rfl
theorem c_has (l : List Str) (s : Str) (hl : l.length ≤ 100000) : PCall Tryz.prog 106 [.pv (encStrs l), .pv (es s)] (fun r => r = vbool (pB (s ∈ l))) := by
  refine acall_of tok mixed 18 rfl (fn := Tryz.f106) (c := Tryz.f106.body.getD .skip) (by kernel_rfl) (by kernel_rfl) (by kernel_rfl) rfl 0 rfl ?_
  repeat' (first | refine o1 ?_ | refine o2 ?_ | refine k1 ?_ | refine k2 ?_ | refine k4 ?_ | fail)
  refine loop_at (fun i : Nat => [(5, vint .i64 i)]) (fun _ => []) (fun i => i ≤ l.length ∧ ∀ j, j < i → ∀ q, l[j]? = some q → q ≠ s) (fun i => l.length - i) 0 ⟨by omega, fun j hj => by omega⟩ (by repeat' (first | exact trivial | exact ⟨_, rfl, ALe.refl⟩ | refine And.intro ?_ ?_)) (by repeat' (first | exact trivial)) ?_
  intro i ⟨hi, hall⟩
  rcases Nat.lt_or_ge i l.length with hlt | hge
  · obtain ⟨q, hq⟩ := getE hlt
    repeat' (first | refine o1 ?_ | refine o2 ?_ | refine k1 ?_ | refine k2 ?_ | refine k3 ?_ | refine k4 ?_ | refine k6 ?_ | refine k7 ?_ | refine And.intro ?_ ?_ | (intro h; first | exact Bool.noConfusion h | exact nz _ h | exact nl h | (simp at h; done) | (simp at h; first | (exfalso; omega) | skip) | skip) | (change retOk _ _ _ _; refine ret_pure rfl trivial ?_) | refine eqv_len_map ?_ | refine eqv_wrap (by omega) (by omega) ?_ | refine ⟨_, _, (by first | rfl | assumption), at_map (by assumption), ?_⟩ | fail)
    all_goals first
      | exact congrArg vbool (pB_t (by rw [← sEq_iff.1 (by assumption : sEq q s = true)]; exact List.mem_of_getElem? hq)).symm
      | exact ⟨i + 1, ⟨by omega, all_lt_succ hall fun q' h' => by rw [hq] at h'; cases h'; exact sEq_f.1 (by assumption)⟩, by omega, back [] rfl rfl trivial (by repeat' (first | exact trivial | exact rfl | refine And.intro ?_ ?_))⟩
  · repeat' (first | refine o1 ?_ | refine o2 ?_ | refine k1 ?_ | refine k2 ?_ | refine k3 ?_ | refine k7 ?_ | refine k8 ?_ | refine And.intro ?_ ?_ | (intro h; first | exact Bool.noConfusion h | exact nz _ h | exact nl h | (simp at h; done) | (simp at h; first | (exfalso; omega) | skip) | skip) | (change retOk _ _ _ _; refine ret_pure rfl trivial ?_) | refine eqv_len_map ?_ | fail)
    exact congrArg vbool (pB_f (has_f fun j hj => hall j (by omega))).symm
noncomputable def idxS (l : List Str) (s : Str) : Int := idxB (fun q => pB (q = s)) l
theorem idxS_has {l : List Str} {s : Str} : decide (idxS l s ≥ 0) = pB (s ∈ l) := by
  unfold idxS
  rw [idxB_any]
  by_cases h : s ∈ l
  · rw [pB_t h]; exact List.any_eq_true.2 ⟨s, h, pB_t rfl⟩
  · rw [pB_f h]; exact List.any_eq_false.2 fun q hq => by rw [pB_f (fun e : q = s => h (e ▸ hq))]; simp
theorem c_index (l : List Str) (s : Str) (hl : l.length ≤ 100000) : PCall Tryz.prog 224 [.pv (encStrs l), .pv (es s)] (fun r => r = vint .i64 (idxS l s)) := by
  refine acall_of tok mixed 19 rfl (fn := Tryz.f224) (c := Tryz.f224.body.getD .skip) (by kernel_rfl) (by kernel_rfl) (by kernel_rfl) rfl 0 rfl ?_
  repeat' (first | refine o1 ?_ | refine o2 ?_ | refine k1 ?_ | refine k2 ?_ | refine k4 ?_ | refine eqv_len_map ?_ | fail)
  refine loop_at (fun i : Nat => [(8, vint .i64 i)]) (fun _ => []) (fun i => i ≤ l.length ∧ ∀ j, j < i → ∀ q, l[j]? = some q → pB (q = s) = false) (fun i => l.length - i) 0 ⟨by omega, fun j hj => by omega⟩ (by repeat' (first | exact trivial | exact ⟨_, rfl, ALe.refl⟩ | refine And.intro ?_ ?_)) (by repeat' (first | exact trivial)) ?_
  intro i ⟨hi, hall⟩
  rcases Nat.lt_or_ge i l.length with hlt | hge
  · obtain ⟨q, hq⟩ := getE hlt
    repeat' (first | refine o1 ?_ | refine o2 ?_ | refine k1 ?_ | refine k2 ?_ | refine k3 ?_ | refine k4 ?_ | refine k6 ?_ | refine k7 ?_ | refine And.intro ?_ ?_ | (intro h; first | exact Bool.noConfusion h | exact nz _ h | exact nl h | (simp at h; done) | (simp at h; first | (exfalso; omega) | skip) | skip) | (change retOk _ _ _ _; refine ret_pure rfl trivial ?_) | refine eqv_wrap (by omega) (by omega) ?_ | refine ⟨_, _, (by first | rfl | assumption), at_map (by assumption), ?_⟩ | fail)
    all_goals first
      | exact congrArg (vint .i64) (idxB_at hall hq (pB_t (sEq_iff.1 (by assumption)).symm)).symm
      | exact ⟨i + 1, ⟨by omega, all_lt_succ hall fun q' h' => by rw [hq] at h'; cases h'; exact pB_f fun e => sEq_f.1 (by assumption) e.symm⟩, by omega, back [] rfl rfl trivial (by repeat' (first | exact trivial | exact rfl | refine And.intro ?_ ?_))⟩
  · repeat' (first | refine o1 ?_ | refine o2 ?_ | refine k1 ?_ | refine k2 ?_ | refine k3 ?_ | refine k7 ?_ | refine k8 ?_ | refine And.intro ?_ ?_ | (intro h; first | exact Bool.noConfusion h | exact nz _ h | exact nl h | (simp at h; done) | (simp at h; first | (exfalso; omega) | skip) | skip) | (change retOk _ _ _ _; refine ret_pure rfl trivial ?_) | fail)
    all_goals first
      | exact congrArg (vint .i64) (idxB_none fun j hj => hall j (by omega)).symm
theorem c_contains (l : List Str) (s : Str) (hl : l.length ≤ 100000) : PCall Tryz.prog 126 [.pv (encStrs l), .pv (es s)] (fun r => r = vbool (pB (s ∈ l))) := by
  refine acall_of tok mixed 9 rfl (fn := Tryz.f126) (c := Tryz.f126.body.getD .skip) (by kernel_rfl) (by kernel_rfl) (by kernel_rfl) rfl 0 rfl ?_
  repeat' (first | refine o1 ?_ | refine o2 ?_ | refine k1 ?_ | refine k2 ?_ | refine k7 ?_ | (change retOk _ _ _ _; refine ret_pure rfl trivial ?_) | (change vcFun _ _ _ _ _; refine call_eq rfl (by repeat' (first | trivial | refine And.intro ?_ ?_ | (show 0 + _ ≤ List.length _; simp))) ALeL.refl (c_index l s hl) rfl ?_) | fail)
  exact congrArg vbool idxS_has
noncomputable def idxN (l : List Int) (s : Int) : Int := idxB (fun q => pB (q = s)) l
theorem idxN_has {l : List Int} {s : Int} : decide (idxN l s ≥ 0) = pB (s ∈ l) := by
  unfold idxN
  rw [idxB_any]
  by_cases h : s ∈ l
  · rw [pB_t h]; exact List.any_eq_true.2 ⟨s, h, pB_t rfl⟩
  · rw [pB_f h]; exact List.any_eq_false.2 fun q hq => by rw [pB_f (fun e : q = s => h (e ▸ hq))]; simp
theorem c_indexN (l : List Int) (s : Int) (hl : l.length ≤ 100000) : PCall Tryz.prog 275 [.pv (encInts l), vint .i64 s] (fun r => r = vint .i64 (idxN l s)) := by
  refine acall_of tok mixed 19 rfl (fn := Tryz.f275) (c := Tryz.f275.body.getD .skip) (by kernel_rfl) (by kernel_rfl) (by kernel_rfl) rfl 0 rfl ?_
  repeat' (first | refine o1 ?_ | refine o2 ?_ | refine k1 ?_ | refine k2 ?_ | refine k4 ?_ | refine eqv_len_map ?_ | fail)
  refine loop_at (fun i : Nat => [(8, vint .i64 i)]) (fun _ => []) (fun i => i ≤ l.length ∧ ∀ j, j < i → ∀ q, l[j]? = some q → pB (q = s) = false) (fun i => l.length - i) 0 ⟨by omega, fun j hj => by omega⟩ (by repeat' (first | exact trivial | exact ⟨_, rfl, ALe.refl⟩ | refine And.intro ?_ ?_)) (by repeat' (first | exact trivial)) ?_
  intro i ⟨hi, hall⟩
  rcases Nat.lt_or_ge i l.length with hlt | hge
  · obtain ⟨q, hq⟩ := getE hlt
    repeat' (first | refine o1 ?_ | refine o2 ?_ | refine k1 ?_ | refine k2 ?_ | refine k3 ?_ | refine k4 ?_ | refine k6 ?_ | refine k7 ?_ | refine And.intro ?_ ?_ | (intro h; first | exact Bool.noConfusion h | exact nz _ h | exact nl h | (simp at h; done) | (simp at h; first | (exfalso; omega) | skip) | skip) | (change retOk _ _ _ _; refine ret_pure rfl trivial ?_) | refine eqv_wrap (by omega) (by omega) ?_ | refine ⟨_, _, (by first | rfl | assumption), at_map (by assumption), ?_⟩ | fail)
    all_goals first
      | exact congrArg (vint .i64) (idxB_at hall hq (pB_t (by omega))).symm
      | exact ⟨i + 1, ⟨by omega, all_lt_succ hall fun q' h' => by rw [hq] at h'; cases h'; exact pB_f fun e => by omega⟩, by omega, back [] rfl rfl trivial (by repeat' (first | exact trivial | exact rfl | refine And.intro ?_ ?_))⟩
  · repeat' (first | refine o1 ?_ | refine o2 ?_ | refine k1 ?_ | refine k2 ?_ | refine k3 ?_ | refine k7 ?_ | refine k8 ?_ | refine And.intro ?_ ?_ | (intro h; first | exact Bool.noConfusion h | exact nz _ h | exact nl h | (simp at h; done) | (simp at h; first | (exfalso; omega) | skip) | skip) | (change retOk _ _ _ _; refine ret_pure rfl trivial ?_) | fail)
    all_goals first
      | exact congrArg (vint .i64) (idxB_none fun j hj => hall j (by omega)).symm
theorem c_containsN (l : List Int) (s : Int) (hl : l.length ≤ 100000) : PCall Tryz.prog 259 [.pv (encInts l), vint .i64 s] (fun r => r = vbool (pB (s ∈ l))) := by
  refine acall_of tok mixed 9 rfl (fn := Tryz.f259) (c := Tryz.f259.body.getD .skip) (by kernel_rfl) (by kernel_rfl) (by kernel_rfl) rfl 0 rfl ?_
  repeat' (first | refine o1 ?_ | refine o2 ?_ | refine k1 ?_ | refine k2 ?_ | refine k7 ?_ | (change retOk _ _ _ _; refine ret_pure rfl trivial ?_) | (change vcFun _ _ _ _ _; refine call_eq rfl (by repeat' (first | trivial | refine And.intro ?_ ?_ | (show 0 + _ ≤ List.length _; simp))) ALeL.refl (c_indexN l s hl) rfl ?_) | fail)
  exact congrArg vbool idxN_has
end Go.Proofs.YtkbaecjnhmbeeaaGreat.Cw
/-
  Contracts: the week.
-/
namespace Go.Proofs.YtkbaecjnhmbeeaaGreat.Cw
open Go.Cw Go.Proofs
set_option linter.unusedVariables false
set_option maxRecDepth 100000
def gridP (g : Grid) : Prop := 1 ≤ g.days ∧ g.days ≤ 7 ∧ 1 ≤ g.slots ∧ g.slots ≤ 24 ∧ 0 ≤ g.begin_ ∧ g.begin_ < 1440 ∧ 5 ≤ g.mins ∧ g.mins ≤ 120 ∧ g.begin_ + g.slots * g.mins ≤ 1440
noncomputable def gridE (g : Grid) : Int := if pB (gridP g) then 0 else 3
def weekP (g : Grid) (w : Int) : Prop := gridP g ∧ 1 ≤ w ∧ w ≤ 20
def setP (s n : Int) : Prop := 1 ≤ n ∧ n ≤ 20 ∧ 1 ≤ s ∧ s < 2 ^ n.toNat
def soundP (t : Time) : Prop := setP t.weeks 20 ∧ 0 ≤ t.day ∧ t.day < 7 ∧ 0 ≤ t.start ∧ t.start < 24 ∧ 1 ≤ t.len ∧ t.len ≤ 24 - t.start
def fitP (g : Grid) (w : Int) (t : Time) : Prop := soundP t ∧ setP t.weeks w ∧ t.day < g.days ∧ t.start + t.len ≤ g.slots
noncomputable def fitE (g : Grid) (w : Int) (t : Time) : Int := if pB (weekP g w) then (if pB (fitP g w t) then 0 else 14) else 1
theorem c_grid (g : Grid) : PCall Tryz.prog 46 [ag g.row] (fun r => r = vint .i64 (gridE g)) := by
  refine acall_of tok mixed 52 rfl (fn := Tryz.f46) (c := Tryz.f46.body.getD .skip) (by kernel_rfl) (by kernel_rfl) (by kernel_rfl) rfl 0 rfl ?_
  repeat' (first | (refine eqv_mul (by omega) (by omega) (fun _ _ => ?_)) | refine o1 ?_ | refine o2 ?_ | refine k1 ?_ | refine k2 ?_ | refine k3 ?_ | refine k6 ?_ | refine k7 ?_ | refine And.intro ?_ ?_ | (intro h; first | exact Bool.noConfusion h | exact nz _ h | exact nl h | (simp at h; done) | (simp at h; first | (exfalso; omega) | skip) | skip) | (change retOk _ _ _ _; refine ret_pure rfl trivial ?_) | refine eqv_wrap (by omega) (by omega) ?_ | fail)
  all_goals (refine congrArg (vint .i64) ?_; unfold gridE)
  all_goals first
    | (rw [pB_f (fun h => ?_)]; rfl; obtain ⟨h1, h2, h3, h4, h5, h6, h7, h8, h9⟩ := h; omega)
    | (rw [pB_t ⟨by omega, by omega, by omega, by omega, by omega, by omega, by omega, by omega, by omega⟩]; rfl)
theorem c_rgrid (g : Grid) : PCall Tryz.prog 83 [ag g.row] (fun r => r = vint .i64 (gridE g)) := by
  refine acall_of tok mixed 52 rfl (fn := Tryz.f83) (c := Tryz.f83.body.getD .skip) (by kernel_rfl) (by kernel_rfl) (by kernel_rfl) rfl 0 rfl ?_
  repeat' (first | (refine eqv_mul (by omega) (by omega) (fun _ _ => ?_)) | refine o1 ?_ | refine o2 ?_ | refine k1 ?_ | refine k2 ?_ | refine k3 ?_ | refine k6 ?_ | refine k7 ?_ | refine And.intro ?_ ?_ | (intro h; first | exact Bool.noConfusion h | exact nz _ h | exact nl h | (simp at h; done) | (simp at h; first | (exfalso; omega) | skip) | skip) | (change retOk _ _ _ _; refine ret_pure rfl trivial ?_) | refine eqv_wrap (by omega) (by omega) ?_ | fail)
  all_goals (refine congrArg (vint .i64) ?_; unfold gridE)
  all_goals first
    | (rw [pB_f (fun h => ?_)]; rfl; obtain ⟨h1, h2, h3, h4, h5, h6, h7, h8, h9⟩ := h; omega)
    | (rw [pB_t ⟨by omega, by omega, by omega, by omega, by omega, by omega, by omega, by omega, by omega⟩]; rfl)
theorem gridE_iff {g : Grid} : gridE g = 0 ↔ gridP g := by
  unfold gridE
  by_cases h : gridP g <;> simp [h]
theorem c_week (g : Grid) (w : Int) : PCall Tryz.prog 122 [ag g.row, vint .i64 w] (fun r => r = vbool (pB (weekP g w))) := by
  refine acall_of tok mixed 16 rfl (fn := Tryz.f122) (c := Tryz.f122.body.getD .skip) (by kernel_rfl) (by kernel_rfl) (by kernel_rfl) rfl 0 rfl ?_
  repeat' (first | refine o1 ?_ | refine o2 ?_ | refine k1 ?_ | refine k2 ?_ | refine k7 ?_ | refine And.intro ?_ ?_ | (intro h; first | exact Bool.noConfusion h | exact nz _ h | exact nl h | (simp at h; done) | (simp at h; first | (exfalso; omega) | skip) | skip) | (change retOk _ _ _ _; refine ret_pure rfl trivial ?_) | (change vcFun _ _ _ _ _; refine call_eq rfl (by repeat' (first | trivial | refine And.intro ?_ ?_ | (show 0 + _ ≤ List.length _; simp))) ALeL.refl (c_grid g) rfl ?_) | fail)
  all_goals (refine congrArg vbool (pB_eq ?_); simp_all [weekP, gridE_iff]; try omega)
theorem c_rweek (g : Grid) (w : Int) : PCall Tryz.prog 177 [ag g.row, vint .i64 w] (fun r => r = vbool (pB (weekP g w))) := by
  refine acall_of tok mixed 16 rfl (fn := Tryz.f177) (c := Tryz.f177.body.getD .skip) (by kernel_rfl) (by kernel_rfl) (by kernel_rfl) rfl 0 rfl ?_
  repeat' (first | refine o1 ?_ | refine o2 ?_ | refine k1 ?_ | refine k2 ?_ | refine k7 ?_ | refine And.intro ?_ ?_ | (intro h; first | exact Bool.noConfusion h | exact nz _ h | exact nl h | (simp at h; done) | (simp at h; first | (exfalso; omega) | skip) | skip) | (change retOk _ _ _ _; refine ret_pure rfl trivial ?_) | (change vcFun _ _ _ _ _; refine call_eq rfl (by repeat' (first | trivial | refine And.intro ?_ ?_ | (show 0 + _ ≤ List.length _; simp))) ALeL.refl (c_rgrid g) rfl ?_) | fail)
  all_goals (refine congrArg vbool (pB_eq ?_); simp_all [weekP, gridE_iff]; try omega)
theorem c_set (s n : Int) : PCall Tryz.prog 258 [vint .i64 s, vint .i64 n] (fun r => r = vbool (pB (setP s n))) := by
  refine acall_of tok mixed 21 rfl (fn := Tryz.f258) (c := Tryz.f258.body.getD .skip) (by kernel_rfl) (by kernel_rfl) (by kernel_rfl) rfl 0 rfl ?_
  repeat' (first | (refine eqv_shl (by omega) ?_) | refine o1 ?_ | refine o2 ?_ | refine k1 ?_ | refine k2 ?_ | refine k7 ?_ | refine And.intro ?_ ?_ | (intro h; first | exact Bool.noConfusion h | exact nz _ h | exact nl h | (simp at h; done) | (simp at h; first | (exfalso; omega) | skip) | skip) | (change retOk _ _ _ _; refine ret_pure rfl trivial ?_) | (refine (?_ : (0 : Int) ≤ _); omega) | fail)
  all_goals first
    | (refine congrArg vbool (pB_f fun h => ?_).symm; obtain ⟨h1, h2, h3, h4⟩ := h; omega)
    | (refine congrArg vbool (pB_eq ?_); simp [setP, *]; done)
theorem c_rset (s n : Int) : PCall Tryz.prog 246 [vint .i64 s, vint .i64 n] (fun r => r = vbool (pB (setP s n))) := by
  refine acall_of tok mixed 22 rfl (fn := Tryz.f246) (c := Tryz.f246.body.getD .skip) (by kernel_rfl) (by kernel_rfl) (by kernel_rfl) rfl 0 rfl ?_
  repeat' (first | (refine eqv_shl (by omega) ?_) | refine o1 ?_ | refine o2 ?_ | refine k1 ?_ | refine k2 ?_ | refine k7 ?_ | refine And.intro ?_ ?_ | (intro h; first | exact Bool.noConfusion h | exact nz _ h | exact nl h | (simp at h; done) | (simp at h; first | (exfalso; omega) | skip) | skip) | (change retOk _ _ _ _; refine ret_pure rfl trivial ?_) | (refine (?_ : (0 : Int) ≤ _); omega) | refine eqv_u64 (by omega) (by omega) ?_ | fail)
  all_goals first
    | (refine congrArg vbool (pB_f fun h => ?_).symm; obtain ⟨h1, h2, h3, h4⟩ := h; omega)
    | (refine congrArg vbool (pB_eq ?_); simp [setP, *]; done)
theorem c_sound (t : Time) : PCall Tryz.prog 241 [ag t.row] (fun r => r = vbool (pB (soundP t))) := by
  refine acall_of tok mixed 41 rfl (fn := Tryz.f241) (c := Tryz.f241.body.getD .skip) (by kernel_rfl) (by kernel_rfl) (by kernel_rfl) rfl 0 rfl ?_
  repeat' (first | refine o1 ?_ | refine o2 ?_ | refine k1 ?_ | refine k2 ?_ | refine k7 ?_ | refine And.intro ?_ ?_ | (intro h; first | exact Bool.noConfusion h | exact nz _ h | exact nl h | (simp at h; done) | (simp at h; first | (exfalso; omega) | skip) | skip) | (change retOk _ _ _ _; refine ret_pure rfl trivial ?_) | refine eqv_wrap (by omega) (by omega) ?_ | (change vcFun _ _ _ _ _; refine call_eq rfl (by repeat' (first | trivial | refine And.intro ?_ ?_ | (show 0 + _ ≤ List.length _; simp))) ALeL.refl (c_set t.weeks 20) rfl ?_) | fail)
  all_goals first
    | (refine congrArg vbool (pB_f fun h => ?_).symm; obtain ⟨h1, h2, h3, h4, h5, h6, h7⟩ := h; first | omega | exact absurd h1 (by assumption))
    | (refine congrArg vbool (pB_t ?_).symm; exact ⟨by assumption, by omega, by omega, by omega, by omega, by omega, by omega⟩)
    | (refine congrArg vbool (pB_eq ?_); unfold soundP; simp_all; try omega)
theorem c_rsound (t : Time) : PCall Tryz.prog 245 [ag t.row] (fun r => r = vbool (pB (soundP t))) := by
  refine acall_of tok mixed 44 rfl (fn := Tryz.f245) (c := Tryz.f245.body.getD .skip) (by kernel_rfl) (by kernel_rfl) (by kernel_rfl) rfl 0 rfl ?_
  repeat' (first | refine o1 ?_ | refine o2 ?_ | refine k1 ?_ | refine k2 ?_ | refine k7 ?_ | refine And.intro ?_ ?_ | (intro h; first | exact Bool.noConfusion h | exact nz _ h | exact nl h | (simp at h; done) | (simp at h; first | (exfalso; omega) | skip) | skip) | (change retOk _ _ _ _; refine ret_pure rfl trivial ?_) | refine eqv_wrap (by omega) (by omega) ?_ | (change vcFun _ _ _ _ _; refine call_eq rfl (by repeat' (first | trivial | refine And.intro ?_ ?_ | (show 0 + _ ≤ List.length _; simp))) ALeL.refl (c_rset t.weeks 20) rfl ?_) | fail)
  all_goals first
    | (refine congrArg vbool (pB_f fun h => ?_).symm; obtain ⟨h1, h2, h3, h4, h5, h6, h7⟩ := h; first | omega | exact absurd h1 (by assumption))
    | (refine congrArg vbool (pB_t ?_).symm; exact ⟨by assumption, by omega, by omega, by omega, by omega, by omega, by omega⟩)
    | (refine congrArg vbool (pB_eq ?_); unfold soundP; simp_all; try omega)
theorem c_fits (g : Grid) (w : Int) (t : Time) : PCall Tryz.prog 223 [ag g.row, vint .i64 w, ag t.row] (fun r => r = vint .i64 (fitE g w t)) := by
  refine acall_of tok mixed 40 rfl (fn := Tryz.f223) (c := Tryz.f223.body.getD .skip) (by kernel_rfl) (by kernel_rfl) (by kernel_rfl) rfl 0 rfl ?_
  have hs : soundP t → 0 ≤ t.start ∧ t.start < 24 ∧ 1 ≤ t.len ∧ t.len ≤ 24 := fun ⟨h1, h2, h3, h4, h5, h6, h7⟩ => ⟨by omega, by omega, by omega, by omega⟩
  repeat' (first | (refine eqv_wrap (by have := hs (by assumption); omega) (by have := hs (by assumption); omega) ?_) | refine o1 ?_ | refine o2 ?_ | refine k1 ?_ | refine k2 ?_ | refine k3 ?_ | refine k4 ?_ | refine k6 ?_ | refine k7 ?_ | refine And.intro ?_ ?_ | (intro h; first | exact Bool.noConfusion h | exact nz _ h | exact nl h | (simp at h; done) | (simp at h; first | (exfalso; omega) | skip) | skip) | (change retOk _ _ _ _; refine ret_pure rfl trivial ?_) | (change vcFun _ _ _ _ _; refine call_eq rfl (by repeat' (first | trivial | refine And.intro ?_ ?_ | (show 0 + _ ≤ List.length _; simp))) ALeL.refl (c_week g w) rfl ?_) | (change vcFun _ _ _ _ _; refine call_eq rfl (by repeat' (first | trivial | refine And.intro ?_ ?_ | (show 0 + _ ≤ List.length _; simp))) ALeL.refl (c_sound t) rfl ?_) | (change vcFun _ _ _ _ _; refine call_eq rfl (by repeat' (first | trivial | refine And.intro ?_ ?_ | (show 0 + _ ≤ List.length _; simp))) ALeL.refl (c_set t.weeks w) rfl ?_) | fail)
  all_goals (refine congrArg (vint .i64) ?_; unfold fitE)
  all_goals first
    | (rw [pB_f (by assumption)]; rfl)
    | (rw [pB_t (by assumption), pB_f (fun h => ?_)]; rfl; obtain ⟨h1, h2, h3, h4⟩ := h; first | omega | (exact absurd h1 (by assumption)) | (exact absurd h2 (by assumption)))
    | (rw [pB_t (by assumption), pB_t ⟨by assumption, by assumption, by omega, by omega⟩]; rfl)
theorem c_rfits (g : Grid) (w : Int) (t : Time) : PCall Tryz.prog 180 [ag g.row, vint .i64 w, ag t.row] (fun r => r = vint .i64 (fitE g w t)) := by
  refine acall_of tok mixed 38 rfl (fn := Tryz.f180) (c := Tryz.f180.body.getD .skip) (by kernel_rfl) (by kernel_rfl) (by kernel_rfl) rfl 0 rfl ?_
  have hs : soundP t → 0 ≤ t.start ∧ t.start < 24 ∧ 1 ≤ t.len ∧ t.len ≤ 24 := fun ⟨h1, h2, h3, h4, h5, h6, h7⟩ => ⟨by omega, by omega, by omega, by omega⟩
  repeat' (first | (refine eqv_wrap (by have := hs (by assumption); omega) (by have := hs (by assumption); omega) ?_) | refine o1 ?_ | refine o2 ?_ | refine k1 ?_ | refine k2 ?_ | refine k3 ?_ | refine k6 ?_ | refine k7 ?_ | refine And.intro ?_ ?_ | (intro h; first | exact Bool.noConfusion h | exact nz _ h | exact nl h | (simp at h; done) | (simp at h; first | (exfalso; omega) | skip) | skip) | (change retOk _ _ _ _; refine ret_pure rfl trivial ?_) | (change vcFun _ _ _ _ _; refine call_eq rfl (by repeat' (first | trivial | refine And.intro ?_ ?_ | (show 0 + _ ≤ List.length _; simp))) ALeL.refl (c_rweek g w) rfl ?_) | (change vcFun _ _ _ _ _; refine call_eq rfl (by repeat' (first | trivial | refine And.intro ?_ ?_ | (show 0 + _ ≤ List.length _; simp))) ALeL.refl (c_rsound t) rfl ?_) | (change vcFun _ _ _ _ _; refine call_eq rfl (by repeat' (first | trivial | refine And.intro ?_ ?_ | (show 0 + _ ≤ List.length _; simp))) ALeL.refl (c_rset t.weeks w) rfl ?_) | fail)
  all_goals (refine congrArg (vint .i64) ?_; unfold fitE)
  all_goals first
    | (rw [pB_f (by assumption)]; rfl)
    | (rw [pB_t (by assumption), pB_f (fun h => ?_)]; rfl; obtain ⟨h1, h2, h3, h4⟩ := h; first | omega | (exact absurd h1 (by assumption)) | (exact absurd h2 (by assumption)))
    | (rw [pB_t (by assumption), pB_t ⟨by assumption, by assumption, by omega, by omega⟩]; rfl)
end Go.Proofs.YtkbaecjnhmbeeaaGreat.Cw
/-
  Contracts: searching lists with functions; times that fit.
-/
namespace Go.Proofs.YtkbaecjnhmbeeaaGreat.Cw
open Go.Cw Go.Proofs
set_option linter.unusedVariables false
set_option maxRecDepth 100000
def esRow (s : Str) : List PV := [es s]
theorem c_index_time (l : List Time) (f : FuncId) (caps : List PV) (p : Time → Bool) (hl : l.length ≤ 100000) (hf : ∀ x ∈ l, PCall Tryz.prog f (ag (Time.row x) :: pvs caps) (fun r => r = vbool (p x))) :
    PCall Tryz.prog 235 [.pv (.sl 4 (l.map Time.row)), .pv (.fn f caps)] (fun r => r = vint .i64 (idxB p l)) := by
  refine acall_of tok mixed 19 rfl (fn := Tryz.f235) (c := Tryz.f235.body.getD .skip) (by kernel_rfl) (by kernel_rfl) (by kernel_rfl) rfl 0 rfl ?_
  repeat' (first | refine o1 ?_ | refine o2 ?_ | refine k1 ?_ | refine k2 ?_ | refine k4 ?_ | refine eqv_len_map ?_ | fail)
  refine loop_at (fun i : Nat => [(8, vint .i64 i)]) (fun _ => []) (fun i => i ≤ l.length ∧ ∀ j, j < i → ∀ y, l[j]? = some y → p y = false) (fun i => l.length - i) 0 ⟨by omega, fun j hj => by omega⟩ (by repeat' (first | exact trivial | exact ⟨_, rfl, ALe.refl⟩ | refine And.intro ?_ ?_)) (by repeat' (first | exact trivial)) ?_
  intro i ⟨hi, hall⟩
  rcases Nat.lt_or_ge i l.length with hlt | hge
  · obtain ⟨x, hx⟩ := getE hlt
    have hm := List.mem_of_getElem? hx
    repeat' (first | refine o1 ?_ | refine o2 ?_ | refine k1 ?_ | refine k2 ?_ | refine k3 ?_ | refine k4 ?_ | refine k6 ?_ | refine k7 ?_ | refine And.intro ?_ ?_ | (intro h; first | exact Bool.noConfusion h | exact nz _ h | exact nl h | (simp at h; done) | (simp at h; first | (exfalso; omega) | skip) | skip) | (change retOk _ _ _ _; refine ret_pure rfl trivial ?_) | refine eqv_wrap (by omega) (by omega) ?_ | refine ⟨_, _, (by first | rfl | assumption), at_map (by assumption), ?_⟩ | (change vcFun _ _ (_ ++ pvs _) _ _; refine call_cap rfl (by repeat' (first | trivial | refine And.intro ?_ ?_ | (show 0 + _ ≤ List.length _; simp))) (hf x hm) rfl ?_) | fail)
    all_goals first
      | exact ⟨i + 1, ⟨by omega, all_lt_succ hall fun y hy => by rw [hx] at hy; cases hy; assumption⟩, by omega, back [] rfl rfl trivial (by repeat' (first | exact trivial | exact rfl | refine And.intro ?_ ?_))⟩
      | exact congrArg (vint .i64) (idxB_at hall hx (by assumption)).symm
  · repeat' (first | refine o1 ?_ | refine o2 ?_ | refine k1 ?_ | refine k2 ?_ | refine k3 ?_ | refine k7 ?_ | refine k8 ?_ | refine And.intro ?_ ?_ | (intro h; first | exact Bool.noConfusion h | exact nz _ h | exact nl h | (simp at h; done) | (simp at h; first | (exfalso; omega) | skip) | skip) | (change retOk _ _ _ _; refine ret_pure rfl trivial ?_) | fail)
    exact congrArg (vint .i64) (idxB_none fun j hj => hall j (by omega)).symm
theorem c_index_room (l : List Room) (f : FuncId) (caps : List PV) (p : Room → Bool) (hl : l.length ≤ 100000) (hf : ∀ x ∈ l, PCall Tryz.prog f (ag (Room.row x) :: pvs caps) (fun r => r = vbool (p x))) :
    PCall Tryz.prog 145 [.pv (.sl 5 (l.map Room.row)), .pv (.fn f caps)] (fun r => r = vint .i64 (idxB p l)) := by
  refine acall_of tok mixed 19 rfl (fn := Tryz.f145) (c := Tryz.f145.body.getD .skip) (by kernel_rfl) (by kernel_rfl) (by kernel_rfl) rfl 0 rfl ?_
  repeat' (first | refine o1 ?_ | refine o2 ?_ | refine k1 ?_ | refine k2 ?_ | refine k4 ?_ | refine eqv_len_map ?_ | fail)
  refine loop_at (fun i : Nat => [(8, vint .i64 i)]) (fun _ => []) (fun i => i ≤ l.length ∧ ∀ j, j < i → ∀ y, l[j]? = some y → p y = false) (fun i => l.length - i) 0 ⟨by omega, fun j hj => by omega⟩ (by repeat' (first | exact trivial | exact ⟨_, rfl, ALe.refl⟩ | refine And.intro ?_ ?_)) (by repeat' (first | exact trivial)) ?_
  intro i ⟨hi, hall⟩
  rcases Nat.lt_or_ge i l.length with hlt | hge
  · obtain ⟨x, hx⟩ := getE hlt
    have hm := List.mem_of_getElem? hx
    repeat' (first | refine o1 ?_ | refine o2 ?_ | refine k1 ?_ | refine k2 ?_ | refine k3 ?_ | refine k4 ?_ | refine k6 ?_ | refine k7 ?_ | refine And.intro ?_ ?_ | (intro h; first | exact Bool.noConfusion h | exact nz _ h | exact nl h | (simp at h; done) | (simp at h; first | (exfalso; omega) | skip) | skip) | (change retOk _ _ _ _; refine ret_pure rfl trivial ?_) | refine eqv_wrap (by omega) (by omega) ?_ | refine ⟨_, _, (by first | rfl | assumption), at_map (by assumption), ?_⟩ | (change vcFun _ _ (_ ++ pvs _) _ _; refine call_cap rfl (by repeat' (first | trivial | refine And.intro ?_ ?_ | (show 0 + _ ≤ List.length _; simp))) (hf x hm) rfl ?_) | fail)
    all_goals first
      | exact ⟨i + 1, ⟨by omega, all_lt_succ hall fun y hy => by rw [hx] at hy; cases hy; assumption⟩, by omega, back [] rfl rfl trivial (by repeat' (first | exact trivial | exact rfl | refine And.intro ?_ ?_))⟩
      | exact congrArg (vint .i64) (idxB_at hall hx (by assumption)).symm
  · repeat' (first | refine o1 ?_ | refine o2 ?_ | refine k1 ?_ | refine k2 ?_ | refine k3 ?_ | refine k7 ?_ | refine k8 ?_ | refine And.intro ?_ ?_ | (intro h; first | exact Bool.noConfusion h | exact nz _ h | exact nl h | (simp at h; done) | (simp at h; first | (exfalso; omega) | skip) | skip) | (change retOk _ _ _ _; refine ret_pure rfl trivial ?_) | fail)
    exact congrArg (vint .i64) (idxB_none fun j hj => hall j (by omega)).symm
theorem c_index_lect (l : List Lecturer) (f : FuncId) (caps : List PV) (p : Lecturer → Bool) (hl : l.length ≤ 100000) (hf : ∀ x ∈ l, PCall Tryz.prog f (ag (Lecturer.row x) :: pvs caps) (fun r => r = vbool (p x))) :
    PCall Tryz.prog 147 [.pv (.sl 2 (l.map Lecturer.row)), .pv (.fn f caps)] (fun r => r = vint .i64 (idxB p l)) := by
  refine acall_of tok mixed 19 rfl (fn := Tryz.f147) (c := Tryz.f147.body.getD .skip) (by kernel_rfl) (by kernel_rfl) (by kernel_rfl) rfl 0 rfl ?_
  repeat' (first | refine o1 ?_ | refine o2 ?_ | refine k1 ?_ | refine k2 ?_ | refine k4 ?_ | refine eqv_len_map ?_ | fail)
  refine loop_at (fun i : Nat => [(8, vint .i64 i)]) (fun _ => []) (fun i => i ≤ l.length ∧ ∀ j, j < i → ∀ y, l[j]? = some y → p y = false) (fun i => l.length - i) 0 ⟨by omega, fun j hj => by omega⟩ (by repeat' (first | exact trivial | exact ⟨_, rfl, ALe.refl⟩ | refine And.intro ?_ ?_)) (by repeat' (first | exact trivial)) ?_
  intro i ⟨hi, hall⟩
  rcases Nat.lt_or_ge i l.length with hlt | hge
  · obtain ⟨x, hx⟩ := getE hlt
    have hm := List.mem_of_getElem? hx
    repeat' (first | refine o1 ?_ | refine o2 ?_ | refine k1 ?_ | refine k2 ?_ | refine k3 ?_ | refine k4 ?_ | refine k6 ?_ | refine k7 ?_ | refine And.intro ?_ ?_ | (intro h; first | exact Bool.noConfusion h | exact nz _ h | exact nl h | (simp at h; done) | (simp at h; first | (exfalso; omega) | skip) | skip) | (change retOk _ _ _ _; refine ret_pure rfl trivial ?_) | refine eqv_wrap (by omega) (by omega) ?_ | refine ⟨_, _, (by first | rfl | assumption), at_map (by assumption), ?_⟩ | (change vcFun _ _ (_ ++ pvs _) _ _; refine call_cap rfl (by repeat' (first | trivial | refine And.intro ?_ ?_ | (show 0 + _ ≤ List.length _; simp))) (hf x hm) rfl ?_) | fail)
    all_goals first
      | exact ⟨i + 1, ⟨by omega, all_lt_succ hall fun y hy => by rw [hx] at hy; cases hy; assumption⟩, by omega, back [] rfl rfl trivial (by repeat' (first | exact trivial | exact rfl | refine And.intro ?_ ?_))⟩
      | exact congrArg (vint .i64) (idxB_at hall hx (by assumption)).symm
  · repeat' (first | refine o1 ?_ | refine o2 ?_ | refine k1 ?_ | refine k2 ?_ | refine k3 ?_ | refine k7 ?_ | refine k8 ?_ | refine And.intro ?_ ?_ | (intro h; first | exact Bool.noConfusion h | exact nz _ h | exact nl h | (simp at h; done) | (simp at h; first | (exfalso; omega) | skip) | skip) | (change retOk _ _ _ _; refine ret_pure rfl trivial ?_) | fail)
    exact congrArg (vint .i64) (idxB_none fun j hj => hall j (by omega)).symm
theorem c_index_class (l : List Class) (f : FuncId) (caps : List PV) (p : Class → Bool) (hl : l.length ≤ 100000) (hf : ∀ x ∈ l, PCall Tryz.prog f (ag (Class.row x) :: pvs caps) (fun r => r = vbool (p x))) :
    PCall Tryz.prog 135 [.pv (.sl 9 (l.map Class.row)), .pv (.fn f caps)] (fun r => r = vint .i64 (idxB p l)) := by
  refine acall_of tok mixed 19 rfl (fn := Tryz.f135) (c := Tryz.f135.body.getD .skip) (by kernel_rfl) (by kernel_rfl) (by kernel_rfl) rfl 0 rfl ?_
  repeat' (first | refine o1 ?_ | refine o2 ?_ | refine k1 ?_ | refine k2 ?_ | refine k4 ?_ | refine eqv_len_map ?_ | fail)
  refine loop_at (fun i : Nat => [(8, vint .i64 i)]) (fun _ => []) (fun i => i ≤ l.length ∧ ∀ j, j < i → ∀ y, l[j]? = some y → p y = false) (fun i => l.length - i) 0 ⟨by omega, fun j hj => by omega⟩ (by repeat' (first | exact trivial | exact ⟨_, rfl, ALe.refl⟩ | refine And.intro ?_ ?_)) (by repeat' (first | exact trivial)) ?_
  intro i ⟨hi, hall⟩
  rcases Nat.lt_or_ge i l.length with hlt | hge
  · obtain ⟨x, hx⟩ := getE hlt
    have hm := List.mem_of_getElem? hx
    repeat' (first | refine o1 ?_ | refine o2 ?_ | refine k1 ?_ | refine k2 ?_ | refine k3 ?_ | refine k4 ?_ | refine k6 ?_ | refine k7 ?_ | refine And.intro ?_ ?_ | (intro h; first | exact Bool.noConfusion h | exact nz _ h | exact nl h | (simp at h; done) | (simp at h; first | (exfalso; omega) | skip) | skip) | (change retOk _ _ _ _; refine ret_pure rfl trivial ?_) | refine eqv_wrap (by omega) (by omega) ?_ | refine ⟨_, _, (by first | rfl | assumption), at_map (by assumption), ?_⟩ | (change vcFun _ _ (_ ++ pvs _) _ _; refine call_cap rfl (by repeat' (first | trivial | refine And.intro ?_ ?_ | (show 0 + _ ≤ List.length _; simp))) (hf x hm) rfl ?_) | fail)
    all_goals first
      | exact ⟨i + 1, ⟨by omega, all_lt_succ hall fun y hy => by rw [hx] at hy; cases hy; assumption⟩, by omega, back [] rfl rfl trivial (by repeat' (first | exact trivial | exact rfl | refine And.intro ?_ ?_))⟩
      | exact congrArg (vint .i64) (idxB_at hall hx (by assumption)).symm
  · repeat' (first | refine o1 ?_ | refine o2 ?_ | refine k1 ?_ | refine k2 ?_ | refine k3 ?_ | refine k7 ?_ | refine k8 ?_ | refine And.intro ?_ ?_ | (intro h; first | exact Bool.noConfusion h | exact nz _ h | exact nl h | (simp at h; done) | (simp at h; first | (exfalso; omega) | skip) | skip) | (change retOk _ _ _ _; refine ret_pure rfl trivial ?_) | fail)
    exact congrArg (vint .i64) (idxB_none fun j hj => hall j (by omega)).symm
theorem c_index_curri (l : List Curri) (f : FuncId) (caps : List PV) (p : Curri → Bool) (hl : l.length ≤ 100000) (hf : ∀ x ∈ l, PCall Tryz.prog f (ag (Curri.row x) :: pvs caps) (fun r => r = vbool (p x))) :
    PCall Tryz.prog 137 [.pv (.sl 2 (l.map Curri.row)), .pv (.fn f caps)] (fun r => r = vint .i64 (idxB p l)) := by
  refine acall_of tok mixed 19 rfl (fn := Tryz.f137) (c := Tryz.f137.body.getD .skip) (by kernel_rfl) (by kernel_rfl) (by kernel_rfl) rfl 0 rfl ?_
  repeat' (first | refine o1 ?_ | refine o2 ?_ | refine k1 ?_ | refine k2 ?_ | refine k4 ?_ | refine eqv_len_map ?_ | fail)
  refine loop_at (fun i : Nat => [(8, vint .i64 i)]) (fun _ => []) (fun i => i ≤ l.length ∧ ∀ j, j < i → ∀ y, l[j]? = some y → p y = false) (fun i => l.length - i) 0 ⟨by omega, fun j hj => by omega⟩ (by repeat' (first | exact trivial | exact ⟨_, rfl, ALe.refl⟩ | refine And.intro ?_ ?_)) (by repeat' (first | exact trivial)) ?_
  intro i ⟨hi, hall⟩
  rcases Nat.lt_or_ge i l.length with hlt | hge
  · obtain ⟨x, hx⟩ := getE hlt
    have hm := List.mem_of_getElem? hx
    repeat' (first | refine o1 ?_ | refine o2 ?_ | refine k1 ?_ | refine k2 ?_ | refine k3 ?_ | refine k4 ?_ | refine k6 ?_ | refine k7 ?_ | refine And.intro ?_ ?_ | (intro h; first | exact Bool.noConfusion h | exact nz _ h | exact nl h | (simp at h; done) | (simp at h; first | (exfalso; omega) | skip) | skip) | (change retOk _ _ _ _; refine ret_pure rfl trivial ?_) | refine eqv_wrap (by omega) (by omega) ?_ | refine ⟨_, _, (by first | rfl | assumption), at_map (by assumption), ?_⟩ | (change vcFun _ _ (_ ++ pvs _) _ _; refine call_cap rfl (by repeat' (first | trivial | refine And.intro ?_ ?_ | (show 0 + _ ≤ List.length _; simp))) (hf x hm) rfl ?_) | fail)
    all_goals first
      | exact ⟨i + 1, ⟨by omega, all_lt_succ hall fun y hy => by rw [hx] at hy; cases hy; assumption⟩, by omega, back [] rfl rfl trivial (by repeat' (first | exact trivial | exact rfl | refine And.intro ?_ ?_))⟩
      | exact congrArg (vint .i64) (idxB_at hall hx (by assumption)).symm
  · repeat' (first | refine o1 ?_ | refine o2 ?_ | refine k1 ?_ | refine k2 ?_ | refine k3 ?_ | refine k7 ?_ | refine k8 ?_ | refine And.intro ?_ ?_ | (intro h; first | exact Bool.noConfusion h | exact nz _ h | exact nl h | (simp at h; done) | (simp at h; first | (exfalso; omega) | skip) | skip) | (change retOk _ _ _ _; refine ret_pure rfl trivial ?_) | fail)
    exact congrArg (vint .i64) (idxB_none fun j hj => hall j (by omega)).symm
theorem c_index_req (l : List Req) (f : FuncId) (caps : List PV) (p : Req → Bool) (hl : l.length ≤ 100000) (hf : ∀ x ∈ l, PCall Tryz.prog f (ag (Req.row x) :: pvs caps) (fun r => r = vbool (p x))) :
    PCall Tryz.prog 140 [.pv (.sl 4 (l.map Req.row)), .pv (.fn f caps)] (fun r => r = vint .i64 (idxB p l)) := by
  refine acall_of tok mixed 19 rfl (fn := Tryz.f140) (c := Tryz.f140.body.getD .skip) (by kernel_rfl) (by kernel_rfl) (by kernel_rfl) rfl 0 rfl ?_
  repeat' (first | refine o1 ?_ | refine o2 ?_ | refine k1 ?_ | refine k2 ?_ | refine k4 ?_ | refine eqv_len_map ?_ | fail)
  refine loop_at (fun i : Nat => [(8, vint .i64 i)]) (fun _ => []) (fun i => i ≤ l.length ∧ ∀ j, j < i → ∀ y, l[j]? = some y → p y = false) (fun i => l.length - i) 0 ⟨by omega, fun j hj => by omega⟩ (by repeat' (first | exact trivial | exact ⟨_, rfl, ALe.refl⟩ | refine And.intro ?_ ?_)) (by repeat' (first | exact trivial)) ?_
  intro i ⟨hi, hall⟩
  rcases Nat.lt_or_ge i l.length with hlt | hge
  · obtain ⟨x, hx⟩ := getE hlt
    have hm := List.mem_of_getElem? hx
    repeat' (first | refine o1 ?_ | refine o2 ?_ | refine k1 ?_ | refine k2 ?_ | refine k3 ?_ | refine k4 ?_ | refine k6 ?_ | refine k7 ?_ | refine And.intro ?_ ?_ | (intro h; first | exact Bool.noConfusion h | exact nz _ h | exact nl h | (simp at h; done) | (simp at h; first | (exfalso; omega) | skip) | skip) | (change retOk _ _ _ _; refine ret_pure rfl trivial ?_) | refine eqv_wrap (by omega) (by omega) ?_ | refine ⟨_, _, (by first | rfl | assumption), at_map (by assumption), ?_⟩ | (change vcFun _ _ (_ ++ pvs _) _ _; refine call_cap rfl (by repeat' (first | trivial | refine And.intro ?_ ?_ | (show 0 + _ ≤ List.length _; simp))) (hf x hm) rfl ?_) | fail)
    all_goals first
      | exact ⟨i + 1, ⟨by omega, all_lt_succ hall fun y hy => by rw [hx] at hy; cases hy; assumption⟩, by omega, back [] rfl rfl trivial (by repeat' (first | exact trivial | exact rfl | refine And.intro ?_ ?_))⟩
      | exact congrArg (vint .i64) (idxB_at hall hx (by assumption)).symm
  · repeat' (first | refine o1 ?_ | refine o2 ?_ | refine k1 ?_ | refine k2 ?_ | refine k3 ?_ | refine k7 ?_ | refine k8 ?_ | refine And.intro ?_ ?_ | (intro h; first | exact Bool.noConfusion h | exact nz _ h | exact nl h | (simp at h; done) | (simp at h; first | (exfalso; omega) | skip) | skip) | (change retOk _ _ _ _; refine ret_pure rfl trivial ?_) | fail)
    exact congrArg (vint .i64) (idxB_none fun j hj => hall j (by omega)).symm
theorem c_index_ints (l : List (List Int)) (f : FuncId) (caps : List PV) (p : (List Int) → Bool) (hl : l.length ≤ 100000) (hf : ∀ x ∈ l, PCall Tryz.prog f (.pv (encInts x) :: pvs caps) (fun r => r = vbool (p x))) :
    PCall Tryz.prog 225 [.pv (.sl 1 (l.map intsRow)), .pv (.fn f caps)] (fun r => r = vint .i64 (idxB p l)) := by
  refine acall_of tok mixed 19 rfl (fn := Tryz.f225) (c := Tryz.f225.body.getD .skip) (by kernel_rfl) (by kernel_rfl) (by kernel_rfl) rfl 0 rfl ?_
  repeat' (first | refine o1 ?_ | refine o2 ?_ | refine k1 ?_ | refine k2 ?_ | refine k4 ?_ | refine eqv_len_map ?_ | fail)
  refine loop_at (fun i : Nat => [(8, vint .i64 i)]) (fun _ => []) (fun i => i ≤ l.length ∧ ∀ j, j < i → ∀ y, l[j]? = some y → p y = false) (fun i => l.length - i) 0 ⟨by omega, fun j hj => by omega⟩ (by repeat' (first | exact trivial | exact ⟨_, rfl, ALe.refl⟩ | refine And.intro ?_ ?_)) (by repeat' (first | exact trivial)) ?_
  intro i ⟨hi, hall⟩
  rcases Nat.lt_or_ge i l.length with hlt | hge
  · obtain ⟨x, hx⟩ := getE hlt
    have hm := List.mem_of_getElem? hx
    repeat' (first | refine o1 ?_ | refine o2 ?_ | refine k1 ?_ | refine k2 ?_ | refine k3 ?_ | refine k4 ?_ | refine k6 ?_ | refine k7 ?_ | refine And.intro ?_ ?_ | (intro h; first | exact Bool.noConfusion h | exact nz _ h | exact nl h | (simp at h; done) | (simp at h; first | (exfalso; omega) | skip) | skip) | (change retOk _ _ _ _; refine ret_pure rfl trivial ?_) | refine eqv_wrap (by omega) (by omega) ?_ | refine ⟨_, _, (by first | rfl | assumption), at_map (by assumption), ?_⟩ | (change vcFun _ _ (_ ++ pvs _) _ _; refine call_cap rfl (by repeat' (first | trivial | refine And.intro ?_ ?_ | (show 0 + _ ≤ List.length _; simp))) (hf x hm) rfl ?_) | fail)
    all_goals first
      | exact ⟨i + 1, ⟨by omega, all_lt_succ hall fun y hy => by rw [hx] at hy; cases hy; assumption⟩, by omega, back [] rfl rfl trivial (by repeat' (first | exact trivial | exact rfl | refine And.intro ?_ ?_))⟩
      | exact congrArg (vint .i64) (idxB_at hall hx (by assumption)).symm
  · repeat' (first | refine o1 ?_ | refine o2 ?_ | refine k1 ?_ | refine k2 ?_ | refine k3 ?_ | refine k7 ?_ | refine k8 ?_ | refine And.intro ?_ ?_ | (intro h; first | exact Bool.noConfusion h | exact nz _ h | exact nl h | (simp at h; done) | (simp at h; first | (exfalso; omega) | skip) | skip) | (change retOk _ _ _ _; refine ret_pure rfl trivial ?_) | fail)
    exact congrArg (vint .i64) (idxB_none fun j hj => hall j (by omega)).symm
theorem c_index_str (l : List Str) (f : FuncId) (caps : List PV) (p : Str → Bool) (hl : l.length ≤ 100000) (hf : ∀ x ∈ l, PCall Tryz.prog f (.pv (es x) :: pvs caps) (fun r => r = vbool (p x))) :
    PCall Tryz.prog 144 [.pv (.sl 1 (l.map esRow)), .pv (.fn f caps)] (fun r => r = vint .i64 (idxB p l)) := by
  refine acall_of tok mixed 19 rfl (fn := Tryz.f144) (c := Tryz.f144.body.getD .skip) (by kernel_rfl) (by kernel_rfl) (by kernel_rfl) rfl 0 rfl ?_
  repeat' (first | refine o1 ?_ | refine o2 ?_ | refine k1 ?_ | refine k2 ?_ | refine k4 ?_ | refine eqv_len_map ?_ | fail)
  refine loop_at (fun i : Nat => [(8, vint .i64 i)]) (fun _ => []) (fun i => i ≤ l.length ∧ ∀ j, j < i → ∀ y, l[j]? = some y → p y = false) (fun i => l.length - i) 0 ⟨by omega, fun j hj => by omega⟩ (by repeat' (first | exact trivial | exact ⟨_, rfl, ALe.refl⟩ | refine And.intro ?_ ?_)) (by repeat' (first | exact trivial)) ?_
  intro i ⟨hi, hall⟩
  rcases Nat.lt_or_ge i l.length with hlt | hge
  · obtain ⟨x, hx⟩ := getE hlt
    have hm := List.mem_of_getElem? hx
    repeat' (first | refine o1 ?_ | refine o2 ?_ | refine k1 ?_ | refine k2 ?_ | refine k3 ?_ | refine k4 ?_ | refine k6 ?_ | refine k7 ?_ | refine And.intro ?_ ?_ | (intro h; first | exact Bool.noConfusion h | exact nz _ h | exact nl h | (simp at h; done) | (simp at h; first | (exfalso; omega) | skip) | skip) | (change retOk _ _ _ _; refine ret_pure rfl trivial ?_) | refine eqv_wrap (by omega) (by omega) ?_ | refine ⟨_, _, (by first | rfl | assumption), at_map (by assumption), ?_⟩ | (change vcFun _ _ (_ ++ pvs _) _ _; refine call_cap rfl (by repeat' (first | trivial | refine And.intro ?_ ?_ | (show 0 + _ ≤ List.length _; simp))) (hf x hm) rfl ?_) | fail)
    all_goals first
      | exact ⟨i + 1, ⟨by omega, all_lt_succ hall fun y hy => by rw [hx] at hy; cases hy; assumption⟩, by omega, back [] rfl rfl trivial (by repeat' (first | exact trivial | exact rfl | refine And.intro ?_ ?_))⟩
      | exact congrArg (vint .i64) (idxB_at hall hx (by assumption)).symm
  · repeat' (first | refine o1 ?_ | refine o2 ?_ | refine k1 ?_ | refine k2 ?_ | refine k3 ?_ | refine k7 ?_ | refine k8 ?_ | refine And.intro ?_ ?_ | (intro h; first | exact Bool.noConfusion h | exact nz _ h | exact nl h | (simp at h; done) | (simp at h; first | (exfalso; omega) | skip) | skip) | (change retOk _ _ _ _; refine ret_pure rfl trivial ?_) | fail)
    exact congrArg (vint .i64) (idxB_none fun j hj => hall j (by omega)).symm
theorem c_any_time (l : List Time) (f : FuncId) (caps : List PV) (p : Time → Bool) (hl : l.length ≤ 100000) (hf : ∀ x ∈ l, PCall Tryz.prog f (ag (Time.row x) :: pvs caps) (fun r => r = vbool (p x))) :
    PCall Tryz.prog 160 [.pv (.sl 4 (l.map Time.row)), .pv (.fn f caps)] (fun r => r = vbool (l.any p)) := by
  refine acall_of tok mixed 9 rfl (fn := Tryz.f160) (c := Tryz.f160.body.getD .skip) (by kernel_rfl) (by kernel_rfl) (by kernel_rfl) rfl 0 rfl ?_
  repeat' (first | refine o1 ?_ | refine o2 ?_ | refine k1 ?_ | refine k2 ?_ | refine k7 ?_ | (change retOk _ _ _ _; refine ret_pure rfl trivial ?_) | (change vcFun _ _ _ _ _; refine call_eq rfl (by repeat' (first | trivial | refine And.intro ?_ ?_ | (show 0 + _ ≤ List.length _; simp))) ALeL.refl (c_index_time l f caps p hl hf) rfl ?_) | fail)
  exact congrArg vbool idxB_any
theorem c_any_room (l : List Room) (f : FuncId) (caps : List PV) (p : Room → Bool) (hl : l.length ≤ 100000) (hf : ∀ x ∈ l, PCall Tryz.prog f (ag (Room.row x) :: pvs caps) (fun r => r = vbool (p x))) :
    PCall Tryz.prog 199 [.pv (.sl 5 (l.map Room.row)), .pv (.fn f caps)] (fun r => r = vbool (l.any p)) := by
  refine acall_of tok mixed 9 rfl (fn := Tryz.f199) (c := Tryz.f199.body.getD .skip) (by kernel_rfl) (by kernel_rfl) (by kernel_rfl) rfl 0 rfl ?_
  repeat' (first | refine o1 ?_ | refine o2 ?_ | refine k1 ?_ | refine k2 ?_ | refine k7 ?_ | (change retOk _ _ _ _; refine ret_pure rfl trivial ?_) | (change vcFun _ _ _ _ _; refine call_eq rfl (by repeat' (first | trivial | refine And.intro ?_ ?_ | (show 0 + _ ≤ List.length _; simp))) ALeL.refl (c_index_room l f caps p hl hf) rfl ?_) | fail)
  exact congrArg vbool idxB_any
theorem c_any_lect (l : List Lecturer) (f : FuncId) (caps : List PV) (p : Lecturer → Bool) (hl : l.length ≤ 100000) (hf : ∀ x ∈ l, PCall Tryz.prog f (ag (Lecturer.row x) :: pvs caps) (fun r => r = vbool (p x))) :
    PCall Tryz.prog 155 [.pv (.sl 2 (l.map Lecturer.row)), .pv (.fn f caps)] (fun r => r = vbool (l.any p)) := by
  refine acall_of tok mixed 9 rfl (fn := Tryz.f155) (c := Tryz.f155.body.getD .skip) (by kernel_rfl) (by kernel_rfl) (by kernel_rfl) rfl 0 rfl ?_
  repeat' (first | refine o1 ?_ | refine o2 ?_ | refine k1 ?_ | refine k2 ?_ | refine k7 ?_ | (change retOk _ _ _ _; refine ret_pure rfl trivial ?_) | (change vcFun _ _ _ _ _; refine call_eq rfl (by repeat' (first | trivial | refine And.intro ?_ ?_ | (show 0 + _ ≤ List.length _; simp))) ALeL.refl (c_index_lect l f caps p hl hf) rfl ?_) | fail)
  exact congrArg vbool idxB_any
theorem c_any_class (l : List Class) (f : FuncId) (caps : List PV) (p : Class → Bool) (hl : l.length ≤ 100000) (hf : ∀ x ∈ l, PCall Tryz.prog f (ag (Class.row x) :: pvs caps) (fun r => r = vbool (p x))) :
    PCall Tryz.prog 61 [.pv (.sl 9 (l.map Class.row)), .pv (.fn f caps)] (fun r => r = vbool (l.any p)) := by
  refine acall_of tok mixed 9 rfl (fn := Tryz.f61) (c := Tryz.f61.body.getD .skip) (by kernel_rfl) (by kernel_rfl) (by kernel_rfl) rfl 0 rfl ?_
  repeat' (first | refine o1 ?_ | refine o2 ?_ | refine k1 ?_ | refine k2 ?_ | refine k7 ?_ | (change retOk _ _ _ _; refine ret_pure rfl trivial ?_) | (change vcFun _ _ _ _ _; refine call_eq rfl (by repeat' (first | trivial | refine And.intro ?_ ?_ | (show 0 + _ ≤ List.length _; simp))) ALeL.refl (c_index_class l f caps p hl hf) rfl ?_) | fail)
  exact congrArg vbool idxB_any
theorem c_any_curri (l : List Curri) (f : FuncId) (caps : List PV) (p : Curri → Bool) (hl : l.length ≤ 100000) (hf : ∀ x ∈ l, PCall Tryz.prog f (ag (Curri.row x) :: pvs caps) (fun r => r = vbool (p x))) :
    PCall Tryz.prog 64 [.pv (.sl 2 (l.map Curri.row)), .pv (.fn f caps)] (fun r => r = vbool (l.any p)) := by
  refine acall_of tok mixed 9 rfl (fn := Tryz.f64) (c := Tryz.f64.body.getD .skip) (by kernel_rfl) (by kernel_rfl) (by kernel_rfl) rfl 0 rfl ?_
  repeat' (first | refine o1 ?_ | refine o2 ?_ | refine k1 ?_ | refine k2 ?_ | refine k7 ?_ | (change retOk _ _ _ _; refine ret_pure rfl trivial ?_) | (change vcFun _ _ _ _ _; refine call_eq rfl (by repeat' (first | trivial | refine And.intro ?_ ?_ | (show 0 + _ ≤ List.length _; simp))) ALeL.refl (c_index_curri l f caps p hl hf) rfl ?_) | fail)
  exact congrArg vbool idxB_any
theorem c_any_req (l : List Req) (f : FuncId) (caps : List PV) (p : Req → Bool) (hl : l.length ≤ 100000) (hf : ∀ x ∈ l, PCall Tryz.prog f (ag (Req.row x) :: pvs caps) (fun r => r = vbool (p x))) :
    PCall Tryz.prog 67 [.pv (.sl 4 (l.map Req.row)), .pv (.fn f caps)] (fun r => r = vbool (l.any p)) := by
  refine acall_of tok mixed 9 rfl (fn := Tryz.f67) (c := Tryz.f67.body.getD .skip) (by kernel_rfl) (by kernel_rfl) (by kernel_rfl) rfl 0 rfl ?_
  repeat' (first | refine o1 ?_ | refine o2 ?_ | refine k1 ?_ | refine k2 ?_ | refine k7 ?_ | (change retOk _ _ _ _; refine ret_pure rfl trivial ?_) | (change vcFun _ _ _ _ _; refine call_eq rfl (by repeat' (first | trivial | refine And.intro ?_ ?_ | (show 0 + _ ≤ List.length _; simp))) ALeL.refl (c_index_req l f caps p hl hf) rfl ?_) | fail)
  exact congrArg vbool idxB_any
theorem c_any_ints (l : List (List Int)) (f : FuncId) (caps : List PV) (p : (List Int) → Bool) (hl : l.length ≤ 100000) (hf : ∀ x ∈ l, PCall Tryz.prog f (.pv (encInts x) :: pvs caps) (fun r => r = vbool (p x))) :
    PCall Tryz.prog 127 [.pv (.sl 1 (l.map intsRow)), .pv (.fn f caps)] (fun r => r = vbool (l.any p)) := by
  refine acall_of tok mixed 9 rfl (fn := Tryz.f127) (c := Tryz.f127.body.getD .skip) (by kernel_rfl) (by kernel_rfl) (by kernel_rfl) rfl 0 rfl ?_
  repeat' (first | refine o1 ?_ | refine o2 ?_ | refine k1 ?_ | refine k2 ?_ | refine k7 ?_ | (change retOk _ _ _ _; refine ret_pure rfl trivial ?_) | (change vcFun _ _ _ _ _; refine call_eq rfl (by repeat' (first | trivial | refine And.intro ?_ ?_ | (show 0 + _ ≤ List.length _; simp))) ALeL.refl (c_index_ints l f caps p hl hf) rfl ?_) | fail)
  exact congrArg vbool idxB_any
theorem c_any_str (l : List Str) (f : FuncId) (caps : List PV) (p : Str → Bool) (hl : l.length ≤ 100000) (hf : ∀ x ∈ l, PCall Tryz.prog f (.pv (es x) :: pvs caps) (fun r => r = vbool (p x))) :
    PCall Tryz.prog 71 [.pv (.sl 1 (l.map esRow)), .pv (.fn f caps)] (fun r => r = vbool (l.any p)) := by
  refine acall_of tok mixed 9 rfl (fn := Tryz.f71) (c := Tryz.f71.body.getD .skip) (by kernel_rfl) (by kernel_rfl) (by kernel_rfl) rfl 0 rfl ?_
  repeat' (first | refine o1 ?_ | refine o2 ?_ | refine k1 ?_ | refine k2 ?_ | refine k7 ?_ | (change retOk _ _ _ _; refine ret_pure rfl trivial ?_) | (change vcFun _ _ _ _ _; refine call_eq rfl (by repeat' (first | trivial | refine And.intro ?_ ?_ | (show 0 + _ ≤ List.length _; simp))) ALeL.refl (c_index_str l f caps p hl hf) rfl ?_) | fail)
  exact congrArg vbool idxB_any
theorem c_fit1 (t : Time) (g : Grid) (w : Int) : PCall Tryz.prog 222 [ag t.row, .pv (.ia g.row), .pv (.ia [ei w])] (fun r => r = vbool (pB (fitE g w t ≠ 0))) := by
  refine acall_of tok mixed 10 rfl (fn := Tryz.f222) (c := Tryz.f222.body.getD .skip) (by kernel_rfl) (by kernel_rfl) (by kernel_rfl) rfl 0 rfl ?_
  repeat' (first | refine o1 ?_ | refine o2 ?_ | refine k1 ?_ | refine k2 ?_ | refine k7 ?_ | (change retOk _ _ _ _; refine ret_pure rfl trivial ?_) | (change vcFun _ _ _ _ _; refine call_eq rfl (by repeat' (first | trivial | refine And.intro ?_ ?_ | (show 0 + _ ≤ List.length _; simp))) ALeL.refl (c_fits g w t) rfl ?_) | fail)
  exact congrArg vbool (pB_eq (by simp))
theorem c_fit (l : List Time) (g : Grid) (w : Int) (hl : l.length ≤ 100000) : PCall Tryz.prog 125 [.pv (encTimes l), ag g.row, vint .i64 w] (fun r => r = vbool (pB (∀ t ∈ l, fitE g w t = 0))) := by
  refine acall_of tok mixed 11 rfl (fn := Tryz.f125) (c := Tryz.f125.body.getD .skip) (by kernel_rfl) (by kernel_rfl) (by kernel_rfl) rfl 0 rfl ?_
  repeat' (first | refine o1 ?_ | refine o2 ?_ | refine k1 ?_ | refine k2 ?_ | refine k7 ?_ | (change retOk _ _ _ _; refine ret_pure rfl trivial ?_) | (change vcFun _ _ _ _ _; refine call_eq rfl (by repeat' (first | trivial | refine And.intro ?_ ?_ | (show 0 + _ ≤ List.length _; simp))) ALeL.refl (c_any_time l 222 [.ia g.row, .ia [ei w]] (fun t => pB (fitE g w t ≠ 0)) hl (fun t ht => c_fit1 t g w)) rfl ?_) | fail)
  exact congrArg vbool (pB_eq (by simp))
end Go.Proofs.YtkbaecjnhmbeeaaGreat.Cw
/-
  Contracts: terms.
-/
namespace Go.Proofs.YtkbaecjnhmbeeaaGreat.Cw
open Go.Cw Go.Proofs
set_option linter.unusedVariables false
set_option maxRecDepth 100000
theorem prevE {α : Type} {l : List α} {i : Nat} (h : i < l.length) : ∃ p, 0 < i → l[i - 1]? = some p := ⟨l[i - 1], fun _ => List.getElem?_eq_getElem (by omega)⟩
theorem first_fin {f : Nat → Int} {n i : Nat} {k : Int} {e : Int} (h0 : ∀ j, j < i → f j = 0) (hi : i < n) (hk : k ≠ 0) (he : e = firstE f n) (h : f i = k) : AV.pv (.val (.int .i64 k)) = vint .i64 e :=
  congrArg (vint .i64) (by rw [he, firstE_at h0 (by rw [h]; exact hk) hi, h])
theorem eqv_remn {d k : Int} {K : Int → Prop} (h : 0 ≤ d) (hk : K (d % k)) : eqv (d.tmod k) K := by
  rw [Int.tmod_eq_emod_of_nonneg h]; exact ⟨_, rfl, hk⟩
def dayP (d : Int) : Prop := 0 ≤ d ∧ d ≤ 36524
instance (d : Int) : Decidable (dayP d) := inferInstanceAs (Decidable (_ ∧ _))
def wdayI (d : Int) : Int := if dayP d then (d + 5) % 7 else -1
theorem c_vday (d : Int) : PCall Tryz.prog 120 [vint .i64 d] (fun r => r = vbool (pB (dayP d))) := by
  refine acall_of tok mixed 9 rfl (fn := Tryz.f120) (c := Tryz.f120.body.getD .skip) (by kernel_rfl) (by kernel_rfl) (by kernel_rfl) rfl 0 rfl ?_
  repeat' (first | refine o1 ?_ | refine o2 ?_ | refine k1 ?_ | refine k2 ?_ | refine k7 ?_ | refine And.intro ?_ ?_ | (intro h; first | exact Bool.noConfusion h | exact nz _ h | exact nl h | (simp at h; done) | (simp at h; first | (exfalso; omega) | skip) | skip) | (change retOk _ _ _ _; refine ret_pure rfl trivial ?_) | fail)
  all_goals exact congrArg vbool (pB_eq (by simp [dayP] <;> omega))
theorem c_rvday (d : Int) : PCall Tryz.prog 176 [vint .i64 d] (fun r => r = vbool (pB (dayP d))) := by
  refine acall_of tok mixed 9 rfl (fn := Tryz.f176) (c := Tryz.f176.body.getD .skip) (by kernel_rfl) (by kernel_rfl) (by kernel_rfl) rfl 0 rfl ?_
  repeat' (first | refine o1 ?_ | refine o2 ?_ | refine k1 ?_ | refine k2 ?_ | refine k7 ?_ | refine And.intro ?_ ?_ | (intro h; first | exact Bool.noConfusion h | exact nz _ h | exact nl h | (simp at h; done) | (simp at h; first | (exfalso; omega) | skip) | skip) | (change retOk _ _ _ _; refine ret_pure rfl trivial ?_) | fail)
  all_goals exact congrArg vbool (pB_eq (by simp [dayP] <;> omega))
theorem c_wday (d : Int) : PCall Tryz.prog 119 [vint .i64 d] (fun r => r = vint .i64 (wdayI d)) := by
  refine acall_of tok mixed 9 rfl (fn := Tryz.f119) (c := Tryz.f119.body.getD .skip) (by kernel_rfl) (by kernel_rfl) (by kernel_rfl) rfl 0 rfl ?_
  by_cases h : dayP d
  · have hb : 0 ≤ d ∧ d ≤ 36524 := h
    repeat' (first | (refine eqv_remn (by omega) ?_) | refine o1 ?_ | refine o2 ?_ | refine k1 ?_ | refine k2 ?_ | refine k3 ?_ | refine k6 ?_ | refine k7 ?_ | refine And.intro ?_ ?_ | (intro h; first | exact Bool.noConfusion h | exact nz _ h | exact nl h | (simp at h; done) | (simp at h; first | (exfalso; omega) | skip) | skip) | (change retOk _ _ _ _; refine ret_pure rfl trivial ?_) | refine eqv_wrap (by omega) (by omega) ?_ | (change vcFun _ _ _ _ _; refine call_eq rfl (by repeat' (first | trivial | refine And.intro ?_ ?_ | (show 0 + _ ≤ List.length _; simp))) ALeL.refl (c_vday d) rfl ?_) | fail)
    all_goals first
      | exact congrArg (vint .i64) (by rw [wdayI, if_pos h])
      | (exfalso; simp_all; done)
  · repeat' (first | refine o1 ?_ | refine o2 ?_ | refine k1 ?_ | refine k2 ?_ | refine k3 ?_ | refine k6 ?_ | refine k7 ?_ | refine And.intro ?_ ?_ | (intro h; first | exact Bool.noConfusion h | exact nz _ h | exact nl h | (simp at h; done) | (simp at h; first | (exfalso; omega) | skip) | skip) | (change retOk _ _ _ _; refine ret_pure rfl trivial ?_) | (change vcFun _ _ _ _ _; refine call_eq rfl (by repeat' (first | trivial | refine And.intro ?_ ?_ | (show 0 + _ ≤ List.length _; simp))) ALeL.refl (c_vday d) rfl ?_) | fail)
    all_goals first
      | exact congrArg (vint .i64) (by rw [wdayI, if_neg h])
      | (exfalso; simp_all; done)
theorem c_rwday (d : Int) : PCall Tryz.prog 175 [vint .i64 d] (fun r => r = vint .i64 (wdayI d)) := by
  refine acall_of tok mixed 9 rfl (fn := Tryz.f175) (c := Tryz.f175.body.getD .skip) (by kernel_rfl) (by kernel_rfl) (by kernel_rfl) rfl 0 rfl ?_
  by_cases h : dayP d
  · have hb : 0 ≤ d ∧ d ≤ 36524 := h
    repeat' (first | (refine eqv_remn (by omega) ?_) | refine o1 ?_ | refine o2 ?_ | refine k1 ?_ | refine k2 ?_ | refine k3 ?_ | refine k6 ?_ | refine k7 ?_ | refine And.intro ?_ ?_ | (intro h; first | exact Bool.noConfusion h | exact nz _ h | exact nl h | (simp at h; done) | (simp at h; first | (exfalso; omega) | skip) | skip) | (change retOk _ _ _ _; refine ret_pure rfl trivial ?_) | refine eqv_wrap (by omega) (by omega) ?_ | (change vcFun _ _ _ _ _; refine call_eq rfl (by repeat' (first | trivial | refine And.intro ?_ ?_ | (show 0 + _ ≤ List.length _; simp))) ALeL.refl (c_rvday d) rfl ?_) | fail)
    all_goals first
      | exact congrArg (vint .i64) (by rw [wdayI, if_pos h])
      | (exfalso; simp_all; done)
  · repeat' (first | refine o1 ?_ | refine o2 ?_ | refine k1 ?_ | refine k2 ?_ | refine k3 ?_ | refine k6 ?_ | refine k7 ?_ | refine And.intro ?_ ?_ | (intro h; first | exact Bool.noConfusion h | exact nz _ h | exact nl h | (simp at h; done) | (simp at h; first | (exfalso; omega) | skip) | skip) | (change retOk _ _ _ _; refine ret_pure rfl trivial ?_) | (change vcFun _ _ _ _ _; refine call_eq rfl (by repeat' (first | trivial | refine And.intro ?_ ?_ | (show 0 + _ ≤ List.length _; simp))) ALeL.refl (c_rvday d) rfl ?_) | fail)
    all_goals first
      | exact congrArg (vint .i64) (by rw [wdayI, if_neg h])
      | (exfalso; simp_all; done)
def lastI (t : Term) : Int := t.first + 7 * t.weeks - 1
noncomputable def holE (t : Term) (i : Nat) : Int := match t.hols[i]? with
  | none => 0
  | some h => if h < t.first ∨ lastI t < h then 13 else if pB (0 < i ∧ ∃ p, t.hols[i - 1]? = some p ∧ h ≤ p) then 11 else 0
noncomputable def termE (t : Term) : Int := if wdayI t.first ≠ 0 then 13 else if t.weeks < 1 ∨ 20 < t.weeks then 3 else if ¬ dayP (lastI t) then 13 else if 64 < t.hols.length then 2 else firstE (holE t) t.hols.length
theorem wday_b {d : Int} (h : wdayI d = 0) : 0 ≤ d ∧ d ≤ 36524 := by
  unfold wdayI at h
  split at h
  · assumption
  · omega
theorem hE {t : Term} {i : Nat} {h : Int} (hh : t.hols[i]? = some h) : holE t i = if h < t.first ∨ lastI t < h then 13 else if pB (0 < i ∧ ∃ p, t.hols[i - 1]? = some p ∧ h ≤ p) then 11 else 0 := by unfold holE; rw [hh]
theorem c_last (t : Term) (h1 : 0 ≤ t.first ∧ t.first ≤ 36524) (h2 : 1 ≤ t.weeks ∧ t.weeks ≤ 20) : PCall Tryz.prog 121 [ag t.row] (fun r => r = vint .i64 (lastI t)) := by
  refine acall_of tok mixed 10 rfl (fn := Tryz.f121) (c := Tryz.f121.body.getD .skip) (by kernel_rfl) (by kernel_rfl) (by kernel_rfl) rfl 0 rfl ?_
  repeat' (first | refine o1 ?_ | refine o2 ?_ | refine k1 ?_ | refine k2 ?_ | refine k7 ?_ | (change retOk _ _ _ _; refine ret_pure rfl trivial ?_) | refine eqv_wrap (by omega) (by omega) ?_ | fail)
  exact congrArg (vint .i64) (by unfold lastI; omega)
theorem hol_ok {t : Term} {i : Nat} {h : Int} (hh : t.hols[i]? = some h) (h1 : t.first ≤ h ∧ h ≤ lastI t) (h2 : 0 < i → ∀ p, t.hols[i - 1]? = some p → p < h) : holE t i = 0 := by
  rw [hE hh, if_neg (by omega), if_neg]
  rw [pB_f (fun ⟨a, p, b, c⟩ => by have := h2 a p b; omega)]; simp
theorem hol_dup {t : Term} {i : Nat} {h p : Int} (hh : t.hols[i]? = some h) (h1 : t.first ≤ h ∧ h ≤ lastI t) (h0 : 0 < i) (hp : t.hols[i - 1]? = some p) (h2 : h ≤ p) : holE t i = 11 := by
  rw [hE hh, if_neg (by omega), if_pos]
  exact pB_t ⟨h0, p, hp, h2⟩
theorem hol_out {t : Term} {i : Nat} {h : Int} (hh : t.hols[i]? = some h) (h1 : h < t.first ∨ lastI t < h) : holE t i = 13 := by
  rw [hE hh, if_pos h1]
section
variable {t : Term}
theorem tE1 (h : wdayI t.first ≠ 0) : termE t = 13 := by unfold termE; rw [if_pos h]
theorem tE2 (h0 : wdayI t.first = 0) (h : t.weeks < 1 ∨ 20 < t.weeks) : termE t = 3 := by unfold termE; rw [if_neg (by omega), if_pos h]
theorem tE3 (h0 : wdayI t.first = 0) (h1 : 1 ≤ t.weeks ∧ t.weeks ≤ 20) (h : ¬ dayP (lastI t)) : termE t = 13 := by unfold termE; rw [if_neg (by omega), if_neg (by omega), if_pos h]
theorem tE4 (h0 : wdayI t.first = 0) (h1 : 1 ≤ t.weeks ∧ t.weeks ≤ 20) (h2 : dayP (lastI t)) (h : 64 < t.hols.length) : termE t = 2 := by unfold termE; rw [if_neg (by omega), if_neg (by omega), if_neg (by simp [h2]), if_pos h]
theorem tE5 (h0 : wdayI t.first = 0) (h1 : 1 ≤ t.weeks ∧ t.weeks ≤ 20) (h2 : dayP (lastI t)) (h : t.hols.length ≤ 64) : termE t = firstE (holE t) t.hols.length := by unfold termE; rw [if_neg (by omega), if_neg (by omega), if_neg (by simp [h2]), if_neg (by omega)]
end
theorem vi {n m : Int} (h : m = n) : AV.pv (.val (.int .i64 n)) = vint .i64 m := by rw [h]; rfl
theorem c_term (t : Term) : PCall Tryz.prog 48 [ag t.row] (fun r => r = vint .i64 (termE t)) := by
  refine acall_of tok mixed 60 rfl (fn := Tryz.f48) (c := Tryz.f48.body.getD .skip) (by kernel_rfl) (by kernel_rfl) (by kernel_rfl) rfl 0 rfl ?_
  by_cases h0 : ¬ wdayI t.first = 0
  · repeat' (first | refine o1 ?_ | refine o2 ?_ | refine k1 ?_ | refine k2 ?_ | refine k3 ?_ | refine k4 ?_ | refine k7 ?_ | refine And.intro ?_ ?_ | (intro h; first | exact Bool.noConfusion h | exact nz _ h | exact nl h | (simp at h; done) | (simp at h; first | (exfalso; omega) | skip) | skip) | (change retOk _ _ _ _; refine ret_pure rfl trivial ?_) | (change vcFun _ _ _ _ _; refine call_eq rfl (by repeat' (first | trivial | refine And.intro ?_ ?_ | (show 0 + _ ≤ List.length _; simp))) ALeL.refl (c_wday t.first) rfl ?_) | fail)
    all_goals first
      | exact vi (tE1 h0)
      | (exfalso; simp_all; done)
  have h0 : wdayI t.first = 0 := by omega
  have hb := wday_b h0
  by_cases h1 : ¬ (1 ≤ t.weeks ∧ t.weeks ≤ 20)
  · repeat' (first | refine o1 ?_ | refine o2 ?_ | refine k1 ?_ | refine k2 ?_ | refine k3 ?_ | refine k4 ?_ | refine k7 ?_ | refine And.intro ?_ ?_ | (intro h; first | exact Bool.noConfusion h | exact nz _ h | exact nl h | (simp at h; done) | (simp at h; first | (exfalso; omega) | skip) | skip) | (change retOk _ _ _ _; refine ret_pure rfl trivial ?_) | (change vcFun _ _ _ _ _; refine call_eq rfl (by repeat' (first | trivial | refine And.intro ?_ ?_ | (show 0 + _ ≤ List.length _; simp))) ALeL.refl (c_wday t.first) rfl ?_) | fail)
    all_goals first
      | exact vi (tE2 h0 (by omega))
      | (exfalso; omega)
      | (exfalso; simp_all; done)
  have h1 : 1 ≤ t.weeks ∧ t.weeks ≤ 20 := by omega
  have hl : lastI t = t.first + t.weeks * 7 - 1 := by unfold lastI; omega
  repeat' (first | refine o1 ?_ | refine o2 ?_ | refine k1 ?_ | refine k2 ?_ | refine k3 ?_ | refine k4 ?_ | refine k6 ?_ | refine k7 ?_ | refine And.intro ?_ ?_ | (intro h; first | exact Bool.noConfusion h | exact nz _ h | exact nl h | (simp at h; done) | (simp at h; first | (exfalso; omega) | skip) | skip) | (change retOk _ _ _ _; refine ret_pure rfl trivial ?_) | refine eqv_len_map ?_ | (change vcFun _ _ _ _ _; refine call_eq rfl (by repeat' (first | trivial | refine And.intro ?_ ?_ | (show 0 + _ ≤ List.length _; simp))) ALeL.refl (c_wday t.first) rfl ?_) | (change vcFun _ _ _ _ _; refine call_eq rfl (by repeat' (first | trivial | refine And.intro ?_ ?_ | (show 0 + _ ≤ List.length _; simp))) ALeL.refl (c_vday (lastI t)) rfl ?_) | (change vcFun _ _ _ _ _; refine call_eq rfl (by repeat' (first | trivial | refine And.intro ?_ ?_ | (show 0 + _ ≤ List.length _; simp))) ALeL.refl (c_last t hb h1) rfl ?_) | fail)
  all_goals try first
    | (exfalso; omega)
    | exact vi (tE3 h0 h1 (by assumption))
    | exact vi (tE4 h0 h1 (by assumption) (by omega))
    | (exfalso; simp_all; done)
  have h2 : dayP (lastI t) := by assumption
  have h3 : t.hols.length ≤ 64 := by omega
  have hfin := tE5 h0 h1 h2 h3
  refine loop_at (fun i : Nat => [(32, vint .i64 i)]) (fun _ => []) (fun i => i ≤ t.hols.length ∧ ∀ j, j < i → holE t j = 0) (fun i => t.hols.length - i) 0 ⟨by omega, fun j hj => by omega⟩ (by repeat' (first | exact trivial | exact ⟨_, rfl, ALe.refl⟩ | refine And.intro ?_ ?_)) (by repeat' (first | exact trivial | exact rfl | refine And.intro ?_ ?_)) ?_
  intro i ⟨hi, hall⟩
  rcases Nat.lt_or_ge i t.hols.length with hlt | hge
  · obtain ⟨h, hh⟩ := getE hlt
    obtain ⟨p, hp⟩ := prevE hlt
    repeat' (first | refine o1 ?_ | refine o2 ?_ | refine k1 ?_ | refine k2 ?_ | refine k3 ?_ | refine k4 ?_ | refine k6 ?_ | refine k7 ?_ | refine And.intro ?_ ?_ | (intro h; first | exact Bool.noConfusion h | exact nz _ h | exact nl h | (simp at h; done) | (simp at h; first | (exfalso; omega) | skip) | skip) | (change retOk _ _ _ _; refine ret_pure rfl trivial ?_) | refine eqv_wrap (by omega) (by omega) ?_ | refine ⟨_, _, (by first | rfl | assumption), at_map (by assumption), ?_⟩ | (change vcFun _ _ _ _ _; refine call_eq rfl (by repeat' (first | trivial | refine And.intro ?_ ?_ | (show 0 + _ ≤ List.length _; simp))) ALeL.refl (c_last t hb h1) rfl ?_) | (refine idx_sl (k := i - 1) (at_map (hp (by omega))) (by omega) ?_) | fail)
    all_goals first
      | exact first_fin hall hlt (by decide) hfin (hol_out hh (by omega))
      | exact first_fin hall hlt (by decide) hfin (hol_dup hh (by omega) (by omega) (hp (by omega)) (by omega))
      | exact ⟨i + 1, ⟨by omega, all_lt_succ hall (hol_ok hh (by omega) (fun g q hq => by have := hp g; rw [this] at hq; cases hq; omega))⟩, by omega, back [0] rfl rfl ⟨rfl, trivial⟩ (by repeat' (first | exact trivial | exact rfl | refine And.intro ?_ ?_))⟩
  · repeat' (first | refine o1 ?_ | refine o2 ?_ | refine k1 ?_ | refine k2 ?_ | refine k3 ?_ | refine k7 ?_ | refine k8 ?_ | refine And.intro ?_ ?_ | (intro h; first | exact Bool.noConfusion h | exact nz _ h | exact nl h | (simp at h; done) | (simp at h; first | (exfalso; omega) | skip) | skip) | (change retOk _ _ _ _; refine ret_pure rfl trivial ?_) | fail)
    exact vi (by rw [hfin, firstE_zero fun j hj => hall j (by omega)])
theorem c_rterm (t : Term) : PCall Tryz.prog 84 [ag t.row] (fun r => r = vint .i64 (termE t)) := by
  refine acall_of tok mixed 71 rfl (fn := Tryz.f84) (c := Tryz.f84.body.getD .skip) (by kernel_rfl) (by kernel_rfl) (by kernel_rfl) rfl 0 rfl ?_
  by_cases h0 : ¬ wdayI t.first = 0
  · repeat' (first | refine o1 ?_ | refine o2 ?_ | refine k1 ?_ | refine k2 ?_ | refine k3 ?_ | refine k7 ?_ | refine And.intro ?_ ?_ | (intro h; first | exact Bool.noConfusion h | exact nz _ h | exact nl h | (simp at h; done) | (simp at h; first | (exfalso; omega) | skip) | skip) | (change retOk _ _ _ _; refine ret_pure rfl trivial ?_) | (change vcFun _ _ _ _ _; refine call_eq rfl (by repeat' (first | trivial | refine And.intro ?_ ?_ | (show 0 + _ ≤ List.length _; simp))) ALeL.refl (c_rwday t.first) rfl ?_) | fail)
    all_goals first
      | exact vi (tE1 h0)
      | (exfalso; simp_all; done)
  have h0 : wdayI t.first = 0 := by omega
  have hb := wday_b h0
  by_cases h1 : ¬ (1 ≤ t.weeks ∧ t.weeks ≤ 20)
  · repeat' (first | refine o1 ?_ | refine o2 ?_ | refine k1 ?_ | refine k2 ?_ | refine k3 ?_ | refine k6 ?_ | refine k7 ?_ | refine And.intro ?_ ?_ | (intro h; first | exact Bool.noConfusion h | exact nz _ h | exact nl h | (simp at h; done) | (simp at h; first | (exfalso; omega) | skip) | skip) | (change retOk _ _ _ _; refine ret_pure rfl trivial ?_) | (change vcFun _ _ _ _ _; refine call_eq rfl (by repeat' (first | trivial | refine And.intro ?_ ?_ | (show 0 + _ ≤ List.length _; simp))) ALeL.refl (c_rwday t.first) rfl ?_) | fail)
    all_goals first
      | exact vi (tE2 h0 (by omega))
      | (exfalso; omega)
      | (exfalso; simp_all; done)
  have h1 : 1 ≤ t.weeks ∧ t.weeks ≤ 20 := by omega
  have hl : lastI t = t.first + t.weeks * 7 - 1 := by unfold lastI; omega
  repeat' (first | (refine eqv_to (lastI t) (by unfold lastI; exact wrap64 (by omega) (by omega)) ?_) | refine o1 ?_ | refine o2 ?_ | refine k1 ?_ | refine k2 ?_ | refine k3 ?_ | refine k4 ?_ | refine k6 ?_ | refine k7 ?_ | refine And.intro ?_ ?_ | (intro h; first | exact Bool.noConfusion h | exact nz _ h | exact nl h | (simp at h; done) | (simp at h; first | (exfalso; omega) | skip) | skip) | (change retOk _ _ _ _; refine ret_pure rfl trivial ?_) | refine eqv_len_map ?_ | refine eqv_wrap (by omega) (by omega) ?_ | (change vcFun _ _ _ _ _; refine call_eq rfl (by repeat' (first | trivial | refine And.intro ?_ ?_ | (show 0 + _ ≤ List.length _; simp))) ALeL.refl (c_rwday t.first) rfl ?_) | (change vcFun _ _ _ _ _; refine call_eq rfl (by repeat' (first | trivial | refine And.intro ?_ ?_ | (show 0 + _ ≤ List.length _; simp))) ALeL.refl (c_rvday (lastI t)) rfl ?_) | fail)
  all_goals try first
    | (exfalso; omega)
    | exact vi (tE3 h0 h1 (by assumption))
    | exact vi (tE4 h0 h1 (by assumption) (by omega))
    | (exfalso; simp_all; done)
  have h2 : dayP (lastI t) := by assumption
  have h3 : t.hols.length ≤ 64 := by omega
  have hfin := tE5 h0 h1 h2 h3
  refine loop_at (fun i : Nat => [(4, vint .i64 i)]) (fun _ => []) (fun i => i ≤ t.hols.length ∧ ∀ j, j < i → holE t j = 0) (fun i => t.hols.length - i) 0 ⟨by omega, fun j hj => by omega⟩ (by repeat' (first | exact trivial | exact ⟨_, rfl, ALe.refl⟩ | refine And.intro ?_ ?_)) (by repeat' (first | exact trivial | exact rfl | refine And.intro ?_ ?_)) ?_
  intro i ⟨hi, hall⟩
  rcases Nat.lt_or_ge i t.hols.length with hlt | hge
  · obtain ⟨h, hh⟩ := getE hlt
    obtain ⟨p, hp⟩ := prevE hlt
    repeat' (first | refine o1 ?_ | refine o2 ?_ | refine k1 ?_ | refine k2 ?_ | refine k3 ?_ | refine k4 ?_ | refine k6 ?_ | refine k7 ?_ | refine And.intro ?_ ?_ | refine o3 ?_ | refine o4 ?_ | (intro h; first | exact Bool.noConfusion h | exact nz _ h | exact nl h | (simp at h; done) | (simp at h; first | (exfalso; omega) | skip) | skip) | (change retOk _ _ _ _; refine ret_pure rfl trivial ?_) | exact (by kernel_rfl : drawOk _ _ = true) | refine eqv_len_map ?_ | refine eqv_wrap (by omega) (by omega) ?_ | refine ⟨_, _, (by first | rfl | assumption), at_map (by assumption), ?_⟩ | (refine idx_sl (k := i - 1) (at_map (hp (by omega))) (by omega) ?_) | fail)
    all_goals first
      | exact first_fin hall hlt (by decide) hfin (hol_out hh (by omega))
      | exact first_fin hall hlt (by decide) hfin (hol_dup hh (by omega) (by omega) (hp (by omega)) (by omega))
      | exact ⟨i + 1, ⟨by omega, all_lt_succ hall (hol_ok hh (by omega) (fun g q hq => by have := hp g; rw [this] at hq; cases hq; omega))⟩, by omega, back [0] rfl rfl ⟨rfl, trivial⟩ (by repeat' (first | exact trivial | exact rfl | refine And.intro ?_ ?_))⟩
  · repeat' (first | refine o1 ?_ | refine o2 ?_ | refine k1 ?_ | refine k2 ?_ | refine k3 ?_ | refine k7 ?_ | refine k8 ?_ | refine And.intro ?_ ?_ | (intro h; first | exact Bool.noConfusion h | exact nz _ h | exact nl h | (simp at h; done) | (simp at h; first | (exfalso; omega) | skip) | skip) | (change retOk _ _ _ _; refine ret_pure rfl trivial ?_) | refine eqv_len_map ?_ | fail)
    exact vi (by rw [hfin, firstE_zero fun j hj => hall j (by omega)])
end Go.Proofs.YtkbaecjnhmbeeaaGreat.Cw
/-
  Contracts: times that overlap.
-/
namespace Go.Proofs.YtkbaecjnhmbeeaaGreat.Cw
open Go.Cw Go.Proofs
set_option linter.unusedVariables false
set_option maxRecDepth 100000
set_option maxHeartbeats 800000
def meetP (a b : Time) : Prop := soundP a ∧ soundP b ∧ bits .and .i64 a.weeks b.weeks ≠ 0 ∧ a.day = b.day
noncomputable def btw (a b : Time) : Int := if pB (meetP a b) then max (-1) (max (b.start - a.start - a.len) (a.start - b.start - b.len)) else 0
def ovP (a b : Time) : Prop := meetP a b ∧ b.start < a.start + a.len ∧ a.start < b.start + b.len
end Go.Proofs.YtkbaecjnhmbeeaaGreat.Cw
/-
  Contracts: rooms.
-/
namespace Go.Proofs.YtkbaecjnhmbeeaaGreat.Cw
open Go.Cw Go.Proofs
set_option linter.unusedVariables false
set_option maxRecDepth 100000
noncomputable def roomE (l : List Room) (g : Grid) (w : Int) (i : Nat) : Int := match l[i]? with
  | none => 0
  | some r => if pB (¬ codeP r.code ∨ ¬ codeP r.bld) then 10 else if r.seats < 1 ∨ 9999 < r.seats then 3 else if 8 < r.feats.length ∨ 24 < r.closed.length then 2 else
    if pB (ascP r.feats) then (if pB (∀ t ∈ r.closed, fitE g w t = 0) then (if pB (∃ j, j < i ∧ ∃ q, l[j]? = some q ∧ q.code = r.code) then 11 else 0) else 14) else 10
noncomputable def roomsE (l : List Room) (g : Grid) (w : Int) : Int := if pB (weekP g w) then (if 16 < l.length then 2 else firstE (roomE l g w) l.length) else 1
theorem roomsE_at {l : List Room} {g : Grid} {w : Int} {i : Nat} (hw : weekP g w) (hn : l.length ≤ 16) (h0 : ∀ j, j < i → roomE l g w j = 0) (hi : i < l.length) (h : roomE l g w i ≠ 0) : roomsE l g w = roomE l g w i := by
  unfold roomsE
  rw [pB_t hw, if_pos rfl, if_neg (by omega), firstE_at h0 h hi]
theorem roomE_eq {l : List Room} {g : Grid} {w : Int} {i : Nat} {r : Room} (hr : l[i]? = some r) : roomE l g w i = if pB (¬ codeP r.code ∨ ¬ codeP r.bld) then 10 else if r.seats < 1 ∨ 9999 < r.seats then 3 else if 8 < r.feats.length ∨ 24 < r.closed.length then 2 else
    if pB (ascP r.feats) then (if pB (∀ t ∈ r.closed, fitE g w t = 0) then (if pB (∃ j, j < i ∧ ∃ q, l[j]? = some q ∧ q.code = r.code) then 11 else 0) else 14) else 10 := by unfold roomE; rw [hr]
section
variable {l : List Room} {g : Grid} {w : Int} {i : Nat} {r : Room} (hr : l[i]? = some r)
include hr
theorem rE1 (h : ¬ codeP r.code ∨ ¬ codeP r.bld) : roomE l g w i = 10 := by rw [roomE_eq hr, if_pos (pB_t h)]
theorem rE2 (h1 : codeP r.code) (h2 : codeP r.bld) (h : r.seats < 1 ∨ 9999 < r.seats) : roomE l g w i = 3 := by rw [roomE_eq hr, if_neg (by simp [h1, h2]), if_pos h]
theorem rE3 (h1 : codeP r.code) (h2 : codeP r.bld) (h3 : 1 ≤ r.seats ∧ r.seats ≤ 9999) (h : 8 < r.feats.length ∨ 24 < r.closed.length) : roomE l g w i = 2 := by rw [roomE_eq hr, if_neg (by simp [h1, h2]), if_neg (by omega), if_pos h]
theorem rE4 (h1 : codeP r.code) (h2 : codeP r.bld) (h3 : 1 ≤ r.seats ∧ r.seats ≤ 9999) (h4 : r.feats.length ≤ 8 ∧ r.closed.length ≤ 24) (h : ¬ ascP r.feats) : roomE l g w i = 10 := by rw [roomE_eq hr, if_neg (by simp [h1, h2]), if_neg (by omega), if_neg (by omega), if_neg (by simp [h])]
theorem rE5 (h1 : codeP r.code) (h2 : codeP r.bld) (h3 : 1 ≤ r.seats ∧ r.seats ≤ 9999) (h4 : r.feats.length ≤ 8 ∧ r.closed.length ≤ 24) (h5 : ascP r.feats) (h : ¬ ∀ t ∈ r.closed, fitE g w t = 0) : roomE l g w i = 14 := by rw [roomE_eq hr, if_neg (by simp [h1, h2]), if_neg (by omega), if_neg (by omega), if_pos (pB_t h5), if_neg (by rw [pB_f h]; simp)]
theorem rE6 (h1 : codeP r.code) (h2 : codeP r.bld) (h3 : 1 ≤ r.seats ∧ r.seats ≤ 9999) (h4 : r.feats.length ≤ 8 ∧ r.closed.length ≤ 24) (h5 : ascP r.feats) (h6 : ∀ t ∈ r.closed, fitE g w t = 0) (h : ∃ j, j < i ∧ ∃ q, l[j]? = some q ∧ q.code = r.code) : roomE l g w i = 11 := by rw [roomE_eq hr, if_neg (by simp [h1, h2]), if_neg (by omega), if_neg (by omega), if_pos (pB_t h5), if_pos (pB_t h6), if_pos (pB_t h)]
theorem rE7 (h1 : codeP r.code) (h2 : codeP r.bld) (h3 : 1 ≤ r.seats ∧ r.seats ≤ 9999) (h4 : r.feats.length ≤ 8 ∧ r.closed.length ≤ 24) (h5 : ascP r.feats) (h6 : ∀ t ∈ r.closed, fitE g w t = 0) (h : ¬ ∃ j, j < i ∧ ∃ q, l[j]? = some q ∧ q.code = r.code) : roomE l g w i = 0 := by rw [roomE_eq hr, if_neg (by simp [h1, h2]), if_neg (by omega), if_neg (by omega), if_pos (pB_t h5), if_pos (pB_t h6), if_neg (by rw [pB_f h]; simp)]
end
theorem room_fin {l : List Room} {g : Grid} {w : Int} {i : Nat} {k : Int} (hw : weekP g w) (hn : l.length ≤ 16) (h0 : ∀ j, j < i → roomE l g w j = 0) (hi : i < l.length) (hk : k ≠ 0) (h : roomE l g w i = k) : AV.pv (.val (.int .i64 k)) = vint .i64 (roomsE l g w) :=
  congrArg (vint .i64) (by rw [roomsE_at hw hn h0 hi (by rw [h]; exact hk), h])
def metP (l : List Room) (i : Nat) (es : List (Value × Nat × AV)) : Prop := (strM es ∧ pureM es) ∧ ∀ c : Str, ((∃ j, j < i ∧ ∃ q, l[j]? = some q ∧ q.code = c) → getM (.string c) es = some (vbool true)) ∧ (¬ (∃ j, j < i ∧ ∃ q, l[j]? = some q ∧ q.code = c) → getM (.string c) es = none)
theorem metP_next {l : List Room} {i : Nat} {es : List (Value × Nat × AV)} {r : Room} {ck : Nat} (h : metP l i es) (hr : l[i]? = some r) : metP l (i + 1) (putM (.string r.code) (vbool true) ck es) := by
  refine ⟨⟨strM_put h.1.1, pureM_put h.1.2⟩, fun c => ?_⟩
  have hp := get_put_str (a := c) (b := r.code) (v := vbool true) (ck := ck) h.1.1
  by_cases e : c = r.code
  · exact ⟨fun _ => hp.1 e, fun hn => absurd ⟨i, by omega, r, hr, e.symm⟩ hn⟩
  · rw [hp.2 e]
    refine ⟨fun ⟨j, hj, q, hq, hc⟩ => (h.2 c).1 ⟨j, ?_, q, hq, hc⟩, fun hn => (h.2 c).2 fun ⟨j, hj, q, hq, hc⟩ => hn ⟨j, by omega, q, hq, hc⟩⟩
    rcases Nat.lt_or_ge j i with h1 | h1
    · exact h1
    · have : j = i := by omega
      subst this
      rw [hr] at hq; injection hq with hq; subst hq
      exact absurd hc.symm e
theorem c_rooms (l : List Room) (g : Grid) (w : Int) : PCall Tryz.prog 50 [.pv (encRooms l), ag g.row, vint .i64 w] (fun r => r = vint .i64 (roomsE l g w)) := by
  refine acall_of tok mixed 78 rfl (fn := Tryz.f50) (c := Tryz.f50.body.getD .skip) (by kernel_rfl) (by kernel_rfl) (by kernel_rfl) rfl 0 rfl ?_
  repeat' (first | refine o1 ?_ | refine o2 ?_ | refine k1 ?_ | refine k2 ?_ | refine k3 ?_ | refine k4 ?_ | refine k6 ?_ | refine k7 ?_ | refine And.intro ?_ ?_ | (intro h; first | exact Bool.noConfusion h | exact nz _ h | exact nl h | (simp at h; done) | (simp at h; first | (exfalso; omega) | skip) | skip) | (change retOk _ _ _ _; refine ret_pure rfl trivial ?_) | refine eqv_len_map ?_ | (change vcFun _ _ _ _ _; refine call_eq rfl (by repeat' (first | trivial | refine And.intro ?_ ?_ | (show 0 + _ ≤ List.length _; simp))) ALeL.refl (c_week g w) rfl ?_) | fail)
  · exact congrArg (vint .i64) (by simp [roomsE, *])
  · exact congrArg (vint .i64) (by simp [roomsE, *]; omega)
  · have hw : weekP g w := by assumption
    have hn : l.length ≤ 16 := by omega
    refine loop_at (fun x : Nat × List (Value × Nat × AV) × Nat => [(22, vint .i64 x.1)]) (fun x => [(1, some (.mp .str .i64 x.2.1 x.2.2))]) (fun x => x.1 ≤ l.length ∧ metP l x.1 x.2.1 ∧ ∀ j, j < x.1 → roomE l g w j = 0) (fun x => l.length - x.1) (0, [], 0)
      ⟨by simp, ⟨⟨fun e he => by simp at he, fun e he => by simp at he⟩, fun c => ⟨fun ⟨j, hj, _⟩ => by simp at hj, fun _ => rfl⟩⟩, fun j hj => by simp at hj⟩ (by repeat' (first | exact trivial | exact ⟨_, rfl, ALe.refl⟩ | refine And.intro ?_ ?_)) (by repeat' (first | exact trivial | exact rfl | refine And.intro ?_ ?_)) ?_
    rintro ⟨i, es', ck⟩ ⟨hi, hmet, hall⟩
    dsimp only at hi hmet hall
    rcases Nat.lt_or_ge i l.length with hlt | hge
    · obtain ⟨r, hr⟩ := getE hlt
      by_cases hd : ∃ j, j < i ∧ ∃ q, l[j]? = some q ∧ q.code = r.code
      · have hg := (hmet.2 r.code).1 hd
        repeat' (first | (refine eqv_to _ hg ?_) | refine o1 ?_ | refine o2 ?_ | refine k1 ?_ | refine k2 ?_ | refine k3 ?_ | refine k4 ?_ | refine k6 ?_ | refine k7 ?_ | refine And.intro ?_ ?_ | (intro h; first | exact Bool.noConfusion h | exact nz _ h | exact nl h | (simp at h; done) | (simp at h; first | (exfalso; omega) | skip) | skip) | (change retOk _ _ _ _; refine ret_pure rfl trivial ?_) | exact (by kernel_rfl : drawOk _ _ = true) | refine eqv_len_map ?_ | refine ⟨_, _, (by first | rfl | assumption), at_map (by assumption), ?_⟩ | (change vcFun _ _ _ _ _; refine call_eq rfl (by repeat' (first | trivial | refine And.intro ?_ ?_ | (show 0 + _ ≤ List.length _; simp))) ALeL.refl (c_code r.code) rfl ?_) | (change vcFun _ _ _ _ _; refine call_eq rfl (by repeat' (first | trivial | refine And.intro ?_ ?_ | (show 0 + _ ≤ List.length _; simp))) ALeL.refl (c_code r.bld) rfl ?_) | (change vcFun _ _ _ _ _; refine call_eq rfl (by repeat' (first | trivial | refine And.intro ?_ ?_ | (show 0 + _ ≤ List.length _; simp))) ALeL.refl (c_asc r.feats (by omega)) rfl ?_) | (change vcFun _ _ _ _ _; refine call_eq rfl (by repeat' (first | trivial | refine And.intro ?_ ?_ | (show 0 + _ ≤ List.length _; simp))) ALeL.refl (c_fit r.closed g w (by omega)) rfl ?_) | fail)
        all_goals first
          | exact room_fin hw hn hall hlt (by decide) (rE1 hr (by first | exact .inl (by assumption) | exact .inr (by assumption)))
          | exact room_fin hw hn hall hlt (by decide) (rE2 hr (by assumption) (by assumption) (by omega))
          | exact room_fin hw hn hall hlt (by decide) (rE3 hr (by assumption) (by assumption) (by omega) (by omega))
          | exact room_fin hw hn hall hlt (by decide) (rE4 hr (by assumption) (by assumption) (by omega) (by omega) (by assumption))
          | exact room_fin hw hn hall hlt (by decide) (rE5 hr (by assumption) (by assumption) (by omega) (by omega) (by assumption) (by first | assumption | simpa using ‹_›))
          | exact room_fin hw hn hall hlt (by decide) (rE6 hr (by assumption) (by assumption) (by omega) (by omega) (by assumption) (by assumption) hd)
      · have hg := (hmet.2 r.code).2 hd
        repeat' (first | (refine eqv_to _ hg ?_) | refine o1 ?_ | refine o2 ?_ | refine k1 ?_ | refine k2 ?_ | refine k3 ?_ | refine k4 ?_ | refine k6 ?_ | refine k7 ?_ | refine And.intro ?_ ?_ | (intro h; first | exact Bool.noConfusion h | exact nz _ h | exact nl h | (simp at h; done) | (simp at h; first | (exfalso; omega) | skip) | skip) | (change retOk _ _ _ _; refine ret_pure rfl trivial ?_) | exact (by kernel_rfl : drawOk _ _ = true) | refine eqv_len_map ?_ | refine eqv_put (eqv_ck ?_) | refine eqv_wrap (by omega) (by omega) ?_ | refine ⟨_, _, (by first | rfl | assumption), at_map (by assumption), ?_⟩ | (change vcFun _ _ _ _ _; refine call_eq rfl (by repeat' (first | trivial | refine And.intro ?_ ?_ | (show 0 + _ ≤ List.length _; simp))) ALeL.refl (c_code r.code) rfl ?_) | (change vcFun _ _ _ _ _; refine call_eq rfl (by repeat' (first | trivial | refine And.intro ?_ ?_ | (show 0 + _ ≤ List.length _; simp))) ALeL.refl (c_code r.bld) rfl ?_) | (change vcFun _ _ _ _ _; refine call_eq rfl (by repeat' (first | trivial | refine And.intro ?_ ?_ | (show 0 + _ ≤ List.length _; simp))) ALeL.refl (c_asc r.feats (by omega)) rfl ?_) | (change vcFun _ _ _ _ _; refine call_eq rfl (by repeat' (first | trivial | refine And.intro ?_ ?_ | (show 0 + _ ≤ List.length _; simp))) ALeL.refl (c_fit r.closed g w (by omega)) rfl ?_) | fail)
        all_goals first
          | exact room_fin hw hn hall hlt (by decide) (rE1 hr (by first | exact .inl (by assumption) | exact .inr (by assumption)))
          | exact room_fin hw hn hall hlt (by decide) (rE2 hr (by assumption) (by assumption) (by omega))
          | exact room_fin hw hn hall hlt (by decide) (rE3 hr (by assumption) (by assumption) (by omega) (by omega))
          | exact room_fin hw hn hall hlt (by decide) (rE4 hr (by assumption) (by assumption) (by omega) (by omega) (by assumption))
          | exact room_fin hw hn hall hlt (by decide) (rE5 hr (by assumption) (by assumption) (by omega) (by omega) (by assumption) (by first | assumption | simpa using ‹_›))
          | exact room_fin hw hn hall hlt (by decide) (rE6 hr (by assumption) (by assumption) (by omega) (by omega) (by assumption) (by assumption) hd)
          | exact ⟨(i + 1, _, _), ⟨hlt, metP_next hmet hr, all_lt_succ hall (rE7 hr (by assumption) (by assumption) (by omega) (by omega) (by assumption) (by assumption) hd)⟩, by dsimp only; omega, back [0, 1] rfl rfl ⟨rfl, (congrArg (fun o => some (some o)) (ren_mp (pureM_put (p := .val (.bool true)) (k := .string r.code) (ck := ck) hmet.1.2)).symm), trivial⟩ (by repeat' (first | exact trivial | exact rfl | refine And.intro ?_ ?_))⟩
    · repeat' (first | refine o1 ?_ | refine o2 ?_ | refine k1 ?_ | refine k2 ?_ | refine k3 ?_ | refine k7 ?_ | refine k8 ?_ | refine And.intro ?_ ?_ | (intro h; first | exact Bool.noConfusion h | exact nz _ h | exact nl h | (simp at h; done) | (simp at h; first | (exfalso; omega) | skip) | skip) | (change retOk _ _ _ _; refine ret_pure rfl trivial ?_) | fail)
      exact congrArg (vint .i64) (by rw [roomsE, pB_t hw, if_pos rfl, if_neg (by omega), firstE_zero fun j hj => hall j (by omega)])
end Go.Proofs.YtkbaecjnhmbeeaaGreat.Cw
/-
  Contracts: rooms, the reference.
-/
namespace Go.Proofs.YtkbaecjnhmbeeaaGreat.Cw
open Go.Cw Go.Proofs
set_option linter.unusedVariables false
set_option maxRecDepth 100000
theorem c_rrooms (l : List Room) (g : Grid) (w : Int) : PCall Tryz.prog 85 [.pv (encRooms l), ag g.row, vint .i64 w] (fun r => r = vint .i64 (roomsE l g w)) := by
  refine acall_of tok mixed 89 rfl (fn := Tryz.f85) (c := Tryz.f85.body.getD .skip) (by kernel_rfl) (by kernel_rfl) (by kernel_rfl) rfl 0 rfl ?_
  repeat' (first | refine o1 ?_ | refine o2 ?_ | refine k1 ?_ | refine k2 ?_ | refine k3 ?_ | refine k4 ?_ | refine k6 ?_ | refine k7 ?_ | refine And.intro ?_ ?_ | (intro h; first | exact Bool.noConfusion h | exact nz _ h | exact nl h | (simp at h; done) | (simp at h; first | (exfalso; omega) | skip) | skip) | (change retOk _ _ _ _; refine ret_pure rfl trivial ?_) | refine eqv_len_map ?_ | (change vcFun _ _ _ _ _; refine call_eq rfl (by repeat' (first | trivial | refine And.intro ?_ ?_ | (show 0 + _ ≤ List.length _; simp))) ALeL.refl (c_rweek g w) rfl ?_) | fail)
  · exact congrArg (vint .i64) (by simp [roomsE, *])
  · exact congrArg (vint .i64) (by simp [roomsE, *]; omega)
  · have hw : weekP g w := by assumption
    have hn : l.length ≤ 16 := by omega
    refine loop_at (fun i : Nat => [(7, vint .i64 i)]) (fun x => []) (fun i => i ≤ l.length ∧ ∀ j, j < i → roomE l g w j = 0) (fun i => l.length - i) 0
      ⟨by omega, fun j hj => by omega⟩ (by repeat' (first | exact trivial | exact ⟨_, rfl, ALe.refl⟩ | refine And.intro ?_ ?_)) (by repeat' (first | exact trivial | exact rfl | refine And.intro ?_ ?_)) ?_
    intro i ⟨hi, hall⟩
    rcases Nat.lt_or_ge i l.length with hlt | hge
    · obtain ⟨r, hr⟩ := getE hlt
      repeat' (first | refine o1 ?_ | refine o2 ?_ | refine k1 ?_ | refine k2 ?_ | refine k3 ?_ | refine k4 ?_ | refine k6 ?_ | refine k7 ?_ | refine And.intro ?_ ?_ | (intro h; first | exact Bool.noConfusion h | exact nz _ h | exact nl h | (simp at h; done) | (simp at h; first | (exfalso; omega) | skip) | skip) | (change retOk _ _ _ _; refine ret_pure rfl trivial ?_) | exact (by kernel_rfl : drawOk _ _ = true) | refine eqv_len_map ?_ | refine ⟨_, _, (by first | rfl | assumption), at_map (by assumption), ?_⟩ | (change vcFun _ _ _ _ _; refine call_eq rfl (by repeat' (first | trivial | refine And.intro ?_ ?_ | (show 0 + _ ≤ List.length _; simp))) ALeL.refl (c_rcode r.code) rfl ?_) | (change vcFun _ _ _ _ _; refine call_eq rfl (by repeat' (first | trivial | refine And.intro ?_ ?_ | (show 0 + _ ≤ List.length _; simp))) ALeL.refl (c_rcode r.bld) rfl ?_) | (change vcFun _ _ _ _ _; refine call_eq rfl (by repeat' (first | trivial | refine And.intro ?_ ?_ | (show 0 + _ ≤ List.length _; simp))) ALeL.refl (c_rcodes r.feats (by omega)) rfl ?_) | fail)
      all_goals first
        | exact room_fin hw hn hall hlt (by decide) (rE1 hr (by first | exact .inl (by assumption) | exact .inr (by assumption)))
        | exact room_fin hw hn hall hlt (by decide) (rE2 hr (by assumption) (by assumption) (by omega))
        | exact room_fin hw hn hall hlt (by decide) (rE3 hr (by assumption) (by assumption) (by omega) (by omega))
        | exact room_fin hw hn hall hlt (by decide) (rE4 hr (by assumption) (by assumption) (by omega) (by omega) (by assumption))
        | skip
      refine loop_at (fun k : Nat => [(9, vint .i64 k)]) (fun _ => []) (fun k => k ≤ r.closed.length ∧ ∀ j, j < k → ∀ t, r.closed[j]? = some t → fitE g w t = 0) (fun k => r.closed.length - k) 0 ⟨by omega, fun j hj => by omega⟩ (by repeat' (first | exact trivial | exact ⟨_, rfl, ALe.refl⟩ | refine And.intro ?_ ?_)) (by repeat' (first | exact trivial | exact rfl | refine And.intro ?_ ?_)) ?_
      intro k ⟨hk, hfit⟩
      rcases Nat.lt_or_ge k r.closed.length with hlk | hgk
      · obtain ⟨t, ht⟩ := getE hlk
        repeat' (first | refine o1 ?_ | refine o2 ?_ | refine k1 ?_ | refine k2 ?_ | refine k3 ?_ | refine k4 ?_ | refine k6 ?_ | refine k7 ?_ | refine And.intro ?_ ?_ | refine o3 ?_ | refine o4 ?_ | (intro h; first | exact Bool.noConfusion h | exact nz _ h | exact nl h | (simp at h; done) | (simp at h; first | (exfalso; omega) | skip) | skip) | (change retOk _ _ _ _; refine ret_pure rfl trivial ?_) | exact (by kernel_rfl : drawOk _ _ = true) | refine eqv_len_map ?_ | refine eqv_wrap (by omega) (by omega) ?_ | refine ⟨_, _, (by first | rfl | assumption), at_map (by assumption), ?_⟩ | (change vcFunD _ _ _ _ _; refine callD_eq rfl (by repeat' (first | trivial | refine And.intro ?_ ?_ | (show 0 + _ ≤ List.length _; simp))) ALeL.refl (c_rfits g w t) rfl ?_) | fail)
        all_goals first
          | exact room_fin hw hn hall hlt (by decide) (rE5 hr (by assumption) (by assumption) (by omega) (by omega) (by assumption) (fun h => absurd (h t (List.mem_of_getElem? ht)) (by assumption)))
          | exact ⟨k + 1, ⟨by omega, all_lt_succ hfit fun t' h' => by rw [ht] at h'; cases h'; assumption⟩, by omega, back [0, 1] rfl rfl ⟨rfl, rfl, trivial⟩ (by repeat' (first | exact trivial | exact rfl | refine And.intro ?_ ?_))⟩
      · have hfits : ∀ t ∈ r.closed, fitE g w t = 0 := fun t ht => by
          obtain ⟨j, hj, rfl⟩ := List.getElem_of_mem ht
          exact hfit j (by omega) _ (List.getElem?_eq_getElem hj)
        repeat' (first | refine o1 ?_ | refine o2 ?_ | refine k1 ?_ | refine k2 ?_ | refine k3 ?_ | refine k4 ?_ | refine k8 ?_ | refine And.intro ?_ ?_ | (intro h; first | exact Bool.noConfusion h | exact nz _ h | exact nl h | (simp at h; done) | (simp at h; first | (exfalso; omega) | skip) | skip) | refine eqv_len_map ?_ | fail)
        refine loop_at (fun k : Nat => [(10, vint .i64 k)]) (fun _ => []) (fun k => k ≤ i ∧ ∀ j, j < k → ∀ q, l[j]? = some q → q.code ≠ r.code) (fun k => i - k) 0 ⟨by omega, fun j hj => by omega⟩ (by repeat' (first | exact trivial | exact ⟨_, rfl, ALe.refl⟩ | refine And.intro ?_ ?_)) (by repeat' (first | exact trivial | exact rfl | refine And.intro ?_ ?_)) ?_
        intro kk ⟨hkk, hdup⟩
        rcases Nat.lt_or_ge kk i with hlk2 | hgk2
        · obtain ⟨q, hq⟩ := getE (show kk < l.length by omega)
          repeat' (first | refine o1 ?_ | refine o2 ?_ | refine k1 ?_ | refine k2 ?_ | refine k3 ?_ | refine k4 ?_ | refine k6 ?_ | refine k7 ?_ | refine And.intro ?_ ?_ | refine o3 ?_ | refine o4 ?_ | (intro h; first | exact Bool.noConfusion h | exact nz _ h | exact nl h | (simp at h; done) | (simp at h; first | (exfalso; omega) | skip) | skip) | (change retOk _ _ _ _; refine ret_pure rfl trivial ?_) | exact (by kernel_rfl : drawOk _ _ = true) | refine eqv_wrap (by omega) (by omega) ?_ | refine ⟨_, _, (by first | rfl | assumption), at_map (by assumption), ?_⟩ | fail)
          all_goals first
            | exact room_fin hw hn hall hlt (by decide) (rE6 hr (by assumption) (by assumption) (by omega) (by omega) (by assumption) hfits ⟨kk, hlk2, q, hq, sEq_iff.1 (by assumption)⟩)
            | exact ⟨kk + 1, ⟨by omega, all_lt_succ hdup fun q' h' => by rw [hq] at h'; cases h'; exact sEq_f.1 (by assumption)⟩, by omega, back [0, 1] rfl rfl ⟨rfl, rfl, trivial⟩ (by repeat' (first | exact trivial | exact rfl | refine And.intro ?_ ?_))⟩
        · repeat' (first | refine o1 ?_ | refine o2 ?_ | refine k1 ?_ | refine k2 ?_ | refine k3 ?_ | refine k8 ?_ | refine And.intro ?_ ?_ | (intro h; first | exact Bool.noConfusion h | exact nz _ h | exact nl h | (simp at h; done) | (simp at h; first | (exfalso; omega) | skip) | skip) | refine eqv_wrap (by omega) (by omega) ?_ | fail)
          exact ⟨i + 1, ⟨by omega, all_lt_succ hall (rE7 hr (by assumption) (by assumption) (by omega) (by omega) (by assumption) hfits (fun ⟨j, hj, q, hq, hc⟩ => hdup j (by omega) q hq hc))⟩, by omega, back [0] rfl rfl ⟨rfl, trivial⟩ (by repeat' (first | exact trivial | exact rfl | refine And.intro ?_ ?_))⟩
    · repeat' (first | refine o1 ?_ | refine o2 ?_ | refine k1 ?_ | refine k2 ?_ | refine k3 ?_ | refine k7 ?_ | refine k8 ?_ | refine And.intro ?_ ?_ | (intro h; first | exact Bool.noConfusion h | exact nz _ h | exact nl h | (simp at h; done) | (simp at h; first | (exfalso; omega) | skip) | skip) | (change retOk _ _ _ _; refine ret_pure rfl trivial ?_) | refine eqv_len_map ?_ | fail)
      exact congrArg (vint .i64) (by rw [roomsE, pB_t hw, if_pos rfl, if_neg (by omega), firstE_zero fun j hj => hall j (by omega)])
end Go.Proofs.YtkbaecjnhmbeeaaGreat.Cw
/-
  Contracts: members of staff.
-/
namespace Go.Proofs.YtkbaecjnhmbeeaaGreat.Cw
open Go.Cw Go.Proofs
set_option linter.unusedVariables false
set_option maxRecDepth 100000
theorem idxB_take {α : Type} {p : α → Bool} {l : List α} {i : Nat} {x : α} (hx : l[i]? = some x) (hp : p x = true) : decide (idxB p l < i) = (l.take i).any p := by
  unfold idxB
  split
  · rename_i k hk
    obtain ⟨h1, h2, h3⟩ := List.findIdx?_eq_some_iff_getElem.1 hk
    rcases Nat.lt_or_ge k i with g | g
    · rw [List.any_eq_true.2 ⟨l[k], List.mem_take_iff_getElem.2 ⟨k, by omega, rfl⟩, h2⟩]
      simp; omega
    · have : (l.take i).any p = false := List.any_eq_false.2 fun y hy => by
        obtain ⟨j, hj, rfl⟩ := List.mem_take_iff_getElem.1 hy
        have := h3 j (by omega)
        simpa using this
      rw [this]; simp; omega
  · rename_i hk
    rw [List.findIdx?_eq_none_iff] at hk
    have := hk x (List.mem_of_getElem? hx)
    rw [hp] at this; cases this
theorem idxB_lt {α : Type} {p : α → Bool} {l : List α} {i : Nat} {x : α} (hx : l[i]? = some x) (hp : p x = true) (h : idxB p l < i) : (l.take i).any p = true := by rw [← idxB_take hx hp]; simpa using h
theorem idxB_ge {α : Type} {p : α → Bool} {l : List α} {i : Nat} {x : α} (hx : l[i]? = some x) (hp : p x = true) (h : (i : Int) ≤ idxB p l) : (l.take i).any p = false := by rw [← idxB_take hx hp]; simpa using h
theorem slice_to {α : Type} {i : Nat} {f : α → List PV} {xs : List α} {K : List (List PV) → Prop} (hi : i ≤ xs.length) (hk : K ((xs.take i).map f)) :
    ∃ l h, loIs none l ∧ hiIs (some (vint .i64 (i : Int))) (xs.map f).length h ∧ l ≤ h ∧ h ≤ (xs.map f).length ∧ eqv (List.drop l (List.take h (xs.map f))) K :=
  ⟨0, i, rfl, rfl, Nat.zero_le _, by simpa using hi, _, by simp [List.map_take], hk⟩
theorem vb {b c : Bool} (h : c = b) : AV.pv (.val (.bool b)) = vbool c := by rw [h]; rfl
/-! Times that no time of a list overlaps. -/
def apartB (l : List Time) (t : Time) : Prop := ∀ x ∈ l, ¬ ovP x t
/-! Members of staff. -/
noncomputable def lcode (l : List Lecturer) (c : Str) : Bool := l.any fun y => pB (y.code = c)
open Classical in
noncomputable def lectE (l : List Lecturer) (g : Grid) (w : Int) (i : Nat) : Int := match l[i]? with
  | none => 0
  | some x => if ¬ codeP x.code then 10 else if 24 < x.away.length then 2 else if ¬ (∀ t ∈ x.away, fitE g w t = 0) then 14 else if lcode (l.take i) x.code then 11 else 0
open Classical in
noncomputable def staffE (l : List Lecturer) (g : Grid) (w : Int) : Int := if ¬ weekP g w then 1 else if 32 < l.length then 2 else firstE (lectE l g w) l.length
section
variable {l : List Lecturer} {g : Grid} {w : Int} {i : Nat} {x : Lecturer} (hx : l[i]? = some x)
include hx
theorem lE1 (h : ¬ codeP x.code) : lectE l g w i = 10 := by unfold lectE; rw [hx]; simp [h]
theorem lE2 (h1 : codeP x.code) (h : 24 < x.away.length) : lectE l g w i = 2 := by unfold lectE; rw [hx]; simp [h1, h]
theorem lE3 (h1 : codeP x.code) (h2 : x.away.length ≤ 24) (h : ¬ ∀ t ∈ x.away, fitE g w t = 0) : lectE l g w i = 14 := by unfold lectE; rw [hx]; dsimp only; rw [if_neg (by simp [h1]), if_neg (by omega), if_pos h]
theorem lE4 (h1 : codeP x.code) (h2 : x.away.length ≤ 24) (h3 : ∀ t ∈ x.away, fitE g w t = 0) (h : lcode (l.take i) x.code = true) : lectE l g w i = 11 := by unfold lectE; rw [hx]; dsimp only; rw [if_neg (by simp [h1]), if_neg (by omega), if_neg (by simpa using h3), if_pos h]
theorem lE5 (h1 : codeP x.code) (h2 : x.away.length ≤ 24) (h3 : ∀ t ∈ x.away, fitE g w t = 0) (h : lcode (l.take i) x.code = false) : lectE l g w i = 0 := by unfold lectE; rw [hx]; dsimp only; rw [if_neg (by simp [h1]), if_neg (by omega), if_neg (by simpa using h3), if_neg (by simp [h])]
end
theorem c_lhas1 (x : Lecturer) (c : Str) : PCall Tryz.prog 226 [ag x.row, .pv (.ia [es c])] (fun r => r = vbool (pB (x.code = c))) := by
  refine acall_of tok mixed 8 rfl (fn := Tryz.f226) (c := Tryz.f226.body.getD .skip) (by kernel_rfl) (by kernel_rfl) (by kernel_rfl) rfl 0 rfl ?_
  repeat' (first | refine o1 ?_ | refine o2 ?_ | refine k1 ?_ | refine k2 ?_ | refine k7 ?_ | (change retOk _ _ _ _; refine ret_pure rfl trivial ?_) | fail)
  exact congrArg vbool (pB_eq sEq_iff)
theorem c_lhas (l : List Lecturer) (c : Str) (hl : l.length ≤ 100000) : PCall Tryz.prog 129 [.pv (.sl 2 (l.map Lecturer.row)), .pv (es c)] (fun r => r = vbool (lcode l c)) := by
  refine acall_of tok mixed 8 rfl (fn := Tryz.f129) (c := Tryz.f129.body.getD .skip) (by kernel_rfl) (by kernel_rfl) (by kernel_rfl) rfl 0 rfl ?_
  repeat' (first | refine o1 ?_ | refine o2 ?_ | refine k1 ?_ | refine k2 ?_ | refine k7 ?_ | (change retOk _ _ _ _; refine ret_pure rfl trivial ?_) | (change vcFun _ _ _ _ _; refine call_eq rfl (by repeat' (first | trivial | refine And.intro ?_ ?_ | (show 0 + _ ≤ List.length _; simp))) ALeL.refl (c_any_lect l 226 [.ia [es c]] (fun x => pB (x.code = c)) hl (fun x _ => c_lhas1 x c)) rfl ?_) | fail)
  rfl
theorem c_staff (l : List Lecturer) (g : Grid) (w : Int) : PCall Tryz.prog 54 [.pv (.sl 2 (l.map Lecturer.row)), ag g.row, vint .i64 w] (fun r => r = vint .i64 (staffE l g w)) := by
  refine acall_of tok mixed 50 rfl (fn := Tryz.f54) (c := Tryz.f54.body.getD .skip) (by kernel_rfl) (by kernel_rfl) (by kernel_rfl) rfl 0 rfl ?_
  repeat' (first | refine o1 ?_ | refine o2 ?_ | refine k1 ?_ | refine k2 ?_ | refine k3 ?_ | refine k4 ?_ | refine k6 ?_ | refine k7 ?_ | refine And.intro ?_ ?_ | (intro h; first | exact Bool.noConfusion h | exact nz _ h | exact nl h | (simp at h; done) | (simp at h; first | (exfalso; omega) | skip) | skip) | (change retOk _ _ _ _; refine ret_pure rfl trivial ?_) | refine eqv_len_map ?_ | (change vcFun _ _ _ _ _; refine call_eq rfl (by repeat' (first | trivial | refine And.intro ?_ ?_ | (show 0 + _ ≤ List.length _; simp))) ALeL.refl (c_week g w) rfl ?_) | fail)
  · exact vi (by unfold staffE; rw [if_pos (by assumption)])
  · exact vi (by unfold staffE; rw [if_neg (by simp [*]), if_pos (by omega)])
  have hw : weekP g w := by assumption
  have hn : l.length ≤ 32 := by omega
  have hfin : staffE l g w = firstE (lectE l g w) l.length := by unfold staffE; rw [if_neg (by simp [hw]), if_neg (by omega)]
  refine loop_at (fun i : Nat => [(20, vint .i64 i)]) (fun _ => []) (fun i => i ≤ l.length ∧ ∀ j, j < i → lectE l g w j = 0) (fun i => l.length - i) 0 ⟨by omega, fun j hj => by omega⟩ (by repeat' (first | exact trivial | exact ⟨_, rfl, ALe.refl⟩ | refine And.intro ?_ ?_)) (by repeat' (first | exact trivial | exact rfl | refine And.intro ?_ ?_)) ?_
  intro i ⟨hi, hall⟩
  rcases Nat.lt_or_ge i l.length with hlt | hge
  · obtain ⟨x, hx⟩ := getE hlt
    repeat' (first | (refine slice_to hi ?_) | refine o1 ?_ | refine o2 ?_ | refine k1 ?_ | refine k2 ?_ | refine k3 ?_ | refine k4 ?_ | refine k6 ?_ | refine k7 ?_ | refine And.intro ?_ ?_ | refine o3 ?_ | refine o4 ?_ | (intro h; first | exact Bool.noConfusion h | exact nz _ h | exact nl h | (simp at h; done) | (simp at h; first | (exfalso; omega) | skip) | skip) | (change retOk _ _ _ _; refine ret_pure rfl trivial ?_) | exact (by kernel_rfl : drawOk _ _ = true) | refine eqv_len_map ?_ | refine eqv_wrap (by omega) (by omega) ?_ | refine ⟨_, _, (by first | rfl | assumption), at_map (by assumption), ?_⟩ | (change vcFun _ _ _ _ _; refine call_eq rfl (by repeat' (first | trivial | refine And.intro ?_ ?_ | (show 0 + _ ≤ List.length _; simp))) ALeL.refl (c_code x.code) rfl ?_) | (change vcFun _ _ _ _ _; refine call_eq rfl (by repeat' (first | trivial | refine And.intro ?_ ?_ | (show 0 + _ ≤ List.length _; simp))) ALeL.refl (c_fit x.away g w (by omega)) rfl ?_) | (change vcFunD _ _ _ _ _; refine callD_eq rfl (by repeat' (first | trivial | refine And.intro ?_ ?_ | (show 0 + _ ≤ List.length _; simp))) ALeL.refl (c_lhas (l.take i) x.code (by rw [List.length_take]; omega)) rfl ?_) | fail)
    all_goals first
      | exact first_fin hall hlt (by decide) hfin (lE1 hx (by assumption))
      | exact first_fin hall hlt (by decide) hfin (lE2 hx (by assumption) (by omega))
      | exact first_fin hall hlt (by decide) hfin (lE3 hx (by assumption) (by omega) (by first | assumption | simpa using ‹_›))
      | exact first_fin hall hlt (by decide) hfin (lE4 hx (by assumption) (by omega) (by assumption) (by assumption))
      | exact ⟨i + 1, ⟨by omega, all_lt_succ hall (lE5 hx (by assumption) (by omega) (by assumption) (by assumption))⟩, by omega, back [0] rfl rfl ⟨rfl, trivial⟩ (by repeat' (first | exact trivial | exact rfl | refine And.intro ?_ ?_))⟩
  · repeat' (first | refine o1 ?_ | refine o2 ?_ | refine k1 ?_ | refine k2 ?_ | refine k3 ?_ | refine k7 ?_ | refine k8 ?_ | refine And.intro ?_ ?_ | (intro h; first | exact Bool.noConfusion h | exact nz _ h | exact nl h | (simp at h; done) | (simp at h; first | (exfalso; omega) | skip) | skip) | (change retOk _ _ _ _; refine ret_pure rfl trivial ?_) | fail)
    exact vi (by rw [hfin, firstE_zero fun j hj => hall j (by omega)])
theorem c_rlidx (l : List Lecturer) (c : Str) (hl : l.length ≤ 100000) : PCall Tryz.prog 182 [.pv (.sl 2 (l.map Lecturer.row)), .pv (es c)] (fun r => r = vint .i64 (idxB (fun y : Lecturer => pB (y.code = c)) l)) := by
  refine acall_of tok mixed 20 rfl (fn := Tryz.f182) (c := Tryz.f182.body.getD .skip) (by kernel_rfl) (by kernel_rfl) (by kernel_rfl) rfl 0 rfl ?_
  repeat' (first | refine o1 ?_ | refine o2 ?_ | refine k1 ?_ | refine k2 ?_ | refine k4 ?_ | fail)
  refine loop_at (fun i : Nat => [(5, vint .i64 i)]) (fun _ => []) (fun i => i ≤ l.length ∧ ∀ j, j < i → ∀ q, l[j]? = some q → pB (q.code = c) = false) (fun i => l.length - i) 0 ⟨by omega, fun j hj => by omega⟩ (by repeat' (first | exact trivial | exact ⟨_, rfl, ALe.refl⟩ | refine And.intro ?_ ?_)) (by repeat' (first | exact trivial)) ?_
  intro i ⟨hi, hall⟩
  rcases Nat.lt_or_ge i l.length with hlt | hge
  · obtain ⟨q, hq⟩ := getE hlt
    repeat' (first | refine o1 ?_ | refine o2 ?_ | refine k1 ?_ | refine k2 ?_ | refine k3 ?_ | refine k4 ?_ | refine k6 ?_ | refine k7 ?_ | refine And.intro ?_ ?_ | (intro h; first | exact Bool.noConfusion h | exact nz _ h | exact nl h | (simp at h; done) | (simp at h; first | (exfalso; omega) | skip) | skip) | (change retOk _ _ _ _; refine ret_pure rfl trivial ?_) | refine eqv_len_map ?_ | refine eqv_wrap (by omega) (by omega) ?_ | refine ⟨_, _, (by first | rfl | assumption), at_map (by assumption), ?_⟩ | fail)
    all_goals first
      | exact congrArg (vint .i64) (idxB_at (p := fun y : Lecturer => pB (y.code = c)) hall hq (pB_t (sEq_iff.1 (by assumption)))).symm
      | exact ⟨i + 1, ⟨by omega, all_lt_succ hall fun q' h' => by rw [hq] at h'; cases h'; exact pB_f (sEq_f.1 (by assumption))⟩, by omega, back [] rfl rfl trivial (by repeat' (first | exact trivial | exact rfl | refine And.intro ?_ ?_))⟩
  · repeat' (first | refine o1 ?_ | refine o2 ?_ | refine k1 ?_ | refine k2 ?_ | refine k3 ?_ | refine k7 ?_ | refine k8 ?_ | refine And.intro ?_ ?_ | (intro h; first | exact Bool.noConfusion h | exact nz _ h | exact nl h | (simp at h; done) | (simp at h; first | (exfalso; omega) | skip) | skip) | (change retOk _ _ _ _; refine ret_pure rfl trivial ?_) | refine eqv_len_map ?_ | fail)
    exact congrArg (vint .i64) (idxB_none fun j hj => hall j (by omega)).symm
theorem c_rstaff (l : List Lecturer) (g : Grid) (w : Int) : PCall Tryz.prog 87 [.pv (.sl 2 (l.map Lecturer.row)), ag g.row, vint .i64 w] (fun r => r = vint .i64 (staffE l g w)) := by
  refine acall_of tok mixed 67 rfl (fn := Tryz.f87) (c := Tryz.f87.body.getD .skip) (by kernel_rfl) (by kernel_rfl) (by kernel_rfl) rfl 0 rfl ?_
  repeat' (first | refine o1 ?_ | refine o2 ?_ | refine k1 ?_ | refine k2 ?_ | refine k3 ?_ | refine k4 ?_ | refine k6 ?_ | refine k7 ?_ | refine And.intro ?_ ?_ | (intro h; first | exact Bool.noConfusion h | exact nz _ h | exact nl h | (simp at h; done) | (simp at h; first | (exfalso; omega) | skip) | skip) | (change retOk _ _ _ _; refine ret_pure rfl trivial ?_) | refine eqv_len_map ?_ | (change vcFun _ _ _ _ _; refine call_eq rfl (by repeat' (first | trivial | refine And.intro ?_ ?_ | (show 0 + _ ≤ List.length _; simp))) ALeL.refl (c_rweek g w) rfl ?_) | fail)
  · exact vi (by unfold staffE; rw [if_pos (by assumption)])
  · exact vi (by unfold staffE; rw [if_neg (by simp [*]), if_pos (by omega)])
  have hw : weekP g w := by assumption
  have hn : l.length ≤ 32 := by omega
  have hfin : staffE l g w = firstE (lectE l g w) l.length := by unfold staffE; rw [if_neg (by simp [hw]), if_neg (by omega)]
  refine loop_at (fun i : Nat => [(7, vint .i64 i)]) (fun _ => []) (fun i => i ≤ l.length ∧ ∀ j, j < i → lectE l g w j = 0) (fun i => l.length - i) 0 ⟨by omega, fun j hj => by omega⟩ (by repeat' (first | exact trivial | exact ⟨_, rfl, ALe.refl⟩ | refine And.intro ?_ ?_)) (by repeat' (first | exact trivial | exact rfl | refine And.intro ?_ ?_)) ?_
  intro i ⟨hi, hall⟩
  rcases Nat.lt_or_ge i l.length with hlt | hge
  · obtain ⟨x, hx⟩ := getE hlt
    repeat' (first | refine o1 ?_ | refine o2 ?_ | refine k1 ?_ | refine k2 ?_ | refine k3 ?_ | refine k4 ?_ | refine k6 ?_ | refine k7 ?_ | refine And.intro ?_ ?_ | (intro h; first | exact Bool.noConfusion h | exact nz _ h | exact nl h | (simp at h; done) | (simp at h; first | (exfalso; omega) | skip) | skip) | (change retOk _ _ _ _; refine ret_pure rfl trivial ?_) | refine eqv_len_map ?_ | refine ⟨_, _, (by first | rfl | assumption), at_map (by assumption), ?_⟩ | (change vcFun _ _ _ _ _; refine call_eq rfl (by repeat' (first | trivial | refine And.intro ?_ ?_ | (show 0 + _ ≤ List.length _; simp))) ALeL.refl (c_rcode x.code) rfl ?_) | fail)
    all_goals try first
      | exact first_fin hall hlt (by decide) hfin (lE1 hx (by assumption))
      | exact first_fin hall hlt (by decide) hfin (lE2 hx (by assumption) (by omega))
    have hc : codeP x.code := by assumption
    have ha : x.away.length ≤ 24 := by omega
    refine loop_at (fun k : Nat => [(8, vint .i64 k)]) (fun _ => []) (fun k => k ≤ x.away.length ∧ ∀ j, j < k → ∀ t, x.away[j]? = some t → fitE g w t = 0) (fun k => x.away.length - k) 0 ⟨by omega, fun j hj => by omega⟩ (by repeat' (first | exact trivial | exact ⟨_, rfl, ALe.refl⟩ | refine And.intro ?_ ?_)) (by repeat' (first | exact trivial | exact rfl | refine And.intro ?_ ?_)) ?_
    intro k ⟨hk, hfit⟩
    rcases Nat.lt_or_ge k x.away.length with hkl | hkg
    · obtain ⟨t, ht⟩ := getE hkl
      repeat' (first | refine o1 ?_ | refine o2 ?_ | refine k1 ?_ | refine k2 ?_ | refine k3 ?_ | refine k4 ?_ | refine k6 ?_ | refine k7 ?_ | refine And.intro ?_ ?_ | refine o3 ?_ | refine o4 ?_ | (intro h; first | exact Bool.noConfusion h | exact nz _ h | exact nl h | (simp at h; done) | (simp at h; first | (exfalso; omega) | skip) | skip) | (change retOk _ _ _ _; refine ret_pure rfl trivial ?_) | exact (by kernel_rfl : drawOk _ _ = true) | refine eqv_len_map ?_ | refine eqv_wrap (by omega) (by omega) ?_ | refine ⟨_, _, (by first | rfl | assumption), at_map (by assumption), ?_⟩ | (change vcFunD _ _ _ _ _; refine callD_eq rfl (by repeat' (first | trivial | refine And.intro ?_ ?_ | (show 0 + _ ≤ List.length _; simp))) ALeL.refl (c_rfits g w t) rfl ?_) | fail)
      all_goals first
        | exact first_fin hall hlt (by decide) hfin (lE3 hx hc ha (fun h => by have := h t (List.mem_of_getElem? ht); omega))
        | exact ⟨k + 1, ⟨by omega, all_lt_succ hfit fun t' h' => by rw [ht] at h'; cases h'; omega⟩, by omega, back [0] rfl rfl ⟨rfl, trivial⟩ (by repeat' (first | exact trivial | exact rfl | refine And.intro ?_ ?_))⟩
    · have h3 : ∀ t ∈ x.away, fitE g w t = 0 := fun t hm => by obtain ⟨j, hj⟩ := List.getElem?_of_mem hm; exact hfit j (by have := (List.getElem?_eq_some_iff.1 hj).1; omega) t hj
      repeat' (first | refine o1 ?_ | refine o2 ?_ | refine k1 ?_ | refine k2 ?_ | refine k3 ?_ | refine k6 ?_ | refine k7 ?_ | refine k8 ?_ | refine And.intro ?_ ?_ | (intro h; first | exact Bool.noConfusion h | exact nz _ h | exact nl h | (simp at h; done) | (simp at h; first | (exfalso; omega) | skip) | skip) | (change retOk _ _ _ _; refine ret_pure rfl trivial ?_) | refine eqv_len_map ?_ | refine eqv_wrap (by omega) (by omega) ?_ | refine ⟨_, _, (by first | rfl | assumption), at_map (by assumption), ?_⟩ | (change vcFun _ _ _ _ _; refine call_eq rfl (by repeat' (first | trivial | refine And.intro ?_ ?_ | (show 0 + _ ≤ List.length _; simp))) ALeL.refl (c_rlidx l x.code (by omega)) rfl ?_) | fail)
      all_goals first
        | exact first_fin hall hlt (by decide) hfin (lE4 hx hc ha h3 (idxB_lt (p := fun y : Lecturer => pB (y.code = x.code)) hx (pB_t rfl) (by assumption)))
        | exact ⟨i + 1, ⟨by omega, all_lt_succ hall (lE5 hx hc ha h3 (idxB_ge (p := fun y : Lecturer => pB (y.code = x.code)) hx (pB_t rfl) (by omega)))⟩, by omega, back [0] rfl rfl ⟨rfl, trivial⟩ (by repeat' (first | exact trivial | exact rfl | refine And.intro ?_ ?_))⟩
  · repeat' (first | refine o1 ?_ | refine o2 ?_ | refine k1 ?_ | refine k2 ?_ | refine k3 ?_ | refine k7 ?_ | refine k8 ?_ | refine And.intro ?_ ?_ | (intro h; first | exact Bool.noConfusion h | exact nz _ h | exact nl h | (simp at h; done) | (simp at h; first | (exfalso; omega) | skip) | skip) | (change retOk _ _ _ _; refine ret_pure rfl trivial ?_) | refine eqv_len_map ?_ | fail)
    exact vi (by rw [hfin, firstE_zero fun j hj => hall j (by omega)])
end Go.Proofs.YtkbaecjnhmbeeaaGreat.Cw
/-
  Contracts: comparisons of numbers; sittings.
-/
namespace Go.Proofs.YtkbaecjnhmbeeaaGreat.Cw
open Go.Cw Go.Proofs
set_option linter.unusedVariables false
set_option maxRecDepth 100000
def cmpI (a b : Int) : Int := if a < b then -1 else if a > b then 1 else 0
def orI : List Int → Int
  | [] => 0
  | x :: l => if x = 0 then orI l else x
theorem orI_at : ∀ {l : List Int} {i : Nat} {x : Int}, (∀ j, j < i → ∀ y, l[j]? = some y → y = 0) → l[i]? = some x → x ≠ 0 → orI l = x
  | [], i, x, _, h, _ => by simp at h
  | y :: l, 0, x, _, h, hx => by simp at h; subst h; simp [orI, hx]
  | y :: l, i + 1, x, h0, h, hx => by
    have := h0 0 (by omega) y rfl
    subst this
    simp only [orI, if_true]
    exact orI_at (i := i) (fun j hj z hz => h0 (j + 1) (by omega) z (by simpa using hz)) (by simpa using h) hx
theorem orI_zero : ∀ {l : List Int}, (∀ j, j < l.length → ∀ y, l[j]? = some y → y = 0) → orI l = 0
  | [], _ => rfl
  | y :: l, h0 => by
    have := h0 0 (by simp) y rfl
    subst this
    simp only [orI, if_true]
    exact orI_zero fun j hj z hz => h0 (j + 1) (by simpa using hj) z (by simpa using hz)
theorem c_isNaN (a : Int) : PCall Tryz.prog 218 [vint .i64 a] (fun r => r = vbool false) := by
  refine acall_of tok mixed 6 rfl (fn := Tryz.f218) (c := Tryz.f218.body.getD .skip) (by kernel_rfl) (by kernel_rfl) (by kernel_rfl) rfl 0 rfl ?_
  repeat' (first | refine o1 ?_ | refine o2 ?_ | refine k1 ?_ | refine k2 ?_ | refine k7 ?_ | (change retOk _ _ _ _; refine ret_pure rfl trivial ?_) | fail)
  exact congrArg vbool (by simp)
theorem c_cmp (a b : Int) : PCall Tryz.prog 115 [vint .i64 a, vint .i64 b] (fun r => r = vint .i64 (cmpI a b)) := by
  refine acall_of tok mixed 20 rfl (fn := Tryz.f115) (c := Tryz.f115.body.getD .skip) (by kernel_rfl) (by kernel_rfl) (by kernel_rfl) rfl 0 rfl ?_
  repeat' (first | refine o1 ?_ | refine o2 ?_ | refine k1 ?_ | refine k2 ?_ | refine k3 ?_ | refine k6 ?_ | refine k7 ?_ | refine And.intro ?_ ?_ | (intro h; first | exact Bool.noConfusion h | exact nz _ h | exact nl h | (simp at h; done) | (simp at h; first | (exfalso; omega) | skip) | skip) | (change retOk _ _ _ _; refine ret_pure rfl trivial ?_) | (change vcFun _ _ _ _ _; refine call_eq rfl (by repeat' (first | trivial | refine And.intro ?_ ?_ | (show 0 + _ ≤ List.length _; simp))) ALeL.refl (c_isNaN _) rfl ?_) | fail)
  all_goals exact congrArg (vint .i64) (by unfold cmpI; split <;> first | omega | (split <;> omega))
theorem c_or (l : List Int) (hl : l.length ≤ 1000) : PCall Tryz.prog 114 [.pv (encInts l)] (fun r => r = vint .i64 (orI l)) := by
  refine acall_of tok mixed 18 rfl (fn := Tryz.f114) (c := Tryz.f114.body.getD .skip) (by kernel_rfl) (by kernel_rfl) (by kernel_rfl) rfl 0 rfl ?_
  repeat' (first | refine o1 ?_ | refine o2 ?_ | refine k1 ?_ | refine k2 ?_ | refine k4 ?_ | refine eqv_len_map ?_ | fail)
  refine loop_at (fun i : Nat => [(8, vint .i64 i)]) (fun _ => []) (fun i => i ≤ l.length ∧ ∀ j, j < i → ∀ y, l[j]? = some y → y = 0) (fun i => l.length - i) 0 ⟨by omega, fun j hj => by omega⟩ (by repeat' (first | exact trivial | exact ⟨_, rfl, ALe.refl⟩ | refine And.intro ?_ ?_)) (by repeat' (first | exact trivial)) ?_
  intro i ⟨hi, hall⟩
  rcases Nat.lt_or_ge i l.length with hlt | hge
  · obtain ⟨x, hx⟩ := getE hlt
    repeat' (first | refine o1 ?_ | refine o2 ?_ | refine k1 ?_ | refine k2 ?_ | refine k3 ?_ | refine k4 ?_ | refine k6 ?_ | refine k7 ?_ | refine And.intro ?_ ?_ | (intro h; first | exact Bool.noConfusion h | exact nz _ h | exact nl h | (simp at h; done) | (simp at h; first | (exfalso; omega) | skip) | skip) | (change retOk _ _ _ _; refine ret_pure rfl trivial ?_) | refine eqv_wrap (by omega) (by omega) ?_ | refine ⟨_, _, (by first | rfl | assumption), at_map (by assumption), ?_⟩ | fail)
    all_goals first
      | exact ⟨i + 1, ⟨by omega, all_lt_succ hall fun y hy => by rw [hx] at hy; cases hy; assumption⟩, by omega, back [] rfl rfl trivial (by repeat' (first | exact trivial | exact rfl | refine And.intro ?_ ?_))⟩
      | exact congrArg (vint .i64) (orI_at hall hx (by assumption)).symm
  · repeat' (first | refine o1 ?_ | refine o2 ?_ | refine k1 ?_ | refine k2 ?_ | refine k3 ?_ | refine k7 ?_ | refine k8 ?_ | refine And.intro ?_ ?_ | (intro h; first | exact Bool.noConfusion h | exact nz _ h | exact nl h | (simp at h; done) | (simp at h; first | (exfalso; omega) | skip) | skip) | (change retOk _ _ _ _; refine ret_pure rfl trivial ?_) | fail)
    exact congrArg (vint .i64) (orI_zero fun j hj => hall j (by omega)).symm
end Go.Proofs.YtkbaecjnhmbeeaaGreat.Cw
/-
  Contracts: classes.
-/
namespace Go.Proofs.YtkbaecjnhmbeeaaGreat.Cw
open Go.Cw Go.Proofs
set_option linter.unusedVariables false
set_option maxRecDepth 100000
noncomputable def aheadN (l : List Int) (i : Nat) (p : Int) : Bool := pB (p ∈ l.take i)
noncomputable def aheadS (l : List Str) (i : Nat) (p : Str) : Bool := pB (p ∈ l.take i)
open Classical in
noncomputable def patE (l : List Int) (w : Int) (i : Nat) : Int := match l[i]? with
  | none => 0
  | some p => if ¬ setP p w then 1 else if aheadN l i p then 1 else 0
open Classical in
noncomputable def patsE (l : List Int) (w : Int) : Int := if l.length = 0 then 16 else if 8 < l.length then 2 else firstE (patE l w) l.length
section
variable {l : List Int} {w : Int} {i : Nat} {p : Int} (hp : l[i]? = some p)
include hp
theorem pE1 (h : ¬ setP p w) : patE l w i = 1 := by unfold patE; rw [hp]; dsimp only; rw [if_pos h]
theorem pE2 (h0 : setP p w) (h : aheadN l i p = true) : patE l w i = 1 := by unfold patE; rw [hp]; dsimp only; rw [if_neg (by simp [h0]), if_pos h]
theorem pE3 (h0 : setP p w) (h : aheadN l i p = false) : patE l w i = 0 := by unfold patE; rw [hp]; dsimp only; rw [if_neg (by simp [h0]), if_neg (by simp [h])]
end
def possP (s : Start) (n : Int) (g : Grid) : Prop := 0 ≤ s.day ∧ s.day < g.days ∧ 0 ≤ s.slot ∧ s.slot ≤ g.slots - n
def lexS (p s : Start) : Prop := p.day < s.day ∨ (p.day = s.day ∧ p.slot < s.slot)
theorem lexS_cmp {p s : Start} : orI [cmpI p.day s.day, cmpI p.slot s.slot] < 0 ↔ lexS p s := by
  simp only [orI, cmpI, lexS]
  grind
def startAt (l : List Start) (n : Int) (g : Grid) (i : Nat) : Prop := ∀ s, l[i]? = some s → possP s n g ∧ (0 < i → ∀ p, l[i - 1]? = some p → lexS p s)
def startsP (l : List Start) (n : Int) (g : Grid) : Prop := ∀ i, i < l.length → startAt l n g i
theorem startAt_t {l : List Start} {n : Int} {g : Grid} {i : Nat} {s p : Start} (hs : l[i]? = some s) (hp : 0 < i → l[i - 1]? = some p) (h1 : possP s n g) (h2 : 0 < i → lexS p s) : startAt l n g i := fun s' h => by
  rw [hs] at h; cases h
  exact ⟨h1, fun g0 p' hp' => by rw [hp g0] at hp'; cases hp'; exact h2 g0⟩
theorem startAt_f {l : List Start} {n : Int} {g : Grid} {i : Nat} {s : Start} (hi : i < l.length) (hs : l[i]? = some s) (h : ¬ possP s n g) : ¬ startsP l n g := fun hall => h (hall i hi s hs).1
theorem startAt_g {l : List Start} {n : Int} {g : Grid} {i : Nat} {s p : Start} (hi : i < l.length) (hs : l[i]? = some s) (h0 : 0 < i) (hp : l[i - 1]? = some p) (h : ¬ lexS p s) : ¬ startsP l n g := fun hall => h ((hall i hi s hs).2 h0 p hp)
theorem c_poss (s : Start) (n : Int) (g : Grid) (hn : 0 ≤ n ∧ n ≤ 1000) (hg : 0 ≤ g.slots ∧ g.slots ≤ 1000) : PCall Tryz.prog 260 [ag s.row, vint .i64 n, ag g.row] (fun r => r = vbool (pB (possP s n g))) := by
  refine acall_of tok mixed 31 rfl (fn := Tryz.f260) (c := Tryz.f260.body.getD .skip) (by kernel_rfl) (by kernel_rfl) (by kernel_rfl) rfl 0 rfl ?_
  repeat' (first | refine o1 ?_ | refine o2 ?_ | refine k1 ?_ | refine k2 ?_ | refine k7 ?_ | refine And.intro ?_ ?_ | (intro h; first | exact Bool.noConfusion h | exact nz _ h | exact nl h | (simp at h; done) | (simp at h; first | (exfalso; omega) | skip) | skip) | (change retOk _ _ _ _; refine ret_pure rfl trivial ?_) | refine eqv_wrap (by omega) (by omega) ?_ | fail)
  all_goals first
    | exact vb (pB_f fun h => by obtain ⟨h1, h2, h3, h4⟩ := h; omega)
    | exact vb (pB_t ⟨by omega, by omega, by omega, by omega⟩)
    | exact congrArg vbool (pB_eq (by unfold possP; simp; omega))
theorem c_rposs (s : Start) (n : Int) (g : Grid) (hn : 0 ≤ n ∧ n ≤ 1000) (hg : 0 ≤ g.slots ∧ g.slots ≤ 1000) : PCall Tryz.prog 248 [ag s.row, vint .i64 n, ag g.row] (fun r => r = vbool (pB (possP s n g))) := by
  refine acall_of tok mixed 31 rfl (fn := Tryz.f248) (c := Tryz.f248.body.getD .skip) (by kernel_rfl) (by kernel_rfl) (by kernel_rfl) rfl 0 rfl ?_
  repeat' (first | refine o1 ?_ | refine o2 ?_ | refine k1 ?_ | refine k2 ?_ | refine k7 ?_ | refine And.intro ?_ ?_ | (intro h; first | exact Bool.noConfusion h | exact nz _ h | exact nl h | (simp at h; done) | (simp at h; first | (exfalso; omega) | skip) | skip) | (change retOk _ _ _ _; refine ret_pure rfl trivial ?_) | refine eqv_wrap (by omega) (by omega) ?_ | fail)
  all_goals first
    | exact vb (pB_f fun h => by obtain ⟨h1, h2, h3, h4⟩ := h; omega)
    | exact vb (pB_t ⟨by omega, by omega, by omega, by omega⟩)
    | exact congrArg vbool (pB_eq (by unfold possP; simp; omega))
theorem c_sorder (p s : Start) : PCall Tryz.prog 261 [ag p.row, ag s.row] (fun r => r = vint .i64 (orI [cmpI p.day s.day, cmpI p.slot s.slot])) := by
  refine acall_of tok mixed 17 rfl (fn := Tryz.f261) (c := Tryz.f261.body.getD .skip) (by kernel_rfl) (by kernel_rfl) (by kernel_rfl) rfl 0 rfl ?_
  repeat' (first | refine o1 ?_ | refine o2 ?_ | refine k1 ?_ | refine k2 ?_ | refine k7 ?_ | refine And.intro ?_ ?_ | refine o3 ?_ | refine o4 ?_ | (change retOk _ _ _ _; refine ret_pure rfl trivial ?_) | exact (by kernel_rfl : drawOk _ _ = true) | (change vcFunD _ _ _ _ _; refine callD_eq rfl (by repeat' (first | trivial | refine And.intro ?_ ?_ | (show 0 + _ ≤ List.length _; simp))) ALeL.refl (c_cmp _ _) rfl ?_) | (change vcFunD _ _ _ _ _; refine callD_eq rfl (by repeat' (first | trivial | refine And.intro ?_ ?_ | (show 0 + _ ≤ List.length _; simp))) ALeL.refl (c_or [cmpI p.day s.day, cmpI p.slot s.slot] (Nat.le_of_ble_eq_true rfl)) rfl ?_) | fail)
  all_goals first
    | rfl
theorem c_rless (p s : Start) : PCall Tryz.prog 249 [ag p.row, ag s.row] (fun r => r = vbool (pB (lexS p s))) := by
  refine acall_of tok mixed 24 rfl (fn := Tryz.f249) (c := Tryz.f249.body.getD .skip) (by kernel_rfl) (by kernel_rfl) (by kernel_rfl) rfl 0 rfl ?_
  repeat' (first | refine o1 ?_ | refine o2 ?_ | refine k1 ?_ | refine k2 ?_ | refine k7 ?_ | refine And.intro ?_ ?_ | (intro h; first | exact Bool.noConfusion h | exact nz _ h | exact nl h | (simp at h; done) | (simp at h; first | (exfalso; omega) | skip) | skip) | (change retOk _ _ _ _; refine ret_pure rfl trivial ?_) | fail)
  all_goals first
    | exact vb (pB_t (by unfold lexS; omega))
    | exact vb (pB_f (by unfold lexS; omega))
    | exact congrArg vbool (pB_eq (by unfold lexS; simp; omega))
theorem c_pats (l : List Int) (w : Int) : PCall Tryz.prog 227 [.pv (encInts l), vint .i64 w] (fun r => r = vint .i64 (patsE l w)) := by
  refine acall_of tok mixed 34 rfl (fn := Tryz.f227) (c := Tryz.f227.body.getD .skip) (by kernel_rfl) (by kernel_rfl) (by kernel_rfl) rfl 0 rfl ?_
  repeat' (first | refine o1 ?_ | refine o2 ?_ | refine k1 ?_ | refine k2 ?_ | refine k3 ?_ | refine k4 ?_ | refine k6 ?_ | refine k7 ?_ | refine And.intro ?_ ?_ | (intro h; first | exact Bool.noConfusion h | exact nz _ h | exact nl h | (simp at h; done) | (simp at h; first | (exfalso; omega) | skip) | skip) | (change retOk _ _ _ _; refine ret_pure rfl trivial ?_) | refine eqv_len_map ?_ | fail)
  · exact vi (by unfold patsE; rw [if_pos (by simp_all)])
  · exact vi (by unfold patsE; rw [if_neg (by intro e; simp_all), if_pos (by omega)])
  have hn : l.length ≤ 8 := by omega
  have hfin : patsE l w = firstE (patE l w) l.length := by unfold patsE; rw [if_neg (by intro e; simp_all), if_neg (by omega)]
  refine loop_at (fun i : Nat => [(17, vint .i64 i)]) (fun _ => []) (fun i => i ≤ l.length ∧ ∀ j, j < i → patE l w j = 0) (fun i => l.length - i) 0 ⟨by omega, fun j hj => by omega⟩ (by repeat' (first | exact trivial | exact ⟨_, rfl, ALe.refl⟩ | refine And.intro ?_ ?_)) (by repeat' (first | exact trivial)) ?_
  intro i ⟨hi, hall⟩
  rcases Nat.lt_or_ge i l.length with hlt | hge
  · obtain ⟨p, hp⟩ := getE hlt
    have hcc : PCall Tryz.prog 259 [.pv (encInts (l.take i)), vint .i64 p] (fun r => r = vbool (aheadN l i p)) := c_containsN (l.take i) p (by rw [List.length_take]; omega)
    repeat' (first | (refine slice_to hi ?_) | refine o1 ?_ | refine o2 ?_ | refine k1 ?_ | refine k2 ?_ | refine k3 ?_ | refine k4 ?_ | refine k6 ?_ | refine k7 ?_ | refine And.intro ?_ ?_ | (intro h; first | exact Bool.noConfusion h | exact nz _ h | exact nl h | (simp at h; done) | (simp at h; first | (exfalso; omega) | skip) | skip) | (change retOk _ _ _ _; refine ret_pure rfl trivial ?_) | refine eqv_wrap (by omega) (by omega) ?_ | refine ⟨_, _, (by first | rfl | assumption), at_map (by assumption), ?_⟩ | (change vcFun _ _ _ _ _; refine call_eq rfl (by repeat' (first | trivial | refine And.intro ?_ ?_ | (show 0 + _ ≤ List.length _; simp))) ALeL.refl (c_set p w) rfl ?_) | (change vcFun _ _ _ _ _; refine call_eq rfl (by repeat' (first | trivial | refine And.intro ?_ ?_ | (show 0 + _ ≤ List.length _; simp))) ALeL.refl (hcc) rfl ?_) | fail)
    all_goals first
      | exact first_fin hall hlt (by decide) hfin (pE1 hp (by assumption))
      | exact first_fin hall hlt (by decide) hfin (pE2 hp (by assumption) (by assumption))
      | exact ⟨i + 1, ⟨by omega, all_lt_succ hall (pE3 hp (by assumption) (by assumption))⟩, by omega, back [] rfl rfl trivial (by repeat' (first | exact trivial | exact rfl | refine And.intro ?_ ?_))⟩
  · repeat' (first | refine o1 ?_ | refine o2 ?_ | refine k1 ?_ | refine k2 ?_ | refine k3 ?_ | refine k7 ?_ | refine k8 ?_ | refine And.intro ?_ ?_ | (intro h; first | exact Bool.noConfusion h | exact nz _ h | exact nl h | (simp at h; done) | (simp at h; first | (exfalso; omega) | skip) | skip) | (change retOk _ _ _ _; refine ret_pure rfl trivial ?_) | fail)
    exact vi (by rw [hfin, firstE_zero fun j hj => hall j (by omega)])
theorem c_starts (c : Class) (g : Grid) (hn : 0 ≤ c.len ∧ c.len ≤ 1000) (hg : 0 ≤ g.slots ∧ g.slots ≤ 1000) (hl : c.starts.length ≤ 1000) : PCall Tryz.prog 228 [ag c.row, ag g.row] (fun r => r = vbool (pB (startsP c.starts c.len g))) := by
  refine acall_of tok mixed 37 rfl (fn := Tryz.f228) (c := Tryz.f228.body.getD .skip) (by kernel_rfl) (by kernel_rfl) (by kernel_rfl) rfl 0 rfl ?_
  repeat' (first | refine o1 ?_ | refine o2 ?_ | refine k1 ?_ | refine k2 ?_ | refine k4 ?_ | refine eqv_len_map ?_ | fail)
  refine loop_at (fun i : Nat => [(10, vint .i64 i)]) (fun _ => []) (fun i => i ≤ c.starts.length ∧ ∀ j, j < i → startAt c.starts c.len g j) (fun i => c.starts.length - i) 0 ⟨by omega, fun j hj => by omega⟩ (by repeat' (first | exact trivial | exact ⟨_, rfl, ALe.refl⟩ | refine And.intro ?_ ?_)) (by repeat' (first | exact trivial | exact rfl | refine And.intro ?_ ?_)) ?_
  intro i ⟨hi, hall⟩
  rcases Nat.lt_or_ge i c.starts.length with hlt | hge
  · obtain ⟨s, hs⟩ := getE hlt
    obtain ⟨p, hp⟩ := prevE hlt
    have hlx := @lexS_cmp p s
    repeat' (first | refine o1 ?_ | refine o2 ?_ | refine k1 ?_ | refine k2 ?_ | refine k3 ?_ | refine k4 ?_ | refine k6 ?_ | refine k7 ?_ | refine And.intro ?_ ?_ | refine o3 ?_ | refine o4 ?_ | (intro h; first | exact Bool.noConfusion h | exact nz _ h | exact nl h | (simp at h; done) | (simp at h; first | (exfalso; omega) | skip) | skip) | (change retOk _ _ _ _; refine ret_pure rfl trivial ?_) | exact (by kernel_rfl : drawOk _ _ = true) | refine eqv_wrap (by omega) (by omega) ?_ | refine ⟨_, _, (by first | rfl | assumption), at_map (by assumption), ?_⟩ | (change vcFunD _ _ _ _ _; refine callD_eq rfl (by repeat' (first | trivial | refine And.intro ?_ ?_ | (show 0 + _ ≤ List.length _; simp))) ALeL.refl (c_poss s c.len g hn hg) rfl ?_) | (change vcFunD _ _ _ _ _; refine callD_eq rfl (by repeat' (first | trivial | refine And.intro ?_ ?_ | (show 0 + _ ≤ List.length _; simp))) ALeL.refl (c_sorder p s) rfl ?_) | (refine idx_sl (k := i - 1) (at_map (hp (by omega))) (by omega) ?_) | fail)
    all_goals first
      | exact vb (pB_f (startAt_f hlt hs (by assumption)))
      | exact vb (pB_f (startAt_g hlt hs (by omega) (hp (by omega)) (fun h => by have := hlx.2 h; omega)))
      | exact ⟨i + 1, ⟨by omega, all_lt_succ hall (startAt_t hs hp (by assumption) (fun _ => hlx.1 (by omega)))⟩, by omega, back [0, 1] rfl rfl ⟨rfl, rfl, trivial⟩ (by repeat' (first | exact trivial | exact rfl | refine And.intro ?_ ?_))⟩
      | exact ⟨i + 1, ⟨by omega, all_lt_succ hall (startAt_t hs hp (by assumption) (fun _ => by omega))⟩, by omega, back [0, 1] rfl rfl ⟨rfl, rfl, trivial⟩ (by skip)⟩
  · repeat' (first | refine o1 ?_ | refine o2 ?_ | refine k1 ?_ | refine k2 ?_ | refine k3 ?_ | refine k7 ?_ | refine k8 ?_ | refine And.intro ?_ ?_ | (intro h; first | exact Bool.noConfusion h | exact nz _ h | exact nl h | (simp at h; done) | (simp at h; first | (exfalso; omega) | skip) | skip) | (change retOk _ _ _ _; refine ret_pure rfl trivial ?_) | fail)
    exact vb (pB_t fun j hj => hall j (by omega))
end Go.Proofs.YtkbaecjnhmbeeaaGreat.Cw
/-
  Contracts: curricula.
-/
namespace Go.Proofs.YtkbaecjnhmbeeaaGreat.Cw
open Go.Cw Go.Proofs
set_option linter.unusedVariables false
set_option maxRecDepth 100000
set_option maxHeartbeats 1000000
open Classical in
noncomputable def crsE (l : List Str) (i : Nat) : Int := match l[i]? with
  | none => 0
  | some s => if ¬ codeP s then 10 else if aheadS l i s then 11 else 0
section
variable {l : List Str} {i : Nat} {s : Str} (hs : l[i]? = some s)
include hs
theorem uE1 (h : ¬ codeP s) : crsE l i = 10 := by unfold crsE; rw [hs]; dsimp only; rw [if_pos h]
theorem uE2 (h0 : codeP s) (h : aheadS l i s = true) : crsE l i = 11 := by unfold crsE; rw [hs]; dsimp only; rw [if_neg (by simp [h0]), if_pos h]
theorem uE3 (h0 : codeP s) (h : aheadS l i s = false) : crsE l i = 0 := by unfold crsE; rw [hs]; dsimp only; rw [if_neg (by simp [h0]), if_neg (by simp [h])]
end
noncomputable def ucode (l : List Curri) (c : Str) : Bool := l.any fun y => pB (y.code = c)
open Classical in
noncomputable def curE (l : List Curri) (i : Nat) : Int := match l[i]? with
  | none => 0
  | some c => if ¬ codeP c.code then 10 else if c.courses = [] then 16 else if 8 < c.courses.length then 2 else if firstE (crsE c.courses) c.courses.length ≠ 0 then firstE (crsE c.courses) c.courses.length else
    if ucode (l.take i) c.code then 11 else 0
open Classical in
noncomputable def currisE (l : List Curri) : Int := if 16 < l.length then 2 else firstE (curE l) l.length
section
variable {l : List Curri} {i : Nat} {c : Curri} (hc : l[i]? = some c)
include hc
theorem vE1' (h : ¬ codeP c.code) : curE l i = 10 := by unfold curE; rw [hc]; dsimp only; rw [if_pos h]
variable (h1 : codeP c.code)
include h1
theorem vE2' (h : c.courses = []) : curE l i = 16 := by unfold curE; rw [hc]; dsimp only; rw [if_neg (by simp [h1]), if_pos h]
variable (h2 : ¬ c.courses = [])
include h2
theorem vE3' (h : 8 < c.courses.length) : curE l i = 2 := by unfold curE; rw [hc]; dsimp only; rw [if_neg (by simp [h1]), if_neg h2, if_pos h]
variable (h3 : c.courses.length ≤ 8)
include h3
theorem vE4' {k : Int} (hk : k ≠ 0) (h : firstE (crsE c.courses) c.courses.length = k) : curE l i = k := by unfold curE; rw [hc]; dsimp only; rw [if_neg (by simp [h1]), if_neg h2, if_neg (by omega), h, if_pos hk]
variable (h4 : firstE (crsE c.courses) c.courses.length = 0)
include h4
theorem vE5' (h : ucode (l.take i) c.code = true) : curE l i = 11 := by unfold curE; rw [hc]; dsimp only; rw [if_neg (by simp [h1]), if_neg h2, if_neg (by omega), if_neg (by simp [h4]), if_pos h]
theorem vE6' (h : ucode (l.take i) c.code = false) : curE l i = 0 := by unfold curE; rw [hc]; dsimp only; rw [if_neg (by simp [h1]), if_neg h2, if_neg (by omega), if_neg (by simp [h4]), if_neg (by simp [h])]
end
theorem c_uhas1 (x : Curri) (c : Str) : PCall Tryz.prog 230 [ag x.row, .pv (.ia [es c])] (fun r => r = vbool (pB (x.code = c))) := by
  refine acall_of tok mixed 8 rfl (fn := Tryz.f230) (c := Tryz.f230.body.getD .skip) (by kernel_rfl) (by kernel_rfl) (by kernel_rfl) rfl 0 rfl ?_
  repeat' (first | refine o1 ?_ | refine o2 ?_ | refine k1 ?_ | refine k2 ?_ | refine k7 ?_ | (change retOk _ _ _ _; refine ret_pure rfl trivial ?_) | fail)
  exact congrArg vbool (pB_eq sEq_iff)
theorem c_uhas (l : List Curri) (c : Str) (hl : l.length ≤ 100000) : PCall Tryz.prog 132 [.pv (.sl 2 (l.map Curri.row)), .pv (es c)] (fun r => r = vbool (ucode l c)) := by
  refine acall_of tok mixed 8 rfl (fn := Tryz.f132) (c := Tryz.f132.body.getD .skip) (by kernel_rfl) (by kernel_rfl) (by kernel_rfl) rfl 0 rfl ?_
  repeat' (first | refine o1 ?_ | refine o2 ?_ | refine k1 ?_ | refine k2 ?_ | refine k7 ?_ | (change retOk _ _ _ _; refine ret_pure rfl trivial ?_) | (change vcFun _ _ _ _ _; refine call_eq rfl (by repeat' (first | trivial | refine And.intro ?_ ?_ | (show 0 + _ ≤ List.length _; simp))) ALeL.refl (c_any_curri l 230 [.ia [es c]] (fun x => pB (x.code = c)) hl (fun x _ => c_uhas1 x c)) rfl ?_) | fail)
  rfl
theorem c_ruidx (l : List Curri) (c : Str) (hl : l.length ≤ 100000) : PCall Tryz.prog 185 [.pv (.sl 2 (l.map Curri.row)), .pv (es c)] (fun r => r = vint .i64 (idxB (fun y : Curri => pB (y.code = c)) l)) := by
  refine acall_of tok mixed 20 rfl (fn := Tryz.f185) (c := Tryz.f185.body.getD .skip) (by kernel_rfl) (by kernel_rfl) (by kernel_rfl) rfl 0 rfl ?_
  repeat' (first | refine o1 ?_ | refine o2 ?_ | refine k1 ?_ | refine k2 ?_ | refine k4 ?_ | fail)
  refine loop_at (fun i : Nat => [(5, vint .i64 i)]) (fun _ => []) (fun i => i ≤ l.length ∧ ∀ j, j < i → ∀ q, l[j]? = some q → pB (q.code = c) = false) (fun i => l.length - i) 0 ⟨by omega, fun j hj => by omega⟩ (by repeat' (first | exact trivial | exact ⟨_, rfl, ALe.refl⟩ | refine And.intro ?_ ?_)) (by repeat' (first | exact trivial)) ?_
  intro i ⟨hi, hall⟩
  rcases Nat.lt_or_ge i l.length with hlt | hge
  · obtain ⟨q, hq⟩ := getE hlt
    repeat' (first | refine o1 ?_ | refine o2 ?_ | refine k1 ?_ | refine k2 ?_ | refine k3 ?_ | refine k4 ?_ | refine k6 ?_ | refine k7 ?_ | refine And.intro ?_ ?_ | (intro h; first | exact Bool.noConfusion h | exact nz _ h | exact nl h | (simp at h; done) | (simp at h; first | (exfalso; omega) | skip) | skip) | (change retOk _ _ _ _; refine ret_pure rfl trivial ?_) | refine eqv_len_map ?_ | refine eqv_wrap (by omega) (by omega) ?_ | refine ⟨_, _, (by first | rfl | assumption), at_map (by assumption), ?_⟩ | fail)
    all_goals first
      | exact congrArg (vint .i64) (idxB_at (p := fun y : Curri => pB (y.code = c)) hall hq (pB_t (sEq_iff.1 (by assumption)))).symm
      | exact ⟨i + 1, ⟨by omega, all_lt_succ hall fun q' h' => by rw [hq] at h'; cases h'; exact pB_f (sEq_f.1 (by assumption))⟩, by omega, back [] rfl rfl trivial (by repeat' (first | exact trivial | exact rfl | refine And.intro ?_ ?_))⟩
  · repeat' (first | refine o1 ?_ | refine o2 ?_ | refine k1 ?_ | refine k2 ?_ | refine k3 ?_ | refine k7 ?_ | refine k8 ?_ | refine And.intro ?_ ?_ | (intro h; first | exact Bool.noConfusion h | exact nz _ h | exact nl h | (simp at h; done) | (simp at h; first | (exfalso; omega) | skip) | skip) | (change retOk _ _ _ _; refine ret_pure rfl trivial ?_) | refine eqv_len_map ?_ | fail)
    exact congrArg (vint .i64) (idxB_none fun j hj => hall j (by omega)).symm
theorem curE_bad {l : List Curri} {i k : Nat} {c : Curri} {e : Int} (hc : l[i]? = some c) (h1 : codeP c.code) (h2 : ¬ c.courses = []) (h3 : c.courses.length ≤ 8) (hall : ∀ j, j < k → crsE c.courses j = 0) (hk : k < c.courses.length) (he : e ≠ 0) (h : crsE c.courses k = e) : curE l i = e :=
  vE4' hc h1 h2 h3 he (by rw [firstE_at hall (by rw [h]; exact he) hk, h])
theorem c_curris (l : List Curri) : PCall Tryz.prog 58 [.pv (.sl 2 (l.map Curri.row))] (fun r => r = vint .i64 (currisE l)) := by
  refine acall_of tok mixed 59 rfl (fn := Tryz.f58) (c := Tryz.f58.body.getD .skip) (by kernel_rfl) (by kernel_rfl) (by kernel_rfl) rfl 0 rfl ?_
  repeat' (first | refine o1 ?_ | refine o2 ?_ | refine k1 ?_ | refine k2 ?_ | refine k3 ?_ | refine k4 ?_ | refine k6 ?_ | refine k7 ?_ | refine And.intro ?_ ?_ | (intro h; first | exact Bool.noConfusion h | exact nz _ h | exact nl h | (simp at h; done) | (simp at h; first | (exfalso; omega) | skip) | skip) | (change retOk _ _ _ _; refine ret_pure rfl trivial ?_) | refine eqv_len_map ?_ | fail)
  · exact vi (by unfold currisE; rw [if_pos (by omega)])
  have hn : l.length ≤ 16 := by omega
  have hfin : currisE l = firstE (curE l) l.length := by unfold currisE; rw [if_neg (by omega)]
  refine loop_at (fun i : Nat => [(12, vint .i64 i)]) (fun _ => []) (fun i => i ≤ l.length ∧ ∀ j, j < i → curE l j = 0) (fun i => l.length - i) 0 ⟨by omega, fun j hj => by omega⟩ (by repeat' (first | exact trivial | exact ⟨_, rfl, ALe.refl⟩ | refine And.intro ?_ ?_)) (by repeat' (first | exact trivial)) ?_
  intro i ⟨hi, hall⟩
  rcases Nat.lt_or_ge i l.length with hlt | hge
  · obtain ⟨c, hc⟩ := getE hlt
    repeat' (first | refine o1 ?_ | refine o2 ?_ | refine k1 ?_ | refine k2 ?_ | refine k3 ?_ | refine k4 ?_ | refine k6 ?_ | refine k7 ?_ | refine And.intro ?_ ?_ | (intro h; first | exact Bool.noConfusion h | exact nz _ h | exact nl h | (simp at h; done) | (simp at h; first | (exfalso; omega) | skip) | skip) | (change retOk _ _ _ _; refine ret_pure rfl trivial ?_) | exact (by kernel_rfl : drawOk _ _ = true) | refine eqv_len_map ?_ | refine ⟨_, _, (by first | rfl | assumption), at_map (by assumption), ?_⟩ | (change vcFun _ _ _ _ _; refine call_eq rfl (by repeat' (first | trivial | refine And.intro ?_ ?_ | (show 0 + _ ≤ List.length _; simp))) ALeL.refl (c_code c.code) rfl ?_) | fail)
    all_goals try first
      | exact first_fin hall hlt (by decide) hfin (vE1' hc (by assumption))
      | exact first_fin hall hlt (by decide) hfin (vE2' hc (by assumption) (by assumption))
      | exact first_fin hall hlt (by decide) hfin (vE3' hc (by assumption) (by assumption) (by omega))
    have h1 : codeP c.code := by assumption
    have h2 : ¬ c.courses = [] := by assumption
    have h3 : c.courses.length ≤ 8 := by omega
    refine loop_at (fun k : Nat => [(35, vint .i64 k)]) (fun _ => []) (fun k => k ≤ c.courses.length ∧ ∀ j, j < k → crsE c.courses j = 0) (fun k => c.courses.length - k) 0 ⟨by omega, fun j hj => by omega⟩ (by repeat' (first | exact trivial | exact ⟨_, rfl, ALe.refl⟩ | refine And.intro ?_ ?_)) (by repeat' (first | exact trivial | exact rfl | refine And.intro ?_ ?_)) ?_
    intro k ⟨hk, hcr⟩
    rcases Nat.lt_or_ge k c.courses.length with hkl | hkg
    · obtain ⟨s, hs⟩ := getE hkl
      have hcc : PCall Tryz.prog 126 [.pv (encStrs (c.courses.take k)), .pv (es s)] (fun r => r = vbool (aheadS c.courses k s)) := c_contains (c.courses.take k) s (by rw [List.length_take]; omega)
      have hcr2 : PCall Tryz.prog 106 [.pv (encStrs (c.courses.take k)), .pv (es s)] (fun r => r = vbool (aheadS c.courses k s)) := c_has (c.courses.take k) s (by rw [List.length_take]; omega)
      repeat' (first | (refine slice_to hk ?_) | refine o1 ?_ | refine o2 ?_ | refine k1 ?_ | refine k2 ?_ | refine k3 ?_ | refine k4 ?_ | refine k6 ?_ | refine k7 ?_ | refine And.intro ?_ ?_ | (intro h; first | exact Bool.noConfusion h | exact nz _ h | exact nl h | (simp at h; done) | (simp at h; first | (exfalso; omega) | skip) | skip) | (change retOk _ _ _ _; refine ret_pure rfl trivial ?_) | refine eqv_wrap (by omega) (by omega) ?_ | refine ⟨_, _, (by first | rfl | assumption), at_map (by assumption), ?_⟩ | (change vcFun _ _ _ _ _; refine call_eq rfl (by repeat' (first | trivial | refine And.intro ?_ ?_ | (show 0 + _ ≤ List.length _; simp))) ALeL.refl (c_code s) rfl ?_) | (change vcFun _ _ _ _ _; refine call_eq rfl (by repeat' (first | trivial | refine And.intro ?_ ?_ | (show 0 + _ ≤ List.length _; simp))) ALeL.refl (hcc) rfl ?_) | fail)
      all_goals first
        | exact first_fin hall hlt (by decide) hfin (curE_bad hc h1 h2 h3 hcr hkl (by decide) (uE1 hs (by assumption)))
        | exact first_fin hall hlt (by decide) hfin (curE_bad hc h1 h2 h3 hcr hkl (by decide) (uE2 hs (by assumption) (by assumption)))
        | exact ⟨k + 1, ⟨by omega, all_lt_succ hcr (uE3 hs (by assumption) (by assumption))⟩, by omega, back [0] rfl rfl ⟨rfl, trivial⟩ (by repeat' (first | exact trivial | exact rfl | refine And.intro ?_ ?_))⟩
    · have h4 : firstE (crsE c.courses) c.courses.length = 0 := firstE_zero fun j hj => hcr j (by omega)
      repeat' (first | (refine slice_to hi ?_) | refine o1 ?_ | refine o2 ?_ | refine k1 ?_ | refine k2 ?_ | refine k3 ?_ | refine k6 ?_ | refine k7 ?_ | refine k8 ?_ | refine And.intro ?_ ?_ | refine o3 ?_ | refine o4 ?_ | (intro h; first | exact Bool.noConfusion h | exact nz _ h | exact nl h | (simp at h; done) | (simp at h; first | (exfalso; omega) | skip) | skip) | (change retOk _ _ _ _; refine ret_pure rfl trivial ?_) | exact (by kernel_rfl : drawOk _ _ = true) | refine eqv_wrap (by omega) (by omega) ?_ | (change vcFunD _ _ _ _ _; refine callD_eq rfl (by repeat' (first | trivial | refine And.intro ?_ ?_ | (show 0 + _ ≤ List.length _; simp))) ALeL.refl (c_uhas (l.take i) c.code (by rw [List.length_take]; omega)) rfl ?_) | fail)
      all_goals first
        | exact first_fin hall hlt (by decide) hfin (vE5' hc h1 h2 h3 h4 (by assumption))
        | exact first_fin hall hlt (by decide) hfin (vE5' hc h1 h2 h3 h4 (idxB_lt (p := fun y : Curri => pB (y.code = c.code)) hc (pB_t rfl) (by omega)))
        | exact ⟨i + 1, ⟨by omega, all_lt_succ hall (vE6' hc h1 h2 h3 h4 (by first | assumption | exact idxB_ge (p := fun y : Curri => pB (y.code = c.code)) hc (pB_t rfl) (by omega)))⟩, by omega, back [] rfl rfl trivial (by repeat' (first | exact trivial | exact rfl | refine And.intro ?_ ?_))⟩
  · repeat' (first | refine o1 ?_ | refine o2 ?_ | refine k1 ?_ | refine k2 ?_ | refine k3 ?_ | refine k7 ?_ | refine k8 ?_ | refine And.intro ?_ ?_ | (intro h; first | exact Bool.noConfusion h | exact nz _ h | exact nl h | (simp at h; done) | (simp at h; first | (exfalso; omega) | skip) | skip) | (change retOk _ _ _ _; refine ret_pure rfl trivial ?_) | fail)
    exact vi (by rw [hfin, firstE_zero fun j hj => hall j (by omega)])
theorem c_rcurris (l : List Curri) : PCall Tryz.prog 89 [.pv (.sl 2 (l.map Curri.row))] (fun r => r = vint .i64 (currisE l)) := by
  refine acall_of tok mixed 61 rfl (fn := Tryz.f89) (c := Tryz.f89.body.getD .skip) (by kernel_rfl) (by kernel_rfl) (by kernel_rfl) rfl 0 rfl ?_
  repeat' (first | refine o1 ?_ | refine o2 ?_ | refine k1 ?_ | refine k2 ?_ | refine k3 ?_ | refine k4 ?_ | refine k6 ?_ | refine k7 ?_ | refine And.intro ?_ ?_ | (intro h; first | exact Bool.noConfusion h | exact nz _ h | exact nl h | (simp at h; done) | (simp at h; first | (exfalso; omega) | skip) | skip) | (change retOk _ _ _ _; refine ret_pure rfl trivial ?_) | refine eqv_len_map ?_ | fail)
  · exact vi (by unfold currisE; rw [if_pos (by omega)])
  have hn : l.length ≤ 16 := by omega
  have hfin : currisE l = firstE (curE l) l.length := by unfold currisE; rw [if_neg (by omega)]
  refine loop_at (fun i : Nat => [(3, vint .i64 i)]) (fun _ => []) (fun i => i ≤ l.length ∧ ∀ j, j < i → curE l j = 0) (fun i => l.length - i) 0 ⟨by omega, fun j hj => by omega⟩ (by repeat' (first | exact trivial | exact ⟨_, rfl, ALe.refl⟩ | refine And.intro ?_ ?_)) (by repeat' (first | exact trivial)) ?_
  intro i ⟨hi, hall⟩
  rcases Nat.lt_or_ge i l.length with hlt | hge
  · obtain ⟨c, hc⟩ := getE hlt
    repeat' (first | refine o1 ?_ | refine o2 ?_ | refine k1 ?_ | refine k2 ?_ | refine k3 ?_ | refine k4 ?_ | refine k6 ?_ | refine k7 ?_ | refine And.intro ?_ ?_ | (intro h; first | exact Bool.noConfusion h | exact nz _ h | exact nl h | (simp at h; done) | (simp at h; first | (exfalso; omega) | skip) | skip) | (change retOk _ _ _ _; refine ret_pure rfl trivial ?_) | exact (by kernel_rfl : drawOk _ _ = true) | refine eqv_len_map ?_ | refine ⟨_, _, (by first | rfl | assumption), at_map (by assumption), ?_⟩ | (change vcFun _ _ _ _ _; refine call_eq rfl (by repeat' (first | trivial | refine And.intro ?_ ?_ | (show 0 + _ ≤ List.length _; simp))) ALeL.refl (c_rcode c.code) rfl ?_) | fail)
    all_goals try first
      | exact first_fin hall hlt (by decide) hfin (vE1' hc (by assumption))
      | exact first_fin hall hlt (by decide) hfin (vE2' hc (by assumption) (by assumption))
      | exact first_fin hall hlt (by decide) hfin (vE3' hc (by assumption) (by assumption) (by omega))
    have h1 : codeP c.code := by assumption
    have h2 : ¬ c.courses = [] := by assumption
    have h3 : c.courses.length ≤ 8 := by omega
    refine loop_at (fun k : Nat => [(5, vint .i64 k)]) (fun _ => []) (fun k => k ≤ c.courses.length ∧ ∀ j, j < k → crsE c.courses j = 0) (fun k => c.courses.length - k) 0 ⟨by omega, fun j hj => by omega⟩ (by repeat' (first | exact trivial | exact ⟨_, rfl, ALe.refl⟩ | refine And.intro ?_ ?_)) (by repeat' (first | exact trivial | exact rfl | refine And.intro ?_ ?_)) ?_
    intro k ⟨hk, hcr⟩
    rcases Nat.lt_or_ge k c.courses.length with hkl | hkg
    · obtain ⟨s, hs⟩ := getE hkl
      have hcc : PCall Tryz.prog 126 [.pv (encStrs (c.courses.take k)), .pv (es s)] (fun r => r = vbool (aheadS c.courses k s)) := c_contains (c.courses.take k) s (by rw [List.length_take]; omega)
      have hcr2 : PCall Tryz.prog 106 [.pv (encStrs (c.courses.take k)), .pv (es s)] (fun r => r = vbool (aheadS c.courses k s)) := c_has (c.courses.take k) s (by rw [List.length_take]; omega)
      repeat' (first | (refine slice_to hk ?_) | refine o1 ?_ | refine o2 ?_ | refine k1 ?_ | refine k2 ?_ | refine k3 ?_ | refine k4 ?_ | refine k6 ?_ | refine k7 ?_ | refine And.intro ?_ ?_ | refine o3 ?_ | refine o4 ?_ | (intro h; first | exact Bool.noConfusion h | exact nz _ h | exact nl h | (simp at h; done) | (simp at h; first | (exfalso; omega) | skip) | skip) | (change retOk _ _ _ _; refine ret_pure rfl trivial ?_) | exact (by kernel_rfl : drawOk _ _ = true) | refine eqv_len_map ?_ | refine eqv_wrap (by omega) (by omega) ?_ | refine ⟨_, _, (by first | rfl | assumption), at_map (by assumption), ?_⟩ | (change vcFun _ _ _ _ _; refine call_eq rfl (by repeat' (first | trivial | refine And.intro ?_ ?_ | (show 0 + _ ≤ List.length _; simp))) ALeL.refl (c_rcode s) rfl ?_) | (change vcFunD _ _ _ _ _; refine callD_eq rfl (by repeat' (first | trivial | refine And.intro ?_ ?_ | (show 0 + _ ≤ List.length _; simp))) ALeL.refl (hcr2) rfl ?_) | fail)
      all_goals first
        | exact first_fin hall hlt (by decide) hfin (curE_bad hc h1 h2 h3 hcr hkl (by decide) (uE1 hs (by assumption)))
        | exact first_fin hall hlt (by decide) hfin (curE_bad hc h1 h2 h3 hcr hkl (by decide) (uE2 hs (by assumption) (by assumption)))
        | exact ⟨k + 1, ⟨by omega, all_lt_succ hcr (uE3 hs (by assumption) (by assumption))⟩, by omega, back [0] rfl rfl ⟨rfl, trivial⟩ (by repeat' (first | exact trivial | exact rfl | refine And.intro ?_ ?_))⟩
    · have h4 : firstE (crsE c.courses) c.courses.length = 0 := firstE_zero fun j hj => hcr j (by omega)
      repeat' (first | refine o1 ?_ | refine o2 ?_ | refine k1 ?_ | refine k2 ?_ | refine k3 ?_ | refine k6 ?_ | refine k7 ?_ | refine k8 ?_ | refine And.intro ?_ ?_ | (intro h; first | exact Bool.noConfusion h | exact nz _ h | exact nl h | (simp at h; done) | (simp at h; first | (exfalso; omega) | skip) | skip) | (change retOk _ _ _ _; refine ret_pure rfl trivial ?_) | refine eqv_len_map ?_ | refine eqv_wrap (by omega) (by omega) ?_ | (change vcFun _ _ _ _ _; refine call_eq rfl (by repeat' (first | trivial | refine And.intro ?_ ?_ | (show 0 + _ ≤ List.length _; simp))) ALeL.refl (c_ruidx l c.code (by omega)) rfl ?_) | fail)
      all_goals first
        | exact first_fin hall hlt (by decide) hfin (vE5' hc h1 h2 h3 h4 (by assumption))
        | exact first_fin hall hlt (by decide) hfin (vE5' hc h1 h2 h3 h4 (idxB_lt (p := fun y : Curri => pB (y.code = c.code)) hc (pB_t rfl) (by omega)))
        | exact ⟨i + 1, ⟨by omega, all_lt_succ hall (vE6' hc h1 h2 h3 h4 (by first | assumption | exact idxB_ge (p := fun y : Curri => pB (y.code = c.code)) hc (pB_t rfl) (by omega)))⟩, by omega, back [] rfl rfl trivial (by repeat' (first | exact trivial | exact rfl | refine And.intro ?_ ?_))⟩
  · repeat' (first | refine o1 ?_ | refine o2 ?_ | refine k1 ?_ | refine k2 ?_ | refine k3 ?_ | refine k7 ?_ | refine k8 ?_ | refine And.intro ?_ ?_ | (intro h; first | exact Bool.noConfusion h | exact nz _ h | exact nl h | (simp at h; done) | (simp at h; first | (exfalso; omega) | skip) | skip) | (change retOk _ _ _ _; refine ret_pure rfl trivial ?_) | refine eqv_len_map ?_ | fail)
    exact vi (by rw [hfin, firstE_zero fun j hj => hall j (by omega)])
end Go.Proofs.YtkbaecjnhmbeeaaGreat.Cw
/-
  Contracts: classes, one and all.
-/
namespace Go.Proofs.YtkbaecjnhmbeeaaGreat.Cw
open Go.Cw Go.Proofs
set_option linter.unusedVariables false
set_option maxRecDepth 100000
set_option maxHeartbeats 1000000
open Classical in
noncomputable def clsE (c : Class) (g : Grid) (w : Int) : Int :=
  if ¬ codeP c.code ∨ ¬ codeP c.course ∨ ¬ codeP c.part then 10 else if c.len < 1 ∨ g.slots < c.len then 3 else if patsE c.pats w ≠ 0 then patsE c.pats w else
  if c.seats < 0 ∨ 9999 < c.seats then 3 else if 8 < c.feats.length ∨ 8 < c.staff.length then 2 else if ¬ ascP c.feats ∨ ¬ ascP c.staff then 10 else if 24 < c.starts.length then 2 else if ¬ startsP c.starts c.len g then 14 else 0
section
variable {c : Class} {g : Grid} {w : Int}
theorem kE1 (h : ¬ codeP c.code ∨ ¬ codeP c.course ∨ ¬ codeP c.part) : clsE c g w = 10 := by unfold clsE; rw [if_pos h]
variable (h1 : codeP c.code) (h2 : codeP c.course) (h3 : codeP c.part)
include h1 h2 h3
theorem kE2 (h : c.len < 1 ∨ g.slots < c.len) : clsE c g w = 3 := by unfold clsE; rw [if_neg (by simp [h1, h2, h3]), if_pos h]
variable (h4 : 1 ≤ c.len ∧ c.len ≤ g.slots)
include h4
theorem kE3 (h : patsE c.pats w ≠ 0) : clsE c g w = patsE c.pats w := by unfold clsE; rw [if_neg (by simp [h1, h2, h3]), if_neg (by omega), if_pos h]
variable (h5 : patsE c.pats w = 0)
include h5
theorem kE4 (h : c.seats < 0 ∨ 9999 < c.seats) : clsE c g w = 3 := by unfold clsE; rw [if_neg (by simp [h1, h2, h3]), if_neg (by omega), if_neg (by simp [h5]), if_pos h]
variable (h6 : 0 ≤ c.seats ∧ c.seats ≤ 9999)
include h6
theorem kE5 (h : 8 < c.feats.length ∨ 8 < c.staff.length) : clsE c g w = 2 := by unfold clsE; rw [if_neg (by simp [h1, h2, h3]), if_neg (by omega), if_neg (by simp [h5]), if_neg (by omega), if_pos h]
variable (h7 : c.feats.length ≤ 8 ∧ c.staff.length ≤ 8)
include h7
theorem kE6 (h : ¬ ascP c.feats ∨ ¬ ascP c.staff) : clsE c g w = 10 := by unfold clsE; rw [if_neg (by simp [h1, h2, h3]), if_neg (by omega), if_neg (by simp [h5]), if_neg (by omega), if_neg (by omega), if_pos h]
variable (h8 : ascP c.feats) (h9 : ascP c.staff)
include h8 h9
theorem kE7 (h : 24 < c.starts.length) : clsE c g w = 2 := by unfold clsE; rw [if_neg (by simp [h1, h2, h3]), if_neg (by omega), if_neg (by simp [h5]), if_neg (by omega), if_neg (by omega), if_neg (by simp [h8, h9]), if_pos h]
theorem kE8 (h10 : c.starts.length ≤ 24) : clsE c g w = if pB (startsP c.starts c.len g) then 0 else 14 := by
  unfold clsE; rw [if_neg (by simp [h1, h2, h3]), if_neg (by omega), if_neg (by simp [h5]), if_neg (by omega), if_neg (by omega), if_neg (by simp [h8, h9]), if_neg (by omega)]
  by_cases h : startsP c.starts c.len g <;> simp [h]
end
theorem c_cls (c : Class) (g : Grid) (w : Int) (hg : 0 ≤ g.slots ∧ g.slots ≤ 1000) : PCall Tryz.prog 130 [ag c.row, ag g.row, vint .i64 w] (fun r => r = vint .i64 (clsE c g w)) := by
  refine acall_of tok mixed 84 rfl (fn := Tryz.f130) (c := Tryz.f130.body.getD .skip) (by kernel_rfl) (by kernel_rfl) (by kernel_rfl) rfl 0 rfl ?_
  repeat' (first | refine o1 ?_ | refine o2 ?_ | refine k1 ?_ | refine k2 ?_ | refine k3 ?_ | refine k4 ?_ | refine k6 ?_ | refine k7 ?_ | refine And.intro ?_ ?_ | (intro h; first | exact Bool.noConfusion h | exact nz _ h | exact nl h | (simp at h; done) | (simp at h; first | (exfalso; omega) | skip) | skip) | (change retOk _ _ _ _; refine ret_pure rfl trivial ?_) | refine eqv_len_map ?_ | (change vcFun _ _ _ _ _; refine call_eq rfl (by repeat' (first | trivial | refine And.intro ?_ ?_ | (show 0 + _ ≤ List.length _; simp))) ALeL.refl (c_code c.code) rfl ?_) | (change vcFun _ _ _ _ _; refine call_eq rfl (by repeat' (first | trivial | refine And.intro ?_ ?_ | (show 0 + _ ≤ List.length _; simp))) ALeL.refl (c_code c.course) rfl ?_) | (change vcFun _ _ _ _ _; refine call_eq rfl (by repeat' (first | trivial | refine And.intro ?_ ?_ | (show 0 + _ ≤ List.length _; simp))) ALeL.refl (c_code c.part) rfl ?_) | (change vcFun _ _ _ _ _; refine call_eq rfl (by repeat' (first | trivial | refine And.intro ?_ ?_ | (show 0 + _ ≤ List.length _; simp))) ALeL.refl (c_pats c.pats w) rfl ?_) | (change vcFun _ _ _ _ _; refine call_eq rfl (by repeat' (first | trivial | refine And.intro ?_ ?_ | (show 0 + _ ≤ List.length _; simp))) ALeL.refl (c_asc c.feats (by omega)) rfl ?_) | (change vcFun _ _ _ _ _; refine call_eq rfl (by repeat' (first | trivial | refine And.intro ?_ ?_ | (show 0 + _ ≤ List.length _; simp))) ALeL.refl (c_asc c.staff (by omega)) rfl ?_) | (change vcFun _ _ _ _ _; refine call_eq rfl (by repeat' (first | trivial | refine And.intro ?_ ?_ | (show 0 + _ ≤ List.length _; simp))) ALeL.refl (c_starts c g (by omega) hg (by omega)) rfl ?_) | fail)
  all_goals first
    | exact vi (kE1 (by first | exact .inl (by assumption) | exact .inr (.inl (by assumption)) | exact .inr (.inr (by assumption))))
    | exact vi (kE2 (by assumption) (by assumption) (by assumption) (by omega))
    | exact vi (kE3 (by assumption) (by assumption) (by assumption) (by omega) (by assumption))
    | exact vi (kE4 (by assumption) (by assumption) (by assumption) (by omega) (by assumption) (by omega))
    | exact vi (kE5 (by assumption) (by assumption) (by assumption) (by omega) (by assumption) (by omega) (by omega))
    | exact vi (kE6 (by assumption) (by assumption) (by assumption) (by omega) (by assumption) (by omega) (by omega) (by first | exact .inl (by assumption) | exact .inr (by assumption)))
    | exact vi (kE7 (by assumption) (by assumption) (by assumption) (by omega) (by assumption) (by omega) (by omega) (by assumption) (by assumption) (by omega))
    | exact vi (by rw [kE8 (by assumption) (by assumption) (by assumption) (by omega) (by assumption) (by omega) (by omega) (by assumption) (by assumption) (by omega)]; simp [*])
noncomputable def ccode (l : List Class) (c : Str) : Bool := l.any fun y => pB (y.code = c)
open Classical in
noncomputable def classE (l : List Class) (g : Grid) (w : Int) (i : Nat) : Int := match l[i]? with
  | none => 0
  | some c => if clsE c g w ≠ 0 then clsE c g w else if ccode (l.take i) c.code then 11 else 0
open Classical in
noncomputable def classesE (l : List Class) (g : Grid) (w : Int) : Int := if ¬ weekP g w then 1 else if 24 < l.length then 2 else firstE (classE l g w) l.length
theorem first_fin2 {f : Nat → Int} {n i : Nat} {k : Int} {e : Int} (h0 : ∀ j, j < i → f j = 0) (hi : i < n) (hk : ¬ k = 0) (he : e = firstE f n) (h : f i = k) : vint .i64 k = vint .i64 e := first_fin h0 hi hk he h
section
variable {l : List Class} {g : Grid} {w : Int} {i : Nat} {c : Class} (hc : l[i]? = some c)
include hc
theorem mE1' (h : ¬ clsE c g w = 0) : classE l g w i = clsE c g w := by unfold classE; rw [hc]; dsimp only; rw [if_pos h]
theorem mE2' (h0 : clsE c g w = 0) (h : ccode (l.take i) c.code = true) : classE l g w i = 11 := by unfold classE; rw [hc]; dsimp only; rw [if_neg (by simp [h0]), if_pos h]
theorem mE3' (h0 : clsE c g w = 0) (h : ccode (l.take i) c.code = false) : classE l g w i = 0 := by unfold classE; rw [hc]; dsimp only; rw [if_neg (by simp [h0]), if_neg (by simp [h])]
end
theorem c_chas1 (x : Class) (c : Str) : PCall Tryz.prog 229 [ag x.row, .pv (.ia [es c])] (fun r => r = vbool (pB (x.code = c))) := by
  refine acall_of tok mixed 8 rfl (fn := Tryz.f229) (c := Tryz.f229.body.getD .skip) (by kernel_rfl) (by kernel_rfl) (by kernel_rfl) rfl 0 rfl ?_
  repeat' (first | refine o1 ?_ | refine o2 ?_ | refine k1 ?_ | refine k2 ?_ | refine k7 ?_ | (change retOk _ _ _ _; refine ret_pure rfl trivial ?_) | fail)
  exact congrArg vbool (pB_eq sEq_iff)
theorem c_chas (l : List Class) (c : Str) (hl : l.length ≤ 100000) : PCall Tryz.prog 131 [.pv (.sl 9 (l.map Class.row)), .pv (es c)] (fun r => r = vbool (ccode l c)) := by
  refine acall_of tok mixed 8 rfl (fn := Tryz.f131) (c := Tryz.f131.body.getD .skip) (by kernel_rfl) (by kernel_rfl) (by kernel_rfl) rfl 0 rfl ?_
  repeat' (first | refine o1 ?_ | refine o2 ?_ | refine k1 ?_ | refine k2 ?_ | refine k7 ?_ | (change retOk _ _ _ _; refine ret_pure rfl trivial ?_) | (change vcFun _ _ _ _ _; refine call_eq rfl (by repeat' (first | trivial | refine And.intro ?_ ?_ | (show 0 + _ ≤ List.length _; simp))) ALeL.refl (c_any_class l 229 [.ia [es c]] (fun x => pB (x.code = c)) hl (fun x _ => c_chas1 x c)) rfl ?_) | fail)
  rfl
theorem c_rcidx (l : List Class) (c : Str) (hl : l.length ≤ 100000) : PCall Tryz.prog 184 [.pv (.sl 9 (l.map Class.row)), .pv (es c)] (fun r => r = vint .i64 (idxB (fun y : Class => pB (y.code = c)) l)) := by
  refine acall_of tok mixed 20 rfl (fn := Tryz.f184) (c := Tryz.f184.body.getD .skip) (by kernel_rfl) (by kernel_rfl) (by kernel_rfl) rfl 0 rfl ?_
  repeat' (first | refine o1 ?_ | refine o2 ?_ | refine k1 ?_ | refine k2 ?_ | refine k4 ?_ | fail)
  refine loop_at (fun i : Nat => [(5, vint .i64 i)]) (fun _ => []) (fun i => i ≤ l.length ∧ ∀ j, j < i → ∀ q, l[j]? = some q → pB (q.code = c) = false) (fun i => l.length - i) 0 ⟨by omega, fun j hj => by omega⟩ (by repeat' (first | exact trivial | exact ⟨_, rfl, ALe.refl⟩ | refine And.intro ?_ ?_)) (by repeat' (first | exact trivial)) ?_
  intro i ⟨hi, hall⟩
  rcases Nat.lt_or_ge i l.length with hlt | hge
  · obtain ⟨q, hq⟩ := getE hlt
    repeat' (first | refine o1 ?_ | refine o2 ?_ | refine k1 ?_ | refine k2 ?_ | refine k3 ?_ | refine k4 ?_ | refine k6 ?_ | refine k7 ?_ | refine And.intro ?_ ?_ | (intro h; first | exact Bool.noConfusion h | exact nz _ h | exact nl h | (simp at h; done) | (simp at h; first | (exfalso; omega) | skip) | skip) | (change retOk _ _ _ _; refine ret_pure rfl trivial ?_) | refine eqv_len_map ?_ | refine eqv_wrap (by omega) (by omega) ?_ | refine ⟨_, _, (by first | rfl | assumption), at_map (by assumption), ?_⟩ | fail)
    all_goals first
      | exact congrArg (vint .i64) (idxB_at (p := fun y : Class => pB (y.code = c)) hall hq (pB_t (sEq_iff.1 (by assumption)))).symm
      | exact ⟨i + 1, ⟨by omega, all_lt_succ hall fun q' h' => by rw [hq] at h'; cases h'; exact pB_f (sEq_f.1 (by assumption))⟩, by omega, back [] rfl rfl trivial (by repeat' (first | exact trivial | exact rfl | refine And.intro ?_ ?_))⟩
  · repeat' (first | refine o1 ?_ | refine o2 ?_ | refine k1 ?_ | refine k2 ?_ | refine k3 ?_ | refine k7 ?_ | refine k8 ?_ | refine And.intro ?_ ?_ | (intro h; first | exact Bool.noConfusion h | exact nz _ h | exact nl h | (simp at h; done) | (simp at h; first | (exfalso; omega) | skip) | skip) | (change retOk _ _ _ _; refine ret_pure rfl trivial ?_) | refine eqv_len_map ?_ | fail)
    exact congrArg (vint .i64) (idxB_none fun j hj => hall j (by omega)).symm
theorem week_b {g : Grid} {w : Int} (h : weekP g w) : 0 ≤ g.slots ∧ g.slots ≤ 1000 := by obtain ⟨⟨_, _, h1, h2, _⟩, _⟩ := h; omega
theorem c_classes (l : List Class) (g : Grid) (w : Int) : PCall Tryz.prog 56 [.pv (.sl 9 (l.map Class.row)), ag g.row, vint .i64 w] (fun r => r = vint .i64 (classesE l g w)) := by
  refine acall_of tok mixed 40 rfl (fn := Tryz.f56) (c := Tryz.f56.body.getD .skip) (by kernel_rfl) (by kernel_rfl) (by kernel_rfl) rfl 0 rfl ?_
  repeat' (first | refine o1 ?_ | refine o2 ?_ | refine k1 ?_ | refine k2 ?_ | refine k3 ?_ | refine k4 ?_ | refine k6 ?_ | refine k7 ?_ | refine And.intro ?_ ?_ | (intro h; first | exact Bool.noConfusion h | exact nz _ h | exact nl h | (simp at h; done) | (simp at h; first | (exfalso; omega) | skip) | skip) | (change retOk _ _ _ _; refine ret_pure rfl trivial ?_) | refine eqv_len_map ?_ | (change vcFun _ _ _ _ _; refine call_eq rfl (by repeat' (first | trivial | refine And.intro ?_ ?_ | (show 0 + _ ≤ List.length _; simp))) ALeL.refl (c_week g w) rfl ?_) | fail)
  · exact vi (by unfold classesE; rw [if_pos (by assumption)])
  · exact vi (by unfold classesE; rw [if_neg (by simp [*]), if_pos (by omega)])
  have hw : weekP g w := by assumption
  have hn : l.length ≤ 24 := by omega
  have hfin : classesE l g w = firstE (classE l g w) l.length := by unfold classesE; rw [if_neg (by simp [hw]), if_neg (by omega)]
  refine loop_at (fun i : Nat => [(21, vint .i64 i)]) (fun _ => []) (fun i => i ≤ l.length ∧ ∀ j, j < i → classE l g w j = 0) (fun i => l.length - i) 0 ⟨by omega, fun j hj => by omega⟩ (by repeat' (first | exact trivial | exact ⟨_, rfl, ALe.refl⟩ | refine And.intro ?_ ?_)) (by repeat' (first | exact trivial | exact rfl | refine And.intro ?_ ?_)) ?_
  intro i ⟨hi, hall⟩
  rcases Nat.lt_or_ge i l.length with hlt | hge
  · obtain ⟨c, hc⟩ := getE hlt
    repeat' (first | (refine slice_to hi ?_) | refine o1 ?_ | refine o2 ?_ | refine k1 ?_ | refine k2 ?_ | refine k3 ?_ | refine k4 ?_ | refine k6 ?_ | refine k7 ?_ | refine And.intro ?_ ?_ | refine o3 ?_ | refine o4 ?_ | (intro h; first | exact Bool.noConfusion h | exact nz _ h | exact nl h | (simp at h; done) | (simp at h; first | (exfalso; omega) | skip) | skip) | (change retOk _ _ _ _; refine ret_pure rfl trivial ?_) | exact (by kernel_rfl : drawOk _ _ = true) | refine eqv_wrap (by omega) (by omega) ?_ | refine ⟨_, _, (by first | rfl | assumption), at_map (by assumption), ?_⟩ | (change vcFun _ _ _ _ _; refine call_eq rfl (by repeat' (first | trivial | refine And.intro ?_ ?_ | (show 0 + _ ≤ List.length _; simp))) ALeL.refl (c_cls c g w (week_b hw)) rfl ?_) | (change vcFunD _ _ _ _ _; refine callD_eq rfl (by repeat' (first | trivial | refine And.intro ?_ ?_ | (show 0 + _ ≤ List.length _; simp))) ALeL.refl (c_chas (l.take i) c.code (by rw [List.length_take]; omega)) rfl ?_) | fail)
    all_goals first
      | exact first_fin2 hall hlt (by assumption) hfin (mE1' hc (by assumption))
      | exact first_fin hall hlt (by decide) hfin (mE2' hc (by assumption) (by assumption))
      | exact ⟨i + 1, ⟨by omega, all_lt_succ hall (mE3' hc (by assumption) (by assumption))⟩, by omega, back [0] rfl rfl ⟨rfl, trivial⟩ (by repeat' (first | exact trivial | exact rfl | refine And.intro ?_ ?_))⟩
  · repeat' (first | refine o1 ?_ | refine o2 ?_ | refine k1 ?_ | refine k2 ?_ | refine k3 ?_ | refine k7 ?_ | refine k8 ?_ | refine And.intro ?_ ?_ | (intro h; first | exact Bool.noConfusion h | exact nz _ h | exact nl h | (simp at h; done) | (simp at h; first | (exfalso; omega) | skip) | skip) | (change retOk _ _ _ _; refine ret_pure rfl trivial ?_) | fail)
    exact vi (by rw [hfin, firstE_zero fun j hj => hall j (by omega)])
end Go.Proofs.YtkbaecjnhmbeeaaGreat.Cw
/-
  Slices that grow; results that are read.
-/
namespace Go.Proofs.YtkbaecjnhmbeeaaGreat.Cw
open Go.Cw Go.Proofs
set_option linter.unusedVariables false
theorem app_consm {α : Type} {f : α → List PV} {e0 : α} (e : α) {l : List α} {x : List PV} (hx : x = f e) {K : Go.Cw.Rows → Nat → Prop} (h : K (.p (f e0 :: (l ++ [e]).map f)) (((l ++ [e]).map f).length + 1)) : eqv (Go.Cw.Rows.p (List.drop 0 (f e0 :: l.map f) ++ List.take 1 (List.drop 0 [x]))) fun rr => eqv (rowsLen rr) (K rr) :=
  ⟨_, by simp [hx], _, by simp [rowsLen], h⟩
def nilA : AV := .pv (.val (.slice none 0 0))
def slP (id z : Nat) : List (List PV) → AV
  | [] => nilA
  | r :: l => .ms id z 0 (r :: l).length
def obP (ty z : Nat) : List (List PV) → Option AObj
  | [] => none
  | r :: l => some ⟨ty, z, false, .p (r :: l)⟩
structure Leq (r x : AV) : Prop where
  le : ALe r x
theorem whole_le {α : Type} {f : α → List PV} {z n : Nat} {l : List α} (h : l.length ≤ n) : PLe (.sl z (List.take n (List.drop 0 (l.map f)))) (.sl z (l.map f)) := by
  rw [List.drop_zero, List.take_of_length_le (by simpa using h)]
  exact PLe.refl
end Go.Proofs.YtkbaecjnhmbeeaaGreat.Cw
