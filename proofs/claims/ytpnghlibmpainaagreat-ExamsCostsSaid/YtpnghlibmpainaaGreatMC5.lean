/-
  Part 5 of the proof (Tab, Ty, B0, D1, BP, D2, M1, BQ, X0, X1, B1, B2, B3, B4, B5, B6, BC, B7, B8, B9, BT, BL, E1): what later parts use. No conditions.
-/
import Derived.Test.YtpnghlibmpainaaGreatProg
import Derived.KernelRfl
import Derived.Test.YtpnghlibmpainaaGreatMC4

/-
  The types and functions of the program. Written by a tool; no conditions.
-/
namespace Go.Proofs.YtpnghlibmpainaaGreat.Cw
open Go.Cw Go.Proofs

noncomputable def T : Tab := ⟨.node 120 (.mk 4 48 true (.struct [(0, 3), (1, 118), (2, 3), (3, 3)]) [.val (.int .i64 0), .val (.slice none 0 0), .val (.int .i64 0), .val (.int .i64 0)]) (.node 59 (.mk 1 8 false .func [.val .nilFunc]) (.node 29 (.mk 1 24 false (.slice 23) [.val (.slice none 0 0)]) (.node 15 (.mk 1 8 false (.ptr 223) [.val (.pointer none)]) (.node 8 (.mk 4 24 true (.struct [(0, 2), (1, 3), (2, 4), (3, 6)]) [.val (.int .i64 0), .val (.int .i64 0), .val (.bool false), .val (.int .u8 0)]) (.node 4 (.mk 1 1 false .bool [.val (.bool false)]) (.node 2 (.mk 1 8 false (.int .i64) [.val (.int .i64 0)]) (.node 1 (.mk 1 8 false .func [.val .nilFunc]) .nil .nil)
 (.node 3 (.mk 1 8 false (.int .i64) [.val (.int .i64 0)]) .nil .nil))
 (.node 6 (.mk 1 1 false (.int .u8) [.val (.int .u8 0)]) (.node 5 (.mk 1 1 false (.int .u8) [.val (.int .u8 0)]) .nil .nil)
 (.node 7 (.mk 4 24 true (.struct [(0, 2), (1, 3), (2, 4), (3, 6)]) [.val (.int .i64 0), .val (.int .i64 0), .val (.bool false), .val (.int .u8 0)]) .nil .nil)))
 (.node 12 (.mk 1 8 false (.int .u64) [.val (.int .u64 0)]) (.node 10 (.mk 1 16 false .str [.val (.string (⟨#[]⟩))]) (.node 9 (.mk 1 16 false .str [.val (.string (⟨#[]⟩))]) .nil .nil)
 (.node 11 (.mk 1 16 false .str [.val (.string (⟨#[]⟩))]) .nil .nil))
 (.node 14 (.mk 2 24 true (.struct [(0, 9), (1, 12)]) [.val (.string (⟨#[]⟩)), .val (.int .u64 0)]) (.node 13 (.mk 2 24 true (.struct [(0, 9), (1, 12)]) [.val (.string (⟨#[]⟩)), .val (.int .u64 0)]) .nil .nil) .nil)))
 (.node 22 (.mk 4 32 true (.struct [(0, 3), (1, 3), (2, 3), (3, 3)]) [.val (.int .i64 0), .val (.int .i64 0), .val (.int .i64 0), .val (.int .i64 0)]) (.node 19 (.mk 1 8 true (.struct [(0, 17)]) [.val (.pointer none)]) (.node 17 (.mk 1 8 false (.ptr 235) [.val (.pointer none)]) (.node 16 (.mk 1 8 false (.ptr 226) [.val (.pointer none)]) .nil .nil)
 (.node 18 (.mk 1 8 true (.struct [(0, 17)]) [.val (.pointer none)]) .nil .nil))
 (.node 21 (.mk 1 4 false (.int .i32) [.val (.int .i32 0)]) (.node 20 (.mk 1 16 false .other [.val .nilIface]) .nil .nil) .nil))
 (.node 26 (.mk 1 8 false .func [.val .nilFunc]) (.node 24 (.mk 1 24 false (.slice 3) [.val (.slice none 0 0)]) (.node 23 (.mk 4 32 true (.struct [(0, 3), (1, 3), (2, 3), (3, 3)]) [.val (.int .i64 0), .val (.int .i64 0), .val (.int .i64 0), .val (.int .i64 0)]) .nil .nil)
 (.node 25 (.mk 1 8 false .func [.val .nilFunc]) .nil .nil))
 (.node 28 (.mk 1 24 false (.slice 69) [.val (.slice none 0 0)]) (.node 27 (.mk 1 24 false (.slice 72) [.val (.slice none 0 0)]) .nil .nil) .nil))))
 (.node 43 (.mk 1 8 false .func [.val .nilFunc]) (.node 36 (.mk 1 8 false .func [.val .nilFunc]) (.node 33 (.mk 8 112 true (.struct [(0, 27), (1, 28), (2, 29), (3, 31)]) [.val (.slice none 0 0), .val (.slice none 0 0), .val (.slice none 0 0), .val (.int .i64 0), .val (.int .i64 0), .val (.int .i64 0), .val (.int .i64 0), .val (.int .i64 0)]) (.node 31 (.mk 5 40 true (.struct [(0, 3), (1, 3), (2, 3), (3, 3), (4, 3)]) [.val (.int .i64 0), .val (.int .i64 0), .val (.int .i64 0), .val (.int .i64 0), .val (.int .i64 0)]) (.node 30 (.mk 5 40 true (.struct [(0, 3), (1, 3), (2, 3), (3, 3), (4, 3)]) [.val (.int .i64 0), .val (.int .i64 0), .val (.int .i64 0), .val (.int .i64 0), .val (.int .i64 0)]) .nil .nil)
 (.node 32 (.mk 8 112 true (.struct [(0, 27), (1, 28), (2, 29), (3, 31)]) [.val (.slice none 0 0), .val (.slice none 0 0), .val (.slice none 0 0), .val (.int .i64 0), .val (.int .i64 0), .val (.int .i64 0), .val (.int .i64 0), .val (.int .i64 0)]) .nil .nil))
 (.node 35 (.mk 1 8 false (.ptr 92) [.val (.pointer none)]) (.node 34 (.mk 1 8 false .func [.val .nilFunc]) .nil .nil) .nil))
 (.node 40 (.mk 2 16 true (.array 2 3) [.val (.int .i64 0), .val (.int .i64 0)]) (.node 38 (.mk 4 32 true (.struct [(0, 3), (1, 3), (2, 3), (3, 3)]) [.val (.int .i64 0), .val (.int .i64 0), .val (.int .i64 0), .val (.int .i64 0)]) (.node 37 (.mk 4 32 true (.struct [(0, 3), (1, 3), (2, 3), (3, 3)]) [.val (.int .i64 0), .val (.int .i64 0), .val (.int .i64 0), .val (.int .i64 0)]) .nil .nil)
 (.node 39 (.mk 1 8 false .func [.val .nilFunc]) .nil .nil))
 (.node 42 (.mk 1 24 false (.slice 40) [.val (.slice none 0 0)]) (.node 41 (.mk 1 8 false .func [.val .nilFunc]) .nil .nil) .nil)))
 (.node 50 (.mk 4 80 true (.struct [(0, 47), (1, 48), (2, 49), (3, 3)]) [.val (.slice none 0 0), .val (.slice none 0 0), .val (.slice none 0 0), .val (.int .i64 0)]) (.node 47 (.mk 1 24 false (.slice 73) [.val (.slice none 0 0)]) (.node 45 (.mk 1 8 false .func [.val .nilFunc]) (.node 44 (.mk 1 8 false .func [.val .nilFunc]) .nil .nil)
 (.node 46 (.mk 1 24 false (.slice 33) [.val (.slice none 0 0)]) .nil .nil))
 (.node 49 (.mk 1 24 false (.slice 120) [.val (.slice none 0 0)]) (.node 48 (.mk 1 24 false (.slice 116) [.val (.slice none 0 0)]) .nil .nil) .nil))
 (.node 55 (.mk 1 8 false .func [.val .nilFunc]) (.node 52 (.mk 1 8 false (.int .i64) [.val (.int .i64 0)]) (.node 51 (.mk 4 80 true (.struct [(0, 47), (1, 48), (2, 49), (3, 3)]) [.val (.slice none 0 0), .val (.slice none 0 0), .val (.slice none 0 0), .val (.int .i64 0)]) .nil .nil)
 (.node 54 (.mk 1 8 false .func [.val .nilFunc]) .nil .nil))
 (.node 57 (.mk 1 8 false .func [.val .nilFunc]) (.node 56 (.mk 1 8 false .func [.val .nilFunc]) .nil .nil) .nil)))))
 (.node 92 (.mk 2 32 true (.struct [(0, 24), (1, 3)]) [.val (.slice none 0 0), .val (.int .i64 0)]) (.node 76 (.mk 6 64 true (.struct [(0, 66), (5, 74)]) [.val (.int .i64 0), .val (.int .i64 0), .val (.int .i64 0), .val (.int .i64 0), .val (.int .i64 0), .val (.slice none 0 0)]) (.node 69 (.mk 4 72 true (.struct [(0, 9), (1, 3), (2, 67), (3, 67)]) [.val (.string (⟨#[]⟩)), .val (.int .i64 0), .val (.slice none 0 0), .val (.slice none 0 0)]) (.node 65 (.mk 5 40 true (.struct [(0, 38), (4, 3)]) [.val (.int .i64 0), .val (.int .i64 0), .val (.int .i64 0), .val (.int .i64 0), .val (.int .i64 0)]) (.node 62 (.mk 1 8 false .func [.val .nilFunc]) (.node 60 (.mk 1 24 false (.slice 66) [.val (.slice none 0 0)]) .nil .nil)
 (.node 64 (.mk 1 8 false .func [.val .nilFunc]) .nil .nil))
 (.node 67 (.mk 1 24 false (.slice 9) [.val (.slice none 0 0)]) (.node 66 (.mk 5 40 true (.struct [(0, 38), (4, 3)]) [.val (.int .i64 0), .val (.int .i64 0), .val (.int .i64 0), .val (.int .i64 0), .val (.int .i64 0)]) .nil .nil)
 (.node 68 (.mk 4 72 true (.struct [(0, 9), (1, 3), (2, 67), (3, 67)]) [.val (.string (⟨#[]⟩)), .val (.int .i64 0), .val (.slice none 0 0), .val (.slice none 0 0)]) .nil .nil)))
 (.node 73 (.mk 1 24 false (.slice 76) [.val (.slice none 0 0)]) (.node 71 (.mk 5 88 true (.struct [(0, 9), (1, 9), (2, 3), (3, 67), (4, 70)]) [.val (.string (⟨#[]⟩)), .val (.string (⟨#[]⟩)), .val (.int .i64 0), .val (.slice none 0 0), .val (.slice none 0 0)]) (.node 70 (.mk 1 24 false (.slice 38) [.val (.slice none 0 0)]) .nil .nil)
 (.node 72 (.mk 5 88 true (.struct [(0, 9), (1, 9), (2, 3), (3, 67), (4, 70)]) [.val (.string (⟨#[]⟩)), .val (.string (⟨#[]⟩)), .val (.int .i64 0), .val (.slice none 0 0), .val (.slice none 0 0)]) .nil .nil))
 (.node 75 (.mk 6 64 true (.struct [(0, 66), (5, 74)]) [.val (.int .i64 0), .val (.int .i64 0), .val (.int .i64 0), .val (.int .i64 0), .val (.int .i64 0), .val (.slice none 0 0)]) (.node 74 (.mk 1 24 false (.slice 114) [.val (.slice none 0 0)]) .nil .nil) .nil)))
 (.node 84 (.mk 1 8 false .func [.val .nilFunc]) (.node 81 (.mk 1 8 false .func [.val .nilFunc]) (.node 78 (.mk 1 24 false (.slice 60) [.val (.slice none 0 0)]) (.node 77 (.mk 1 8 false .func [.val .nilFunc]) .nil .nil)
 (.node 79 (.mk 1 24 false (.slice 88) [.val (.slice none 0 0)]) .nil .nil))
 (.node 83 (.mk 1 8 false .func [.val .nilFunc]) (.node 82 (.mk 1 8 false .func [.val .nilFunc]) .nil .nil) .nil))
 (.node 89 (.mk 1 8 false .func [.val .nilFunc]) (.node 87 (.mk 4 40 true (.struct [(0, 9), (1, 3), (2, 3), (3, 3)]) [.val (.string (⟨#[]⟩)), .val (.int .i64 0), .val (.int .i64 0), .val (.int .i64 0)]) (.node 86 (.mk 1 8 false .func [.val .nilFunc]) .nil .nil)
 (.node 88 (.mk 4 40 true (.struct [(0, 9), (1, 3), (2, 3), (3, 3)]) [.val (.string (⟨#[]⟩)), .val (.int .i64 0), .val (.int .i64 0), .val (.int .i64 0)]) .nil .nil))
 (.node 91 (.mk 2 32 true (.struct [(0, 24), (1, 3)]) [.val (.slice none 0 0), .val (.int .i64 0)]) (.node 90 (.mk 1 8 false .func [.val .nilFunc]) .nil .nil) .nil))))
 (.node 106 (.mk 2 16 true (.struct [(0, 3), (1, 3)]) [.val (.int .i64 0), .val (.int .i64 0)]) (.node 99 (.mk 9 136 true (.struct [(0, 33), (8, 98)]) [.val (.slice none 0 0), .val (.slice none 0 0), .val (.slice none 0 0), .val (.int .i64 0), .val (.int .i64 0), .val (.int .i64 0), .val (.int .i64 0), .val (.int .i64 0), .val (.slice none 0 0)]) (.node 96 (.mk 1 8 false .func [.val .nilFunc]) (.node 94 (.mk 1 8 false (.int .u64) [.val (.int .u64 0)]) (.node 93 (.mk 1 8 false .func [.val .nilFunc]) .nil .nil)
 (.node 95 (.mk 1 8 false .func [.val .nilFunc]) .nil .nil))
 (.node 98 (.mk 1 24 false (.slice 155) [.val (.slice none 0 0)]) (.node 97 (.mk 1 8 false (.ptr 102) [.val (.pointer none)]) .nil .nil) .nil))
 (.node 103 (.mk 1 8 false .func [.val .nilFunc]) (.node 101 (.mk 13 216 true (.struct [(0, 100), (9, 51)]) [.val (.slice none 0 0), .val (.slice none 0 0), .val (.slice none 0 0), .val (.int .i64 0), .val (.int .i64 0), .val (.int .i64 0), .val (.int .i64 0), .val (.int .i64 0), .val (.slice none 0 0), .val (.slice none 0 0), .val (.slice none 0 0), .val (.slice none 0 0), .val (.int .i64 0)]) (.node 100 (.mk 9 136 true (.struct [(0, 33), (8, 98)]) [.val (.slice none 0 0), .val (.slice none 0 0), .val (.slice none 0 0), .val (.int .i64 0), .val (.int .i64 0), .val (.int .i64 0), .val (.int .i64 0), .val (.int .i64 0), .val (.slice none 0 0)]) .nil .nil)
 (.node 102 (.mk 13 216 true (.struct [(0, 100), (9, 51)]) [.val (.slice none 0 0), .val (.slice none 0 0), .val (.slice none 0 0), .val (.int .i64 0), .val (.int .i64 0), .val (.int .i64 0), .val (.int .i64 0), .val (.int .i64 0), .val (.slice none 0 0), .val (.slice none 0 0), .val (.slice none 0 0), .val (.slice none 0 0), .val (.int .i64 0)]) .nil .nil))
 (.node 105 (.mk 1 8 false .func [.val .nilFunc]) (.node 104 (.mk 1 8 false .func [.val .nilFunc]) .nil .nil) .nil)))
 (.node 113 (.mk 2 16 true (.struct [(0, 3), (1, 3)]) [.val (.int .i64 0), .val (.int .i64 0)]) (.node 110 (.mk 1 8 false .func [.val .nilFunc]) (.node 108 (.mk 1 24 false (.slice 109) [.val (.slice none 0 0)]) (.node 107 (.mk 2 16 true (.struct [(0, 3), (1, 3)]) [.val (.int .i64 0), .val (.int .i64 0)]) .nil .nil)
 (.node 109 (.mk 1 24 false (.slice 112) [.val (.slice none 0 0)]) .nil .nil))
 (.node 112 (.mk 2 16 true (.struct [(0, 3), (1, 3)]) [.val (.int .i64 0), .val (.int .i64 0)]) (.node 111 (.mk 2 16 true (.struct [(0, 3), (1, 3)]) [.val (.int .i64 0), .val (.int .i64 0)]) .nil .nil) .nil))
 (.node 117 (.mk 1 8 false .func [.val .nilFunc]) (.node 115 (.mk 4 48 true (.struct [(0, 3), (1, 3), (2, 3), (3, 24)]) [.val (.int .i64 0), .val (.int .i64 0), .val (.int .i64 0), .val (.slice none 0 0)]) (.node 114 (.mk 2 16 true (.struct [(0, 3), (1, 3)]) [.val (.int .i64 0), .val (.int .i64 0)]) .nil .nil)
 (.node 116 (.mk 4 48 true (.struct [(0, 3), (1, 3), (2, 3), (3, 24)]) [.val (.int .i64 0), .val (.int .i64 0), .val (.int .i64 0), .val (.slice none 0 0)]) .nil .nil))
 (.node 119 (.mk 4 48 true (.struct [(0, 3), (1, 118), (2, 3), (3, 3)]) [.val (.int .i64 0), .val (.slice none 0 0), .val (.int .i64 0), .val (.int .i64 0)]) (.node 118 (.mk 1 24 false (.slice 122) [.val (.slice none 0 0)]) .nil .nil) .nil))))))
 (.node 178 (.mk 1 8 false .func [.val .nilFunc]) (.node 150 (.mk 1 8 false .func [.val .nilFunc]) (.node 135 (.mk 1 8 false .func [.val .nilFunc]) (.node 128 (.mk 1 8 false .func [.val .nilFunc]) (.node 124 (.mk 1 8 false .func [.val .nilFunc]) (.node 122 (.mk 3 24 true (.struct [(0, 3), (1, 3), (2, 3)]) [.val (.int .i64 0), .val (.int .i64 0), .val (.int .i64 0)]) (.node 121 (.mk 3 24 true (.struct [(0, 3), (1, 3), (2, 3)]) [.val (.int .i64 0), .val (.int .i64 0), .val (.int .i64 0)]) .nil .nil)
 (.node 123 (.mk 1 8 false .func [.val .nilFunc]) .nil .nil))
 (.node 126 (.mk 1 8 false .func [.val .nilFunc]) (.node 125 (.mk 1 8 false .func [.val .nilFunc]) .nil .nil)
 (.node 127 (.mk 1 8 false .func [.val .nilFunc]) .nil .nil)))
 (.node 132 (.mk 1 8 false .func [.val .nilFunc]) (.node 130 (.mk 1 8 false .func [.val .nilFunc]) (.node 129 (.mk 1 8 false .func [.val .nilFunc]) .nil .nil)
 (.node 131 (.mk 1 8 false .func [.val .nilFunc]) .nil .nil))
 (.node 134 (.mk 1 24 false (.slice 5) [.val (.slice none 0 0)]) (.node 133 (.mk 1 8 false .func [.val .nilFunc]) .nil .nil) .nil)))
 (.node 142 (.mk 1 8 false .func [.val .nilFunc]) (.node 139 (.mk 1 8 false .func [.val .nilFunc]) (.node 137 (.mk 1 8 false .func [.val .nilFunc]) (.node 136 (.mk 1 8 false .func [.val .nilFunc]) .nil .nil)
 (.node 138 (.mk 1 8 false .func [.val .nilFunc]) .nil .nil))
 (.node 141 (.mk 1 8 false .func [.val .nilFunc]) (.node 140 (.mk 1 8 false .func [.val .nilFunc]) .nil .nil) .nil))
 (.node 147 (.mk 4 32 true (.struct [(0, 3), (1, 3), (2, 3), (3, 3)]) [.val (.int .i64 0), .val (.int .i64 0), .val (.int .i64 0), .val (.int .i64 0)]) (.node 145 (.mk 1 8 false .func [.val .nilFunc]) (.node 144 (.mk 1 8 false .func [.val .nilFunc]) .nil .nil)
 (.node 146 (.mk 1 24 false (.slice 67) [.val (.slice none 0 0)]) .nil .nil))
 (.node 149 (.mk 1 8 false .func [.val .nilFunc]) (.node 148 (.mk 4 32 true (.struct [(0, 3), (1, 3), (2, 3), (3, 3)]) [.val (.int .i64 0), .val (.int .i64 0), .val (.int .i64 0), .val (.int .i64 0)]) .nil .nil) .nil))))
 (.node 164 (.mk 1 8 false .func [.val .nilFunc]) (.node 157 (.mk 1 8 false .func [.val .nilFunc]) (.node 154 (.mk 1 8 false .func [.val .nilFunc]) (.node 152 (.mk 1 8 false .func [.val .nilFunc]) (.node 151 (.mk 1 8 false .func [.val .nilFunc]) .nil .nil)
 (.node 153 (.mk 1 8 false .func [.val .nilFunc]) .nil .nil))
 (.node 156 (.mk 1 8 false .func [.val .nilFunc]) (.node 155 (.mk 1 24 false (.slice 107) [.val (.slice none 0 0)]) .nil .nil) .nil))
 (.node 161 (.mk 1 8 false .func [.val .nilFunc]) (.node 159 (.mk 1 8 false .func [.val .nilFunc]) (.node 158 (.mk 1 8 false .func [.val .nilFunc]) .nil .nil)
 (.node 160 (.mk 1 8 false .func [.val .nilFunc]) .nil .nil))
 (.node 163 (.mk 1 8 false .func [.val .nilFunc]) (.node 162 (.mk 1 8 false .func [.val .nilFunc]) .nil .nil) .nil)))
 (.node 171 (.mk 1 8 false .func [.val .nilFunc]) (.node 168 (.mk 1 8 false .func [.val .nilFunc]) (.node 166 (.mk 1 8 false .func [.val .nilFunc]) (.node 165 (.mk 1 8 false .func [.val .nilFunc]) .nil .nil)
 (.node 167 (.mk 1 8 false .func [.val .nilFunc]) .nil .nil))
 (.node 170 (.mk 1 8 false .func [.val .nilFunc]) (.node 169 (.mk 1 8 false .func [.val .nilFunc]) .nil .nil) .nil))
 (.node 175 (.mk 1 24 true (.struct [(0, 24)]) [.val (.slice none 0 0)]) (.node 173 (.mk 1 8 false .func [.val .nilFunc]) (.node 172 (.mk 1 8 false .func [.val .nilFunc]) .nil .nil)
 (.node 174 (.mk 1 8 false (.ptr 176) [.val (.pointer none)]) .nil .nil))
 (.node 177 (.mk 1 8 false .func [.val .nilFunc]) (.node 176 (.mk 1 24 true (.struct [(0, 24)]) [.val (.slice none 0 0)]) .nil .nil) .nil)))))
 (.node 208 (.mk 1 8 false .func [.val .nilFunc]) (.node 193 (.mk 1 8 false .func [.val .nilFunc]) (.node 185 (.mk 1 8 false .func [.val .nilFunc]) (.node 182 (.mk 1 8 false .func [.val .nilFunc]) (.node 180 (.mk 1 8 false .func [.val .nilFunc]) (.node 179 (.mk 1 8 false .func [.val .nilFunc]) .nil .nil)
 (.node 181 (.mk 1 8 false (.map 9 4) [.val (.map none)]) .nil .nil))
 (.node 184 (.mk 1 8 false .func [.val .nilFunc]) (.node 183 (.mk 1 8 false .func [.val .nilFunc]) .nil .nil) .nil))
 (.node 190 (.mk 1 8 false .func [.val .nilFunc]) (.node 188 (.mk 1 8 false .func [.val .nilFunc]) (.node 187 (.mk 1 8 false .func [.val .nilFunc]) .nil .nil)
 (.node 189 (.mk 1 8 false .func [.val .nilFunc]) .nil .nil))
 (.node 192 (.mk 1 8 false .func [.val .nilFunc]) (.node 191 (.mk 1 8 false .func [.val .nilFunc]) .nil .nil) .nil)))
 (.node 201 (.mk 1 8 false .func [.val .nilFunc]) (.node 198 (.mk 1 8 false .func [.val .nilFunc]) (.node 195 (.mk 1 8 false (.int .i64) [.val (.int .i64 0)]) (.node 194 (.mk 1 8 false .func [.val .nilFunc]) .nil .nil)
 (.node 197 (.mk 1 8 false .func [.val .nilFunc]) .nil .nil))
 (.node 200 (.mk 1 8 false .func [.val .nilFunc]) (.node 199 (.mk 1 8 false .func [.val .nilFunc]) .nil .nil) .nil))
 (.node 205 (.mk 1 8 false (.int .u64) [.val (.int .u64 0)]) (.node 203 (.mk 1 4 false (.int .u32) [.val (.int .u32 0)]) (.node 202 (.mk 1 8 false .func [.val .nilFunc]) .nil .nil)
 (.node 204 (.mk 1 8 false .func [.val .nilFunc]) .nil .nil))
 (.node 207 (.mk 1 8 false .func [.val .nilFunc]) (.node 206 (.mk 1 8 false .func [.val .nilFunc]) .nil .nil) .nil))))
 (.node 223 (.mk 4 40 true (.struct [(0, 17), (1, 17), (2, 17), (3, 9)]) [.val (.pointer none), .val (.pointer none), .val (.pointer none), .val (.string (⟨#[]⟩))]) (.node 215 (.mk 1 8 false (.ptr 3) [.val (.pointer none)]) (.node 212 (.mk 1 8 false .func [.val .nilFunc]) (.node 210 (.mk 1 8 false .func [.val .nilFunc]) (.node 209 (.mk 1 8 false .func [.val .nilFunc]) .nil .nil)
 (.node 211 (.mk 1 8 false (.int .u64) [.val (.int .u64 0)]) .nil .nil))
 (.node 214 (.mk 1 8 false .func [.val .nilFunc]) (.node 213 (.mk 1 8 false .func [.val .nilFunc]) .nil .nil) .nil))
 (.node 220 (.mk 1 8 false .func [.val .nilFunc]) (.node 217 (.mk 1 8 false .func [.val .nilFunc]) (.node 216 (.mk 1 8 false .func [.val .nilFunc]) .nil .nil)
 (.node 218 (.mk 1 8 false (.ptr 211) [.val (.pointer none)]) .nil .nil))
 (.node 222 (.mk 4 40 true (.struct [(0, 17), (1, 17), (2, 17), (3, 9)]) [.val (.pointer none), .val (.pointer none), .val (.pointer none), .val (.string (⟨#[]⟩))]) (.node 221 (.mk 1 8 false .func [.val .nilFunc]) .nil .nil) .nil)))
 (.node 230 (.mk 1 8 false .func [.val .nilFunc]) (.node 227 (.mk 1 8 false .func [.val .nilFunc]) (.node 225 (.mk 0 0 true (.struct [(0, 224)]) []) (.node 224 (.mk 0 0 true (.array 0 16) []) .nil .nil)
 (.node 226 (.mk 0 0 true (.struct [(0, 224)]) []) .nil .nil))
 (.node 229 (.mk 1 1 false (.int .u8) [.val (.int .u8 0)]) (.node 228 (.mk 1 1 false (.int .u8) [.val (.int .u8 0)]) .nil .nil) .nil))
 (.node 234 (.mk 11 48 true (.struct [(0, 12), (1, 12), (2, 203), (3, 228), (4, 5), (5, 5), (6, 229), (7, 230), (8, 231), (9, 232), (10, 233)]) [.val (.int .u64 0), .val (.int .u64 0), .val (.int .u32 0), .val (.int .u8 0), .val (.int .u8 0), .val (.int .u8 0), .val (.int .u8 0), .val .nilFunc, .val (.pointer none), .val (.int .i32 0), .val (.int .i32 0)]) (.node 232 (.mk 1 4 false (.int .i32) [.val (.int .i32 0)]) (.node 231 (.mk 1 8 false (.ptr 5) [.val (.pointer none)]) .nil .nil)
 (.node 233 (.mk 1 4 false (.int .i32) [.val (.int .i32 0)]) .nil .nil))
 (.node 236 (.mk 1 8 false .other [.val (.pointer none)]) (.node 235 (.mk 11 48 true (.struct [(0, 12), (1, 12), (2, 203), (3, 228), (4, 5), (5, 5), (6, 229), (7, 230), (8, 231), (9, 232), (10, 233)]) [.val (.int .u64 0), .val (.int .u64 0), .val (.int .u32 0), .val (.int .u8 0), .val (.int .u8 0), .val (.int .u8 0), .val (.int .u8 0), .val .nilFunc, .val (.pointer none), .val (.int .i32 0), .val (.int .i32 0)]) .nil .nil) .nil)))))), [7, 8, 22, 23, 30, 31, 32, 33, 37, 38, 50, 51, 65, 66, 68, 69, 71, 72, 75, 76, 87, 88, 91, 92, 99, 100, 101, 102, 106, 107, 111, 112, 113, 114, 115, 116, 119, 120, 121, 122, 147, 148, 175, 176]⟩

theorem tok : TabOk Tryz.prog T := TabOk.of_eq (by kernel_rfl) (by kernel_rfl)

noncomputable def fd (f : Func) : FnD := ⟨f.ntmps, f.body.getD .skip, f.results.toList⟩
noncomputable def F : FTab := .node 90 (fd Tryz.f90) (.node 46 (fd Tryz.f46) (.node 24 (fd Tryz.f24) (.node 13 (fd Tryz.f13) (.node 8 (fd Tryz.f8) (.node 5 (fd Tryz.f5) (.node 4 (fd Tryz.f4) (.node 3 (fd Tryz.f3) .nil .nil) .nil)
 (.node 7 (fd Tryz.f7) (.node 6 (fd Tryz.f6) .nil .nil) .nil))
 (.node 11 (fd Tryz.f11) (.node 10 (fd Tryz.f10) (.node 9 (fd Tryz.f9) .nil .nil) .nil)
 (.node 12 (fd Tryz.f12) .nil .nil)))
 (.node 19 (fd Tryz.f19) (.node 16 (fd Tryz.f16) (.node 15 (fd Tryz.f15) (.node 14 (fd Tryz.f14) .nil .nil) .nil)
 (.node 18 (fd Tryz.f18) (.node 17 (fd Tryz.f17) .nil .nil) .nil))
 (.node 22 (fd Tryz.f22) (.node 21 (fd Tryz.f21) (.node 20 (fd Tryz.f20) .nil .nil) .nil)
 (.node 23 (fd Tryz.f23) .nil .nil))))
 (.node 35 (fd Tryz.f35) (.node 30 (fd Tryz.f30) (.node 27 (fd Tryz.f27) (.node 26 (fd Tryz.f26) (.node 25 (fd Tryz.f25) .nil .nil) .nil)
 (.node 29 (fd Tryz.f29) (.node 28 (fd Tryz.f28) .nil .nil) .nil))
 (.node 33 (fd Tryz.f33) (.node 32 (fd Tryz.f32) (.node 31 (fd Tryz.f31) .nil .nil) .nil)
 (.node 34 (fd Tryz.f34) .nil .nil)))
 (.node 41 (fd Tryz.f41) (.node 38 (fd Tryz.f38) (.node 37 (fd Tryz.f37) (.node 36 (fd Tryz.f36) .nil .nil) .nil)
 (.node 40 (fd Tryz.f40) (.node 39 (fd Tryz.f39) .nil .nil) .nil))
 (.node 44 (fd Tryz.f44) (.node 43 (fd Tryz.f43) (.node 42 (fd Tryz.f42) .nil .nil) .nil)
 (.node 45 (fd Tryz.f45) .nil .nil)))))
 (.node 68 (fd Tryz.f68) (.node 57 (fd Tryz.f57) (.node 52 (fd Tryz.f52) (.node 49 (fd Tryz.f49) (.node 48 (fd Tryz.f48) (.node 47 (fd Tryz.f47) .nil .nil) .nil)
 (.node 51 (fd Tryz.f51) (.node 50 (fd Tryz.f50) .nil .nil) .nil))
 (.node 55 (fd Tryz.f55) (.node 54 (fd Tryz.f54) (.node 53 (fd Tryz.f53) .nil .nil) .nil)
 (.node 56 (fd Tryz.f56) .nil .nil)))
 (.node 63 (fd Tryz.f63) (.node 60 (fd Tryz.f60) (.node 59 (fd Tryz.f59) (.node 58 (fd Tryz.f58) .nil .nil) .nil)
 (.node 62 (fd Tryz.f62) (.node 61 (fd Tryz.f61) .nil .nil) .nil))
 (.node 66 (fd Tryz.f66) (.node 65 (fd Tryz.f65) (.node 64 (fd Tryz.f64) .nil .nil) .nil)
 (.node 67 (fd Tryz.f67) .nil .nil))))
 (.node 79 (fd Tryz.f79) (.node 74 (fd Tryz.f74) (.node 71 (fd Tryz.f71) (.node 70 (fd Tryz.f70) (.node 69 (fd Tryz.f69) .nil .nil) .nil)
 (.node 73 (fd Tryz.f73) (.node 72 (fd Tryz.f72) .nil .nil) .nil))
 (.node 77 (fd Tryz.f77) (.node 76 (fd Tryz.f76) (.node 75 (fd Tryz.f75) .nil .nil) .nil)
 (.node 78 (fd Tryz.f78) .nil .nil)))
 (.node 85 (fd Tryz.f85) (.node 82 (fd Tryz.f82) (.node 81 (fd Tryz.f81) (.node 80 (fd Tryz.f80) .nil .nil) .nil)
 (.node 84 (fd Tryz.f84) (.node 83 (fd Tryz.f83) .nil .nil) .nil))
 (.node 88 (fd Tryz.f88) (.node 87 (fd Tryz.f87) (.node 86 (fd Tryz.f86) .nil .nil) .nil)
 (.node 89 (fd Tryz.f89) .nil .nil))))))
 (.node 134 (fd Tryz.f134) (.node 112 (fd Tryz.f112) (.node 101 (fd Tryz.f101) (.node 96 (fd Tryz.f96) (.node 93 (fd Tryz.f93) (.node 92 (fd Tryz.f92) (.node 91 (fd Tryz.f91) .nil .nil) .nil)
 (.node 95 (fd Tryz.f95) (.node 94 (fd Tryz.f94) .nil .nil) .nil))
 (.node 99 (fd Tryz.f99) (.node 98 (fd Tryz.f98) (.node 97 (fd Tryz.f97) .nil .nil) .nil)
 (.node 100 (fd Tryz.f100) .nil .nil)))
 (.node 107 (fd Tryz.f107) (.node 104 (fd Tryz.f104) (.node 103 (fd Tryz.f103) (.node 102 (fd Tryz.f102) .nil .nil) .nil)
 (.node 106 (fd Tryz.f106) (.node 105 (fd Tryz.f105) .nil .nil) .nil))
 (.node 110 (fd Tryz.f110) (.node 109 (fd Tryz.f109) (.node 108 (fd Tryz.f108) .nil .nil) .nil)
 (.node 111 (fd Tryz.f111) .nil .nil))))
 (.node 123 (fd Tryz.f123) (.node 118 (fd Tryz.f118) (.node 115 (fd Tryz.f115) (.node 114 (fd Tryz.f114) (.node 113 (fd Tryz.f113) .nil .nil) .nil)
 (.node 117 (fd Tryz.f117) (.node 116 (fd Tryz.f116) .nil .nil) .nil))
 (.node 121 (fd Tryz.f121) (.node 120 (fd Tryz.f120) (.node 119 (fd Tryz.f119) .nil .nil) .nil)
 (.node 122 (fd Tryz.f122) .nil .nil)))
 (.node 129 (fd Tryz.f129) (.node 126 (fd Tryz.f126) (.node 125 (fd Tryz.f125) (.node 124 (fd Tryz.f124) .nil .nil) .nil)
 (.node 128 (fd Tryz.f128) (.node 127 (fd Tryz.f127) .nil .nil) .nil))
 (.node 132 (fd Tryz.f132) (.node 131 (fd Tryz.f131) (.node 130 (fd Tryz.f130) .nil .nil) .nil)
 (.node 133 (fd Tryz.f133) .nil .nil)))))
 (.node 156 (fd Tryz.f156) (.node 145 (fd Tryz.f145) (.node 140 (fd Tryz.f140) (.node 137 (fd Tryz.f137) (.node 136 (fd Tryz.f136) (.node 135 (fd Tryz.f135) .nil .nil) .nil)
 (.node 139 (fd Tryz.f139) (.node 138 (fd Tryz.f138) .nil .nil) .nil))
 (.node 143 (fd Tryz.f143) (.node 142 (fd Tryz.f142) (.node 141 (fd Tryz.f141) .nil .nil) .nil)
 (.node 144 (fd Tryz.f144) .nil .nil)))
 (.node 151 (fd Tryz.f151) (.node 148 (fd Tryz.f148) (.node 147 (fd Tryz.f147) (.node 146 (fd Tryz.f146) .nil .nil) .nil)
 (.node 150 (fd Tryz.f150) (.node 149 (fd Tryz.f149) .nil .nil) .nil))
 (.node 154 (fd Tryz.f154) (.node 153 (fd Tryz.f153) (.node 152 (fd Tryz.f152) .nil .nil) .nil)
 (.node 155 (fd Tryz.f155) .nil .nil))))
 (.node 167 (fd Tryz.f167) (.node 162 (fd Tryz.f162) (.node 159 (fd Tryz.f159) (.node 158 (fd Tryz.f158) (.node 157 (fd Tryz.f157) .nil .nil) .nil)
 (.node 161 (fd Tryz.f161) (.node 160 (fd Tryz.f160) .nil .nil) .nil))
 (.node 165 (fd Tryz.f165) (.node 164 (fd Tryz.f164) (.node 163 (fd Tryz.f163) .nil .nil) .nil)
 (.node 166 (fd Tryz.f166) .nil .nil)))
 (.node 172 (fd Tryz.f172) (.node 170 (fd Tryz.f170) (.node 169 (fd Tryz.f169) (.node 168 (fd Tryz.f168) .nil .nil) .nil)
 (.node 171 (fd Tryz.f171) .nil .nil))
 (.node 175 (fd Tryz.f175) (.node 174 (fd Tryz.f174) (.node 173 (fd Tryz.f173) .nil .nil) .nil)
 (.node 176 (fd Tryz.f176) .nil .nil))))))
theorem fok : FTabOk Tryz.prog F := FTabOk.of_eq (by kernel_rfl)
theorem mixed : Tryz.prog.follows .mixedOrders = true := by kernel_rfl

end Go.Proofs.YtpnghlibmpainaaGreat.Cw

/-
  Data of the program, as_ lists of cells.
-/
namespace Go.Proofs.YtpnghlibmpainaaGreat.Cw
open Go.Cw Go.Proofs
set_option linter.unusedVariables false

abbrev Str := ByteArray
def ei (n : Int) : PV := .val (.int .i64 n)
def es (s : Str) : PV := .val (.string s)
def encStrs (l : List Str) : PV := .sl 1 (l.map fun s => [es s])
def encInts (l : List Int) : PV := .sl 1 (l.map fun x => [ei x])

structure Time where
  (weeks day start len : Int)
def Time.row (t : Time) : List PV := [ei t.weeks, ei t.day, ei t.start, ei t.len]
def encTimes (l : List Time) : PV := .sl 4 (l.map Time.row)

structure Grid where
  (days slots begin_ mins : Int)
def Grid.row (g : Grid) : List PV := [ei g.days, ei g.slots, ei g.begin_, ei g.mins]

structure Room where
  (code bld : Str)
  (seats : Int)
  (feats : List Str)
  (closed : List Time)
def Room.row (r : Room) : List PV := [es r.code, es r.bld, ei r.seats, encStrs r.feats, encTimes r.closed]
def encRooms (l : List Room) : PV := .sl 5 (l.map Room.row)

structure Exam where
  (code : Str)
  (len : Int)
  (feats studs : List Str)
def Exam.row (e : Exam) : List PV := [es e.code, ei e.len, encStrs e.feats, encStrs e.studs]
structure Sitting where
  (day start len cost : Int)
def Sitting.row (s : Sitting) : List PV := [ei s.day, ei s.start, ei s.len, ei s.cost]
structure Gaps where
  (row day near days mixed : Int)
structure Exams where
  (rooms : List Room)
  (exams : List Exam)
  (sits : List Sitting)
  (gaps : Gaps)
def Exams.cells (x : Exams) : List PV := [encRooms x.rooms, .sl 4 (x.exams.map Exam.row), .sl 4 (x.sits.map Sitting.row), ei x.gaps.row, ei x.gaps.day, ei x.gaps.near, ei x.gaps.days, ei x.gaps.mixed]
/-! Registries. -/
structure Term where
  (first weeks : Int)
  (hols : List Int)
def Term.row (t : Term) : List PV := [ei t.first, ei t.weeks, encInts t.hols]
structure Travel where
  (blds : List Str)
  (slots : List (List Int))
def intsRow (l : List Int) : List PV := [encInts l]
def Travel.row (t : Travel) : List PV := [encStrs t.blds, .sl 1 (t.slots.map intsRow)]
structure Lecturer where
  (code : Str)
  (away : List Time)
def Lecturer.row (l : Lecturer) : List PV := [es l.code, encTimes l.away]
structure Start where
  (day slot : Int)
def Start.row (s : Start) : List PV := [ei s.day, ei s.slot]
structure Class where
  (code course part : Str)
  (len : Int)
  (pats : List Int)
  (seats : Int)
  (feats staff : List Str)
  (starts : List Start)
def Class.row (c : Class) : List PV := [es c.code, es c.course, es c.part, ei c.len, encInts c.pats, ei c.seats, encStrs c.feats, encStrs c.staff, .sl 2 (c.starts.map Start.row)]
structure Curri where
  (code : Str)
  (courses : List Str)
def Curri.row (c : Curri) : List PV := [es c.code, encStrs c.courses]
structure Req where
  (student course : Str)
  (prio : Int)
  (instead : List Str)
def Req.row (r : Req) : List PV := [es r.student, es r.course, ei r.prio, encStrs r.instead]
structure Reg where
  (grid : Grid)
  (term : Term)
  (rooms : List Room)
  (travel : Travel)
  (staff : List Lecturer)
  (classes : List Class)
  (curris : List Curri)
  (reqs : List Req)
def Reg.cells (r : Reg) : List PV := [ei r.grid.days, ei r.grid.slots, ei r.grid.begin_, ei r.grid.mins, ei r.term.first, ei r.term.weeks, encInts r.term.hols, encRooms r.rooms, encStrs r.travel.blds, .sl 1 (r.travel.slots.map intsRow),
  .sl 2 (r.staff.map Lecturer.row), .sl 9 (r.classes.map Class.row), .sl 2 (r.curris.map Curri.row), .sl 4 (r.reqs.map Req.row)]
abbrev ag (l : List PV) : AV := .agg (pvs l)
end Go.Proofs.YtpnghlibmpainaaGreat.Cw

/-
  Words for what functions answer.
-/
namespace Go.Proofs.YtpnghlibmpainaaGreat.Cw
open Go.Cw Go.Proofs
set_option linter.unusedVariables false

noncomputable abbrev pB (p : Prop) : Bool := @decide p (Classical.propDecidable p)
theorem pB_t {p : Prop} (h : p) : pB p = true := by simp [h]
theorem pB_f {p : Prop} (h : ¬ p) : pB p = false := by simp [h]
theorem pB_iff {p q : Prop} (h : p ↔ q) : pB p = pB q := by simp [h]
theorem pB_eq {p : Prop} {b : Bool} (h : b = true ↔ p) : b = pB p := by
  cases b <;> simp at h <;> simp [h]

/-- The first answer that is not 0. -/
def firstE (f : Nat → Int) : Nat → Int
  | 0 => 0
  | n + 1 => if firstE f n = 0 then f n else firstE f n

theorem firstE_zero {f : Nat → Int} : ∀ {n : Nat}, (∀ i, i < n → f i = 0) → firstE f n = 0
  | 0, _ => rfl
  | n + 1, h => by simp [firstE, firstE_zero (n := n) fun i hi => h i (by omega), h n (by omega)]

theorem firstE_at {f : Nat → Int} {i : Nat} (h0 : ∀ j, j < i → f j = 0) (hi : f i ≠ 0) : ∀ {n : Nat}, i < n → firstE f n = f i
  | 0, h => by omega
  | n + 1, h => by
    rcases Nat.lt_or_ge i n with h1 | h1
    · rw [firstE, firstE_at h0 hi h1, if_neg hi]
    · have : i = n := by omega
      subst this
      rw [firstE, firstE_zero h0, if_pos rfl]

theorem firstE_zero_iff {f : Nat → Int} : ∀ {n : Nat}, firstE f n = 0 ↔ ∀ i, i < n → f i = 0
  | 0 => by simp [firstE]
  | n + 1 => by
    refine ⟨fun h i hi => ?_, firstE_zero⟩
    simp only [firstE] at h
    split at h
    · rename_i h0
      rcases Nat.lt_or_ge i n with h1 | h1
      · exact firstE_zero_iff.1 h0 i h1
      · have : i = n := by omega
        subst this; exact h
    · rename_i h0; exact absurd h h0

theorem all_lt_succ {p : Nat → Prop} {i : Nat} (h : ∀ j, j < i → p j) (hi : p i) : ∀ j, j < i + 1 → p j := fun j hj => by
  rcases Nat.lt_or_ge j i with h1 | h1
  · exact h j h1
  · have : j = i := by omega
    subst this; exact hi

theorem str_at {s : Str} {i : Nat} (h : i < s.size) : ∃ b, s[i]? = some b := ⟨_, by rw [ByteArray.getElem?_lt' s _ h]⟩
theorem sEq_iff {x y : Str} : sEq x y = true ↔ x = y := by
  unfold sEq bts
  rw [beq_iff_eq, Array.toList_inj]
  exact ⟨fun h => ByteArray.ext h, fun h => by rw [h]⟩
theorem sEq_f {x y : Str} : sEq x y = false ↔ x ≠ y := by
  rw [← Bool.not_eq_true, sEq_iff]
theorem mulw {a b : Int} (ha : 0 ≤ a ∧ a ≤ 1000000) (hb : 0 ≤ b ∧ b ≤ 1000000) : 0 ≤ a * b ∧ a * b ≤ 1000000000000 :=
  ⟨Int.mul_nonneg ha.1 hb.1, Int.le_trans (Int.mul_le_mul ha.2 hb.2 hb.1 (by omega)) (by omega)⟩
theorem eqv_mul {a b : Int} {K : Int → Prop} (ha : 0 ≤ a ∧ a ≤ 1000000) (hb : 0 ≤ b ∧ b ≤ 1000000) (h : 0 ≤ a * b → a * b ≤ 1000000000000 → K (a * b)) : eqv (IntKind.i64.wrap (a * b)) K :=
  eqv_wrap (by have := mulw ha hb; omega) (by have := mulw ha hb; omega) (h (mulw ha hb).1 (mulw ha hb).2)

theorem pow2_pos (n : Nat) : (1 : Int) ≤ 2 ^ n := by
  induction n with
  | zero => simp
  | succ n ih => rw [Int.pow_succ]; omega
theorem pow2_le {n : Nat} (h : n ≤ 40) : (2 : Int) ^ n ≤ 1099511627776 := by
  have h1 : (2 : Nat) ^ n ≤ 2 ^ 40 := Nat.pow_le_pow_right (by omega) h
  have h2 : ((2 ^ n : Nat) : Int) = (2 : Int) ^ n := by simp
  have h3 : (2 : Nat) ^ 40 = 1099511627776 := by decide
  omega
theorem eqv_shl {n : Int} {K : Int → Prop} (h : 0 ≤ n ∧ n ≤ 40) (hk : K (2 ^ n.toNat)) : eqv (IntKind.i64.wrap (1 * 2 ^ (min n.toNat IntKind.i64.bits))) K := by
  have e : min n.toNat IntKind.i64.bits = n.toNat := by simp [IntKind.bits]; omega
  rw [e, Int.one_mul]
  have h1 := pow2_pos n.toNat
  have h2 := pow2_le (n := n.toNat) (by omega)
  exact eqv_wrap (by omega) (by omega) hk
theorem eqv_u8 {x : Int} {K : Int → Prop} (h1 : 0 ≤ x) (h2 : x < 256) (h : K x) : eqv (IntKind.u8.wrap x) K :=
  ⟨x, by simp only [IntKind.wrap, IntKind.bits, IntKind.signed]; first | omega | (simp; omega), h⟩
/-- Where the first one is; -1: nowhere. -/
def idxB {α : Type} (p : α → Bool) (l : List α) : Int := match l.findIdx? p with
  | some i => i
  | none => -1

theorem idxB_at {α : Type} {p : α → Bool} {l : List α} {i : Nat} {x : α} (h0 : ∀ j, j < i → ∀ y, l[j]? = some y → p y = false) (hx : l[i]? = some x) (hp : p x = true) : idxB p l = i := by
  have hi := (List.getElem?_eq_some_iff.1 hx).1
  have : l.findIdx? p = some i := by
    rw [List.findIdx?_eq_some_iff_getElem]
    refine ⟨hi, ?_, fun j hj => ?_⟩
    · rw [(List.getElem?_eq_some_iff.1 hx).2]; exact hp
    · have := h0 j hj l[j] (List.getElem?_eq_getElem (by omega))
      simp [this]
  simp [idxB, this]
theorem idxB_none {α : Type} {p : α → Bool} {l : List α} (h : ∀ j, j < l.length → ∀ y, l[j]? = some y → p y = false) : idxB p l = -1 := by
  have : l.findIdx? p = none := by
    rw [List.findIdx?_eq_none_iff]
    intro x hx
    obtain ⟨i, hi, rfl⟩ := List.getElem_of_mem hx
    exact h i hi _ (List.getElem?_eq_getElem hi)
  simp [idxB, this]
theorem idxB_any {α : Type} {p : α → Bool} {l : List α} : decide (idxB p l ≥ 0) = l.any p := by
  unfold idxB
  split
  · rename_i i hi
    have := List.findIdx?_eq_some_iff_getElem.1 hi
    obtain ⟨h1, h2, _⟩ := this
    rw [List.any_eq_true.2 ⟨_, List.getElem_mem h1, h2⟩]
    simp
  · rename_i hi
    rw [List.findIdx?_eq_none_iff] at hi
    have : l.any p = false := List.any_eq_false.2 fun x hx => by simp [hi x hx]
    rw [this]; rfl
end Go.Proofs.YtpnghlibmpainaaGreat.Cw

/-
  Contracts: dice.
-/
namespace Go.Proofs.YtpnghlibmpainaaGreat.Cw
open Go.Cw Go.Proofs
set_option linter.unusedVariables false
set_option maxRecDepth 100000

def modI (a m : Int) : Int := if m < 1 then 0 else a % m

theorem tmod_mod {a m : Int} (h : 1 ≤ m) : (if a.tmod m < 0 then a.tmod m + m else a.tmod m) = a % m := by
  rw [Int.tmod_eq_emod]
  have h1 := Int.emod_nonneg a (show m ≠ 0 by omega)
  have h2 := Int.emod_lt_of_pos a (show 0 < m by omega)
  split
  · simp only [Int.ofNat_zero, Int.sub_zero]; rw [if_neg (by omega)]
  · rename_i h3
    have : (m.natAbs : Int) = m := by omega
    rw [this, if_pos (by omega)]; omega

theorem c_mod (a m : Int) (hm : m ≤ 9223372036854775807) : PCall Tryz.prog 14 [vint .i64 a, vint .i64 m] (fun r => r = vint .i64 (modI a m)) := by
  refine acall_of tok mixed 16 rfl (fn := Tryz.f14) (c := Tryz.f14.body.getD .skip) (by kernel_rfl) (by kernel_rfl) (by kernel_rfl) rfl 0 rfl ?_
  repeat' (first | refine o1 ?_ | refine o2 ?_ | refine k1 ?_ | refine k2 ?_ | refine k3 ?_ | refine k6 ?_ | refine k7 ?_ | refine And.intro ?_ ?_ | (intro h; first | exact Bool.noConfusion h | exact nz _ h | exact nl h | (simp at h; done) | (simp at h; first | (exfalso; omega) | skip) | skip) | (change retOk _ _ _ _; refine ret_pure rfl trivial ?_) | fail)
  case' refine_2.refine_2 =>
    have ht := tmod_mod (a := a) (m := m) (by omega)
    have h1 := Int.emod_nonneg a (show m ≠ 0 by omega)
    have h2 := Int.emod_lt_of_pos a (show 0 < m by omega)
    refine eqv_rfl ?_
    generalize a.tmod m = q at *
    have hq : q < 0 → q + m = a % m := fun h => by rw [if_pos h] at ht; exact ht
    repeat' (first | refine o1 ?_ | refine o2 ?_ | refine k1 ?_ | refine k2 ?_ | refine k3 ?_ | refine k6 ?_ | refine k7 ?_ | refine And.intro ?_ ?_ | (intro h; first | exact Bool.noConfusion h | exact nz _ h | exact nl h | (simp at h; done) | (simp at h; first | (exfalso; omega) | skip) | skip) | (change retOk _ _ _ _; refine ret_pure rfl trivial ?_) | refine eqv_wrap (by omega) (by omega) ?_ | fail)
  all_goals first
    | (exfalso; omega)
    | (refine congrArg (vint .i64) ?_; unfold modI; rw [if_neg (by omega)]; exact hq (by assumption))
    | (refine congrArg (vint .i64) ?_; unfold modI; rw [if_neg (by omega), ← ht, if_neg (by omega)])
    | (refine congrArg (vint .i64) ?_; unfold modI; rw [if_pos (by omega)])

def dice (t : List Int) (k : Nat) : Option AObj := some ⟨92, 2, false, .box [.pv (encInts t), vint .i64 k]⟩
def nextV (t : List Int) (k : Nat) (n : Int) : Int := match t[k]? with
  | some x => modI x n
  | none => 0
def nextK (t : List Int) (k : Nat) : Nat := if k < t.length then k + 1 else k

theorem nextV_range (t : List Int) (k : Nat) {n : Int} (h : 1 ≤ n) : 0 ≤ nextV t k n ∧ nextV t k n < n := by
  unfold nextV
  split
  · unfold modI; rw [if_neg (by omega)]; exact ⟨Int.emod_nonneg _ (by omega), Int.emod_lt_of_pos _ (by omega)⟩
  · omega

theorem c_next (t : List Int) (k : Nat) (n : Int) (ht : t.length ≤ 400) (hk : k ≤ t.length) (hn : n ≤ 9223372036854775807) :
    ACall Tryz.prog 28 [.ptr 0 2 0 0, vint .i64 n] [dice t k] (fun r H' => r = vint .i64 (nextV t k n) ∧ H' = [dice t (nextK t k)]) := by
  refine acall_of tok mixed 35 rfl (fn := Tryz.f28) (c := Tryz.f28.body.getD .skip) (by kernel_rfl) (by kernel_rfl) (by kernel_rfl) rfl 1 rfl ?_
  repeat' (first | refine o1 ?_ | refine o2 ?_ | refine k1 ?_ | refine k2 ?_ | refine k3 ?_ | refine k6 ?_ | refine k7 ?_ | refine And.intro ?_ ?_ | refine o3 ?_ | refine o4 ?_ | (intro h; first | exact Bool.noConfusion h | exact nz _ h | exact nl h | (simp at h; done) | (simp at h; first | (exfalso; omega) | skip) | skip) | exact (by kernel_rfl : drawOk _ _ = true) | refine eqv_len_map ?_ | refine eqv_wrap (by omega) (by omega) ?_ | fail)
  case' refine_1 =>
    refine ret_obj [0] [dice t (nextK t k)] rfl rfl ⟨(by rw [nextK, if_neg (by omega)]; rfl), trivial⟩ (r' := vint .i64 0) rfl ⟨?_, rfl⟩
    simp [nextV, List.getElem?_eq_none h]
  case' refine_2 =>
    obtain ⟨x, hx⟩ := getE h
    repeat' (first | refine o3 ?_ | refine idx_sl (at_map (by assumption)) (by omega) ?_ | fail)
    change vcFunD _ _ _ _ _
    refine callD_eq rfl (by repeat' (first | trivial)) ALeL.refl (c_mod x n hn) rfl ?_
    repeat' (first | refine k7 ?_ | refine And.intro ?_ ?_ | refine o3 ?_ | refine o4 ?_ | exact (by kernel_rfl : drawOk _ _ = true) | fail)
    refine ret_obj [0] [dice t (nextK t k)] rfl rfl ⟨(by rw [nextK, if_pos h]; rfl), trivial⟩ (r' := vint .i64 (modI x n)) rfl ⟨?_, rfl⟩
    simp [nextV, hx]

theorem c_one (t : List Int) (k : Nat) (n : Int) (ht : t.length ≤ 400) (hk : k ≤ t.length) (hn : n ≤ 9223372036854775807) (hn1 : 1 ≤ n) :
    ACall Tryz.prog 36 [.ptr 0 2 0 0, vint .i64 n] [dice t k] (fun r H' => r = vbool (decide (nextV t k n = n - 1)) ∧ H' = [dice t (nextK t k)]) := by
  refine acall_of tok mixed 11 rfl (fn := Tryz.f36) (c := Tryz.f36.body.getD .skip) (by kernel_rfl) (by kernel_rfl) (by kernel_rfl) rfl 1 rfl ?_
  repeat' (first | refine o1 ?_ | refine o2 ?_ | refine k1 ?_ | refine k2 ?_ | fail)
  change vcFun _ _ _ _ _
  refine call_obj [0] [dice t k] [.ptr 0 2 0 0, vint .i64 n] rfl ⟨rfl, trivial⟩ rfl (c_next t k n ht hk hn) ?_
  rintro r H' ⟨rfl, rfl⟩
  repeat' (first | refine o1 ?_ | refine o2 ?_ | refine k7 ?_ | refine And.intro ?_ ?_ | exact Nat.le_of_ble_eq_true rfl | refine eqv_wrap (by omega) (by omega) ?_ | fail)
  refine ret_obj [0] [dice t (nextK t k)] rfl rfl ⟨rfl, trivial⟩ (r' := vbool (decide (nextV t k n = n - 1))) rfl ⟨rfl, rfl⟩

def Nxt (t : List Int) (k : Nat) (n v : Int) (k2 : Nat) : Prop := ACall Tryz.prog 28 [.ptr 0 2 0 0, vint .i64 n] [dice t k] (fun r H' => r = vint .i64 v ∧ H' = [dice t k2])
theorem nextK_le {t : List Int} {k : Nat} (h : k ≤ t.length) : nextK t k ≤ t.length := by unfold nextK; split <;> omega

theorem next_ex (t : List Int) (k : Nat) (n : Int) (ht : t.length ≤ 400) (hk : k ≤ t.length) (hn : n ≤ 9223372036854775807) (h1 : 1 ≤ n) :
    ∃ v k2, 0 ≤ v ∧ v < n ∧ k2 ≤ t.length ∧ Nxt t k n v k2 :=
  ⟨_, _, (nextV_range t k h1).1, (nextV_range t k h1).2, nextK_le hk, c_next t k n ht hk hn⟩

def One (t : List Int) (k : Nat) (n : Int) (b : Bool) (k2 : Nat) : Prop := ACall Tryz.prog 36 [.ptr 0 2 0 0, vint .i64 n] [dice t k] (fun r H' => r = vbool b ∧ H' = [dice t k2])
theorem one_ex (t : List Int) (k : Nat) (n : Int) (ht : t.length ≤ 400) (hk : k ≤ t.length) (hn : n ≤ 9223372036854775807) (h1 : 1 ≤ n) :
    ∃ b k2, k2 ≤ t.length ∧ One t k n b k2 :=
  ⟨_, _, nextK_le hk, c_one t k n ht hk hn h1⟩
theorem c_roll (t : List Int) : ACall Tryz.prog 11 [.pv (encInts t)] [] (fun r H' => r = .ptr 0 2 0 0 ∧ H' = [dice t 0]) := by
  refine acall_of tok mixed 6 rfl (fn := Tryz.f11) (c := Tryz.f11.body.getD .skip) (by kernel_rfl) (by kernel_rfl) (by kernel_rfl) rfl 0 rfl ?_
  repeat' (first | refine o1 ?_ | refine o2 ?_ | refine k1 ?_ | refine k2 ?_ | refine k7 ?_ | fail)
  refine ret_obj [0] [dice t 0] rfl rfl ⟨rfl, trivial⟩ (r' := .ptr 0 2 0 0) rfl ⟨rfl, rfl⟩

theorem c_light (t : List Int) : PCall Tryz.prog 8 [.pv (encInts t)] (fun r => r = vbool (decide (t.length ≤ 400))) := by
  refine acall_of tok mixed 6 rfl (fn := Tryz.f8) (c := Tryz.f8.body.getD .skip) (by kernel_rfl) (by kernel_rfl) (by kernel_rfl) rfl 0 rfl ?_
  repeat' (first | refine o1 ?_ | refine o2 ?_ | refine k1 ?_ | refine k2 ?_ | refine k7 ?_ | (change retOk _ _ _ _; refine ret_pure rfl trivial ?_) | refine eqv_len_map ?_ | fail)
  refine congrArg vbool ?_
  simp; omega

end Go.Proofs.YtpnghlibmpainaaGreat.Cw

/-
  Slices that grow; results that are read.
-/
namespace Go.Proofs.YtpnghlibmpainaaGreat.Cw
open Go.Cw Go.Proofs
set_option linter.unusedVariables false
theorem app_cons {r x : List PV} {rs : List (List PV)} {K : Go.Cw.Rows → Nat → Prop} (h : K (.p (r :: (rs ++ [x]))) ((rs ++ [x]).length + 1)) : eqv (Go.Cw.Rows.p (List.drop 0 (r :: rs) ++ List.take 1 (List.drop 0 [x]))) fun rr => eqv (rowsLen rr) (K rr) :=
  ⟨_, rfl, _, by simp [rowsLen], h⟩
theorem app_consm {α : Type} {f : α → List PV} {e0 : α} (e : α) {l : List α} {x : List PV} (hx : x = f e) {K : Go.Cw.Rows → Nat → Prop} (h : K (.p (f e0 :: (l ++ [e]).map f)) (((l ++ [e]).map f).length + 1)) : eqv (Go.Cw.Rows.p (List.drop 0 (f e0 :: l.map f) ++ List.take 1 (List.drop 0 [x]))) fun rr => eqv (rowsLen rr) (K rr) :=
  ⟨_, by simp [hx], _, by simp [rowsLen], h⟩
def nilA : AV := .pv (.val (.slice none 0 0))
/-- A slice of pure rows that grows by append: nil, or the whole of an object. -/
def slP (id z : Nat) : List (List PV) → AV
  | [] => nilA
  | r :: l => .ms id z 0 (r :: l).length
def obP (ty z : Nat) : List (List PV) → Option AObj
  | [] => none
  | r :: l => some ⟨ty, z, false, .p (r :: l)⟩
/-- ALe, not looked into. -/
structure Leq (r x : AV) : Prop where
  le : ALe r x
theorem whole_le {α : Type} {f : α → List PV} {z n : Nat} {l : List α} (h : l.length ≤ n) : PLe (.sl z (List.take n (List.drop 0 (l.map f)))) (.sl z (l.map f)) := by
  rw [List.drop_zero, List.take_of_length_le (by simpa using h)]
  exact PLe.refl
end Go.Proofs.YtpnghlibmpainaaGreat.Cw

/-
  Dice: calls in walks.
-/
namespace Go.Proofs.YtpnghlibmpainaaGreat.Cw
open Go.Cw Go.Proofs
set_option linter.unusedVariables false
set_option maxRecDepth 100000

section
variable {t : List Int} {k : Nat} {n : Int} {H : Heap} (i : Nat)
theorem call_next {K : AV → Heap → Prop} (hi : H[i]? = some (dice t k)) (ht : t.length ≤ 400) (hk : k ≤ t.length) (h1 : 1 ≤ n) (hn : n ≤ 9223372036854775807)
    (hK : ∀ v k2, 0 ≤ v → v < n → k2 ≤ t.length → K (vint .i64 v) (H.set i (dice t k2))) : vcFun Tryz.prog 28 [.ptr i 2 0 0, vint .i64 n] H K := by
  obtain ⟨v, k2, a, b, c, hn⟩ := next_ex t k n ht hk hn h1
  refine call_one (i := i) hi (fun _ _ => rfl) [.ptr 0 2 0 0, vint .i64 n] rfl hn ?_
  rintro r H' ⟨rfl, rfl⟩
  exact ⟨_, rfl, fun _ _ => rfl, fun _ _ => rfl, hK v k2 a b c⟩
theorem call_one2 {K : AV → Heap → Prop} (hi : H[i]? = some (dice t k)) (ht : t.length ≤ 400) (hk : k ≤ t.length) (h1 : 1 ≤ n) (hn : n ≤ 9223372036854775807)
    (hK : ∀ b k2, k2 ≤ t.length → K (vbool b) (H.set i (dice t k2))) : vcFun Tryz.prog 36 [.ptr i 2 0 0, vint .i64 n] H K := by
  obtain ⟨v, k2, c, hn⟩ := one_ex t k n ht hk hn h1
  refine call_one (i := i) hi (fun _ _ => rfl) [.ptr 0 2 0 0, vint .i64 n] rfl hn ?_
  rintro r H' ⟨rfl, rfl⟩
  exact ⟨_, rfl, fun _ _ => rfl, fun _ _ => rfl, hK v k2 c⟩
theorem callD_next {K : AV → Upd → List Nat → Prop} (hi : H[i]? = some (dice t k)) (ht : t.length ≤ 400) (hk : k ≤ t.length) (h1 : 1 ≤ n) (hn : n ≤ 9223372036854775807)
    (hK : ∀ v k2, 0 ≤ v → v < n → k2 ≤ t.length → K (vint .i64 v) [(i, dice t k2)] [i]) : vcFunD Tryz.prog 28 [.ptr i 2 0 0, vint .i64 n] H K := by
  obtain ⟨v, k2, a, b, c, hn⟩ := next_ex t k n ht hk hn h1
  exact callD_one (i := i) hi (fun _ _ => rfl) [.ptr 0 2 0 0, vint .i64 n] rfl hn (fun _ _ => rfl) (fun _ _ => rfl) (hK v k2 a b c)
theorem callD_one2 {K : AV → Upd → List Nat → Prop} (hi : H[i]? = some (dice t k)) (ht : t.length ≤ 400) (hk : k ≤ t.length) (h1 : 1 ≤ n) (hn : n ≤ 9223372036854775807)
    (hK : ∀ b k2, k2 ≤ t.length → K (vbool b) [(i, dice t k2)] [i]) : vcFunD Tryz.prog 36 [.ptr i 2 0 0, vint .i64 n] H K := by
  obtain ⟨v, k2, c, hn⟩ := one_ex t k n ht hk hn h1
  exact callD_one (i := i) hi (fun _ _ => rfl) [.ptr 0 2 0 0, vint .i64 n] rfl hn (fun _ _ => rfl) (fun _ _ => rfl) (hK v k2 c)
end

end Go.Proofs.YtpnghlibmpainaaGreat.Cw

/-
  Models: their data, and what a valid one is.
-/
namespace Go.Proofs.YtpnghlibmpainaaGreat.Cw
open Go.Cw Go.Proofs
set_option linter.unusedVariables false
set_option maxRecDepth 100000

structure Placed where
  (time : Time)
  (room : Int)
def Placed.row (p : Placed) : List PV := [ei p.time.weeks, ei p.time.day, ei p.time.start, ei p.time.len, ei p.room]
structure Charge where
  (rule cost : Int)
def Charge.row (c : Charge) : List PV := [ei c.rule, ei c.cost]
structure Opt where
  (place : Placed)
  (charges : List Charge)
def Opt.row (o : Opt) : List PV := [ei o.place.time.weeks, ei o.place.time.day, ei o.place.time.start, ei o.place.time.len, ei o.place.room, .sl 2 (o.charges.map Charge.row)]
structure Pair where
  (first second rule : Int)
  (table : List Int)
def Pair.row (p : Pair) : List PV := [ei p.first, ei p.second, ei p.rule, encInts p.table]
structure Load where
  (cls opt weight : Int)
def Load.row (l : Load) : List PV := [ei l.cls, ei l.opt, ei l.weight]
structure Count where
  (rule : Int)
  (loads : List Load)
  (most penalty : Int)
def Count.row (c : Count) : List PV := [ei c.rule, .sl 3 (c.loads.map Load.row), ei c.most, ei c.penalty]
structure Model where
  (classes : List (List Opt))
  (pairs : List Pair)
  (counts : List Count)
  (rules : Int)
def optsRow (l : List Opt) : List PV := [.sl 6 (l.map Opt.row)]
def Model.cells (m : Model) : List PV := [.sl 1 (m.classes.map optsRow), .sl 4 (m.pairs.map Pair.row), .sl 4 (m.counts.map Count.row), ei m.rules]

def BIG : Nat := 9223372036854775807
/-- Lists are no longer than lists can be. -/
structure Laid (m : Model) : Prop where
  cn : m.classes.length ≤ 9223372036854775807
  pn : m.pairs.length ≤ 9223372036854775807
  ch : ∀ l ∈ m.classes, ∀ o ∈ l, o.charges.length ≤ 9223372036854775807
  ld : ∀ c ∈ m.counts, c.loads.length ≤ 9223372036854775807

def priceP (n : Int) : Prop := (1 ≤ n ∧ n ≤ 1048576) ∨ n = 1099511627776
def ruleP (m : Model) (n : Int) : Prop := 0 ≤ n ∧ n < m.rules
def optionP (m : Model) (c o : Int) : Prop := 0 ≤ c ∧ 0 ≤ o ∧ ∃ l, m.classes[c.toNat]? = some l ∧ o < l.length
def sizedP (m : Model) : Prop := m.classes.length ≤ 24 ∧ (∀ l ∈ m.classes, l.length ≤ 24) ∧ m.pairs.length ≤ 4000 ∧ m.counts.length ≤ 800 ∧ 0 ≤ m.rules ∧ m.rules ≤ 56
def chargeAt (m : Model) (l : List Charge) (i : Nat) : Prop := ∀ c, l[i]? = some c → ruleP m c.rule ∧ priceP c.cost ∧ ∀ k b, i = k + 1 → l[k]? = some b → b.rule < c.rule
def chargesP (m : Model) (o : Opt) : Prop := ∀ i, i < o.charges.length → chargeAt m o.charges i
def pairP (m : Model) (p : Pair) : Prop := ruleP m p.rule ∧ 0 ≤ p.first ∧ p.first < p.second ∧ (∃ a b, m.classes[p.first.toNat]? = some a ∧ m.classes[p.second.toNat]? = some b ∧ p.table.length = a.length * b.length) ∧ ∀ n ∈ p.table, n = 0 ∨ priceP n
def pairLt (p q : Pair) : Prop := p.rule < q.rule ∨ (p.rule = q.rule ∧ (p.first < q.first ∨ (p.first = q.first ∧ p.second < q.second)))
def pairAt (m : Model) (i : Nat) : Prop := ∀ p, m.pairs[i]? = some p → pairP m p ∧ ∀ k q, i = k + 1 → m.pairs[k]? = some q → pairLt q p
def loadAt (m : Model) (l : List Load) (i : Nat) : Prop := ∀ x, l[i]? = some x → optionP m x.cls x.opt ∧ 1 ≤ x.weight ∧ x.weight ≤ 1000 ∧ ∀ k y, i = k + 1 → l[k]? = some y → y.cls < x.cls ∨ (y.cls = x.cls ∧ y.opt < x.opt)
def countP_ (m : Model) (c : Count) : Prop := ruleP m c.rule ∧ 0 ≤ c.most ∧ c.most ≤ 1048576 ∧ priceP c.penalty ∧ ∀ i, i < c.loads.length → loadAt m c.loads i
def goodP (m : Model) : Prop := (∀ l ∈ m.classes, ∀ o ∈ l, chargesP m o) ∧ (∀ i, i < m.pairs.length → pairAt m i) ∧ ∀ c ∈ m.counts, countP_ m c
noncomputable def modelE (m : Model) : Int := if pB (sizedP m) then (if pB (goodP m) then 0 else 1) else 2
theorem mE2 {m : Model} (h : ¬ sizedP m) : modelE m = 2 := by unfold modelE; rw [pB_f h]; rfl
theorem mE1 {m : Model} (h0 : sizedP m) (h : ¬ goodP m) : modelE m = 1 := by unfold modelE; rw [pB_t h0, pB_f h]; rfl
theorem mE0 {m : Model} (h0 : sizedP m) (h : goodP m) : modelE m = 0 := by unfold modelE; rw [pB_t h0, pB_t h]; rfl
end Go.Proofs.YtpnghlibmpainaaGreat.Cw

/-
  Slices that grow by append, nil or not: they need no cases.
-/
namespace Go.Proofs.YtpnghlibmpainaaGreat.Cw
open Go Go.Cw Go.Proofs
set_option linter.unusedVariables false
theorem map_snoc {α β : Type} {f : α → β} {l : List α} {x : α} : (l ++ [x]).map f = l.map f ++ [f x] := by simp
section
variable {P : Program} {T : Tab} {id z ty : Nat} {rows : List (List PV)} {r : List PV}
theorem fv_sl {K : AV → Prop} (h : K (slP id z rows)) : forceV (slP id z rows) K := by
  cases rows <;> exact h
theorem fh_ob {l : Heap} {K : Heap → Prop} (h : forceH l fun l' => K (obP ty z rows :: l')) : forceH (obP ty z rows :: l) K := by
  rw [forceH_eq] at *
  exact h
theorem knOut_mono : ∀ (dc : Known) {d : Nat} (A B : Known → Prop), (∀ d2, A d2 → B d2) → knOut dc d A → knOut dc d B
  | [], d, A, B, hab, ha => hab _ ha
  | (k, bb) :: dc, d, A, B, hab, ha => by
    simp only [knOut] at ha ⊢
    split
    · rename_i hk; rw [hk] at ha; exact knOut_mono dc A B hab ha
    · rename_i hk; rw [hk] at ha; exact knOut_mono dc _ _ (fun d2 h2 => hab _ h2) ha
theorem st_len {site e size bytes : Nat} {agg : Bool} {zero : List PV} {s : Operand} {t : TypeId} {d : Tmp} {Γ : Slots} {H : Heap} {K : Slots → Heap → Prop} (hs : ev Γ s = some (slP id z rows)) (hl : Cw.look T t = some ⟨size, bytes, agg, .slice e, zero⟩)
    (h : K ((d, vint .i64 rows.length) :: Γ) H) :
    vcStep P T site (some d) (.call { callee := .builtin .len, args := #[s], argTypes := #[t] }) Γ H K := by
  cases rows with
  | nil =>
    simp only [vcStep, vcOp, hs, slP, nilA, vcLen, hl, putK, appK, eqv_eq, forceV]
    exact h
  | cons a l =>
    simp only [vcStep, vcOp, hs, slP, nilA, vcLen, hl, putK, appK, eqv_eq, forceV]
    exact h
/-- The operation len. -/
theorem o_len {n m site e size bytes : Nat} {agg : Bool} {zero : List PV} {s : Operand} {t : TypeId} {d : Tmp} {Γ : Slots} {H : Heap} {K : Slots → Heap → Prop} {o : Oper} {all l : List Oper} {dc : Known}
    (hop : o.op = .call { callee := .builtin .len, args := #[s], argTypes := #[t] }) (hg : o.guard = none) (hd : o.dst = some d) (hdn : Nat.blt d n = true) (hs : ev Γ s = some (slP id z rows)) (hl : Cw.look T t = some ⟨size, bytes, agg, .slice e, zero⟩) (hm : rows.length = m)
    (h : knOut dc d fun d2 => xOps P T n all l site K d2 ((d, vint .i64 m) :: Γ) H) :
    xOps P T n all (o :: l) site K dc Γ H := by
  subst hm
  refine ops_cons ?_
  have e1 : dstOk n o = true := by unfold dstOk; rw [hd]; exact hdn
  have e2 : isAlloc o.op = false := by rw [hop]; rfl
  rw [e1, e2]
  show vcGuard all Γ dc o.guard _ _
  rw [hg]
  simp only [vcGuard, knPut, hd, hop, knRes, simpOp]
  exact knOut_mono dc _ _ (fun d2 hh => st_len hs hl hh) h
theorem sl_app (a : List (List PV)) (x : List PV) : slP id z (a ++ [x]) = .ms id z 0 (a.length + 1) := by
  cases a with
  | nil => rfl
  | cons b l => simp [slP]
theorem ob_app (a : List (List PV)) (x : List PV) : obP ty z (a ++ [x]) = some ⟨ty, z, false, .p (a ++ [x])⟩ := by
  cases a <;> rfl
theorem app_none {H : Heap} {i site : Nat} {o : Option AObj} (h : H[i]? = some none) : app H [(i, none), (site, o)] = app H [(site, o)] := by
  have : H.set i none = H := by
    apply List.ext_getElem?
    intro k
    rw [List.getElem?_set]
    by_cases e : i = k
    · subst e
      obtain ⟨h1, h2⟩ := List.getElem?_eq_some_iff.1 h
      rw [if_pos rfl, if_pos h1, h]
    · simp [e]
  simp only [app, this]
/-- One row is appended. -/
theorem st_app {site idx b size bytes : Nat} {agg eagg fz : Bool} {zero ezero : List PV} {etk : TK} {s x : Operand} {t : TypeId} {d : Tmp} {Γ : Slots} {H : Heap} {K : Slots → Heap → Prop} (hs : ev Γ s = some (slP id z rows)) (hx : ev Γ x = some (.ms idx z 0 1)) (hl : Cw.look T t = some ⟨size, bytes, agg, .slice ty, zero⟩) (he : Cw.look T ty = some ⟨z, b, eagg, etk, ezero⟩) (hz : Nat.blt 0 z = true)
    (hi : H[idx]? = some (some ⟨ty, z, fz, .p [r]⟩)) (ho : H[id]? = some (obP ty z rows)) (hb : (rows.length + 1) * b ≤ 140737488355328) (hn : rows.length + 1 ≤ 9223372036854775807)
    (h : forceH (app H [(id, none), (site, some ⟨ty, z, false, .p (rows ++ [r])⟩)]) fun H2 => K ((d, .ms site z 0 (rows.length + 1)) :: Γ) H2) :
    vcStep P T site (some d) (.call { callee := .builtin .append, args := #[s, x], argTypes := #[t, t] }) Γ H K := by
  have hbq : Nat.beq t t = true := Nat.beq_refl t
  have hzz : Nat.beq z z = true := Nat.beq_refl z
  have hty : Nat.beq ty ty = true := Nat.beq_refl ty
  rw [forceH_eq] at h
  cases rows with
  | nil =>
    rw [app_none ho] at h
    simp only [vcStep, vcOp, hbq, hs, hx, vcAppend, hl, he, srcOk, hzz, hz, srcRows, hi, Bool.and_self, Bool.true_and, slP, nilA, eqv_eq, putK, forceV, appK, forceH_eq]
    refine ⟨rfl, by simpa [rowsLen] using hb, by simp [rowsLen], fun _ => ?_, fun e => by simp [rowsLen] at e⟩
    exact h
  | cons a l =>
    simp only [vcStep, vcOp, hbq, hs, hx, vcAppend, hl, he, srcOk, hzz, hz, srcRows, hi, ho, obP, Bool.and_self, Bool.true_and, slP, eqv_eq, putK, forceV, appK, forceH_eq, Bool.not_false, hty, dropR, catRows, List.drop_zero]
    refine ⟨by simp [rowsLen], rfl, by simpa [rowsLen] using hb, by simpa [rowsLen] using hn, ?_⟩
    have e : rowsLen (.p (a :: l ++ List.take 1 [r])) = (a :: l).length + 1 := by simp [rowsLen]
    rw [e]
    exact h
/-- The operation that appends one row. -/
theorem o_app {n site idx b size bytes : Nat} {agg eagg fz : Bool} {zero ezero : List PV} {etk : TK} {s x : Operand} {t : TypeId} {d : Tmp} {Γ : Slots} {H : Heap} {K : Slots → Heap → Prop} {o : Oper} {all l : List Oper} {dc : Known}
    (hop : o.op = .call { callee := .builtin .append, args := #[s, x], argTypes := #[t, t] }) (hg : o.guard = none) (hd : o.dst = some d) (hdn : Nat.blt d n = true) (hs : ev Γ s = some (slP id z rows)) (hx : ev Γ x = some (.ms idx z 0 1)) (hl : Cw.look T t = some ⟨size, bytes, agg, .slice ty, zero⟩) (he : Cw.look T ty = some ⟨z, b, eagg, etk, ezero⟩) (hz : Nat.blt 0 z = true)
    (hi : H[idx]? = some (some ⟨ty, z, fz, .p [r]⟩)) (ho : H[id]? = some (obP ty z rows)) (hb : (rows.length + 1) * b ≤ 140737488355328) (hn : rows.length + 1 ≤ 9223372036854775807)
    (h : knOut dc d fun d2 => forceH (app H [(id, none), (site, some ⟨ty, z, false, .p (rows ++ [r])⟩)]) fun H2 => xOps P T n all l (site + 1) K d2 ((d, .ms site z 0 (rows.length + 1)) :: Γ) H2) :
    xOps P T n all (o :: l) site K dc Γ H := by
  refine ops_cons ?_
  have e1 : dstOk n o = true := by unfold dstOk; rw [hd]; exact hdn
  have e2 : isAlloc o.op = true := by rw [hop]; rfl
  rw [e1, e2]
  show vcGuard all Γ dc o.guard _ _
  rw [hg]
  simp only [vcGuard, knPut, hd, hop, knRes, simpOp]
  have key : ∀ d2, (forceH (app H [(id, none), (site, some ⟨ty, z, false, .p (rows ++ [r])⟩)]) fun H2 => xOps P T n all l (site + 1) K d2 ((d, .ms site z 0 (rows.length + 1)) :: Γ) H2) → vcStep P T site (some d) (.call { callee := .builtin .append, args := #[s, x], argTypes := #[t, t] }) Γ H (xOps P T n all l (site + 1) K d2) := fun d2 hh =>
    st_app hs hx hl he hz hi ho hb hn hh
  have mono : ∀ (dc : Known) (A B : Known → Prop), (∀ d2, A d2 → B d2) → knOut dc d A → knOut dc d B := by
    intro dc
    induction dc with
    | nil => intro A B hab ha; exact hab _ ha
    | cons q dc ih =>
      obtain ⟨k, bb⟩ := q
      intro A B hab ha
      simp only [knOut] at ha ⊢
      split
      · rename_i hk; rw [hk] at ha; exact ih A B hab ha
      · rename_i hk; rw [hk] at ha; exact ih _ _ (fun d2 h2 => hab _ h2) ha
  exact mono dc _ _ key h
theorem st_appD {site idx b size bytes : Nat} {agg eagg fz : Bool} {zero ezero : List PV} {etk : TK} {s x : Operand} {t : TypeId} {d : Tmp} {Γ : Slots} {H : Heap} {K : Slots → Heap → List Nat × List Nat → Prop} (hs : ev Γ s = some (slP id z rows)) (hx : ev Γ x = some (.ms idx z 0 1)) (hl : Cw.look T t = some ⟨size, bytes, agg, .slice ty, zero⟩) (he : Cw.look T ty = some ⟨z, b, eagg, etk, ezero⟩) (hz : Nat.blt 0 z = true)
    (hi : H[idx]? = some (some ⟨ty, z, fz, .p [r]⟩)) (ho : H[id]? = some (obP ty z rows)) (hb : (rows.length + 1) * b ≤ 140737488355328) (hn : rows.length + 1 ≤ 9223372036854775807)
    (h : (forceH (app H [(id, none), (site, some ⟨ty, z, false, .p (rows ++ [r])⟩)]) fun H2 => K ((d, .ms site z 0 (rows.length + 1)) :: Γ) H2 ([idx], [site])) ∧ forceH (app H [(id, none), (site, some ⟨ty, z, false, .p (rows ++ [r])⟩)]) fun H2 => K ((d, .ms site z 0 (rows.length + 1)) :: Γ) H2 ([id, idx], [id, site])) :
    vcStepD P T site (some d) (.call { callee := .builtin .append, args := #[s, x], argTypes := #[t, t] }) Γ H K := by
  have hbq : Nat.beq t t = true := Nat.beq_refl t
  have hzz : Nat.beq z z = true := Nat.beq_refl z
  have hty : Nat.beq ty ty = true := Nat.beq_refl ty
  simp only [forceH_eq] at h
  obtain ⟨h1, h2⟩ := h
  cases rows with
  | nil =>
    rw [app_none ho] at h1
    simp only [vcStepD, vcOp, hbq, hs, hx, vcAppend, hl, he, srcOk, hzz, hz, srcRows, hi, Bool.and_self, Bool.true_and, slP, nilA, eqv_eq, putK, forceV, appK, forceH_eq]
    refine ⟨rfl, by simpa [rowsLen] using hb, by simp [rowsLen], fun _ => ?_, fun e => by simp [rowsLen] at e⟩
    exact h1
  | cons a l =>
    simp only [vcStepD, vcOp, hbq, hs, hx, vcAppend, hl, he, srcOk, hzz, hz, srcRows, hi, ho, obP, Bool.and_self, Bool.true_and, slP, eqv_eq, putK, forceV, appK, forceH_eq, Bool.not_false, hty, dropR, catRows, List.drop_zero]
    refine ⟨by simp [rowsLen], rfl, by simpa [rowsLen] using hb, by simpa [rowsLen] using hn, ?_⟩
    have e : rowsLen (.p (a :: l ++ List.take 1 [r])) = (a :: l).length + 1 := by simp [rowsLen]
    rw [e]
    exact h2
/-- The same in a statement that draws its order. -/
theorem o_appD {n site idx b size bytes : Nat} {agg eagg fz : Bool} {zero ezero : List PV} {etk : TK} {s x : Operand} {t : TypeId} {d : Tmp} {Γ : Slots} {H : Heap} {KD : List (List Nat × List Nat) → Slots → Heap → Prop} {fs : List (List Nat × List Nat)} {o : Oper} {all l : List Oper} {dc : Known}
    (hop : o.op = .call { callee := .builtin .append, args := #[s, x], argTypes := #[t, t] }) (hg : o.guard = none) (hd : o.dst = some d) (hdn : Nat.blt d n = true) (hs : ev Γ s = some (slP id z rows)) (hx : ev Γ x = some (.ms idx z 0 1)) (hl : Cw.look T t = some ⟨size, bytes, agg, .slice ty, zero⟩) (he : Cw.look T ty = some ⟨z, b, eagg, etk, ezero⟩) (hz : Nat.blt 0 z = true)
    (hi : H[idx]? = some (some ⟨ty, z, fz, .p [r]⟩)) (ho : H[id]? = some (obP ty z rows)) (hb : (rows.length + 1) * b ≤ 140737488355328) (hn : rows.length + 1 ≤ 9223372036854775807)
    (h : knOut dc d fun d2 => (forceH (app H [(id, none), (site, some ⟨ty, z, false, .p (rows ++ [r])⟩)]) fun H2 => xOpsD P T n all l (site + 1) KD (([idx], [site]) :: fs) d2 ((d, .ms site z 0 (rows.length + 1)) :: Γ) H2) ∧ forceH (app H [(id, none), (site, some ⟨ty, z, false, .p (rows ++ [r])⟩)]) fun H2 => xOpsD P T n all l (site + 1) KD (([id, idx], [id, site]) :: fs) d2 ((d, .ms site z 0 (rows.length + 1)) :: Γ) H2) :
    xOpsD P T n all (o :: l) site KD fs dc Γ H := by
  refine opsD_cons ?_
  have e1 : dstOk n o = true := by unfold dstOk; rw [hd]; exact hdn
  have e2 : isAlloc o.op = true := by rw [hop]; rfl
  rw [e1, e2]
  show vcGuard all Γ dc o.guard _ _
  rw [hg]
  simp only [vcGuard, knPut, hd, hop, knRes, simpOp]
  exact knOut_mono dc _ _ (fun d2 hh => st_appD hs hx hl he hz hi ho hb hn hh) h
theorem ren_sl {d : Nat} {rn : List Nat} : renC d rn (slP id z rows) = slP (rn.getD id d) z rows := by
  cases rows <;> simp [slP, nilA, renC]
theorem ren_get {d : Nat} {rn : List Nat} {Γ : Slots} {s : Nat} (h : get Γ s = some (slP (rn.getD id d) z rows)) : get Γ s = some (renC d rn (slP id z rows)) := by rw [ren_sl]; exact h
theorem kept_ob {H Hc : Heap} {d i : Nat} {rn l : List Nat} (h : H[i]? = some (obP ty z rows)) (hk : kept H d rn l Hc) : kept H d rn (i :: l) (obP ty z rows :: Hc) := by
  cases rows with
  | nil => exact hk
  | cons a l' => exact ⟨h, hk⟩
/-- A loop of which only the named slots are kept. -/
theorem loop_for {n nh : Nat} {a : Code} {Q : Exit → Slots → Heap → Prop} {Γ : Slots} {H : Heap} {X : Type} (g : X → Slots) (hp : X → Heap) (cond : X → Prop) (μ : X → Nat) (x0 : X) (h0 : cond x0) (he : Ghost n nh Γ H (g x0) (hp x0))
    (hb : ∀ x, cond x → forceH (hp x) fun H1 => xCode P T n nh a (thenQ (fun Γ' H' => ∃ x', cond x' ∧ μ x' < μ x ∧ Ghost n nh Γ' H' (g x') (hp x')) Q) (g x) H1) : xCode P T n nh (.loop a) Q Γ H := by
  refine code_loop (fun x => ⟨g x, hp x⟩) cond μ ⟨x0, h0, he⟩ fun x hx => ?_
  have := hb x hx
  rw [forceH_eq] at this
  exact this
/-- A box one of whose cells holds a slice that grows. -/
theorem kept_bx {H Hc : Heap} {d i : Nat} {rn l : List Nat} {ty' z' : Nat} {fz : Bool} {cs cs' : List AV} (e : renL d rn cs = cs') (h : H[i]? = some (some ⟨ty', z', fz, .box cs'⟩)) (hk : kept H d rn l Hc) : kept H d rn (i :: l) (some ⟨ty', z', fz, .box cs⟩ :: Hc) := by
  subst e
  exact ⟨h, hk⟩
/-- What a slice that grows hands back. -/
theorem conv_sl {H : Heap} (ho : H[id]? = some (obP ty z rows)) : ∃ r0, conv H (slP id z rows) = some r0 ∧ ok1 H (slP id z rows) ∧ ALe r0 (.pv (.sl z rows)) := by
  cases rows with
  | nil => exact ⟨_, rfl, trivial, ALe.pv PLe.nil⟩
  | cons a l =>
    refine ⟨.pv (.sl z (a :: l)), ?_, ?_, ALe.refl⟩
    · simp only [slP, conv, conv1, convC, ho, obP]
      simp
    · simp only [slP, ok1, ok0, okC, ho, obP]
      simp
/-- A slice in a slot that grows no more. -/
theorem ids_sl {H : Heap} (ho : H[id]? = some (obP ty z rows)) : ∀ i : Nat, i ≠ id → (app H (frz H (ids1 H (slP id z rows))))[i]? = H[i]? := fun i hne => by
  cases rows with
  | nil => rfl
  | cons a l =>
    have hi : ids1 H (slP id z (a :: l)) = [id] := by
      show idsC H 5 (.ms id z 0 (a :: l).length) = _
      simp only [idsC, ho, obP]; rfl
    rw [hi]
    simp only [frz, ho, obP, app]
    rw [List.getElem?_set, if_neg (fun e => hne e.symm)]
theorem subH_refl : ∀ H : Heap, subH H H
  | [] => trivial
  | none :: l => subH_refl l
  | some o :: l => ⟨rfl, subH_refl l⟩
theorem Ghost.sl {n nh s : Nat} {Γ Γ2 : Slots} {H H2 : Heap} (h : get Γ s = some (slP id z rows)) (ho : H[id]? = some (obP ty z rows))
    (k : ∀ H' : Heap, H'.length = H.length → (∀ i : Nat, i ≠ id → H'[i]? = H[i]?) → Ghost n nh ((s, .pv (.sl z rows)) :: Γ) H' Γ2 H2) : Ghost n nh Γ H Γ2 H2 := by
  obtain ⟨r0, h1, h2, h3⟩ := conv_sl ho
  have g1 := Ghost.freeze (n := n) (nh := nh) h h1 h2
  have g2 := Ghost.weak (n := n) (nh := nh) (Γ := (s, r0) :: Γ) (H := app H (frz H (ids1 H (slP id z rows)))) (s := s) (x := r0) (y := .pv (.sl z rows)) (by rw [get_cons, if_pos rfl]) h3
  have g3 : Ghost n nh ((s, .pv (.sl z rows)) :: (s, r0) :: Γ) (app H (frz H (ids1 H (slP id z rows)))) ((s, .pv (.sl z rows)) :: Γ) (app H (frz H (ids1 H (slP id z rows)))) := Ghost.le (fun t y hy => by
    rw [get_cons] at hy
    split at hy
    · rename_i e
      exact ⟨y, by rw [get_cons, if_pos e]; exact hy, ALe.refl⟩
    · rename_i e
      exact ⟨y, by rw [get_cons, if_neg e, get_cons, if_neg e]; exact hy, ALe.refl⟩) (subH_refl _)
  exact ((g1.trans g2).trans g3).trans (k _ (by rw [app_length]) (ids_sl ho))
/-- A slice in a cell of a box that grows no more. -/
theorem Ghost.shut_sl {n nh i c ty' z' : Nat} {fz : Bool} {cs : List AV} {Γ Γ2 : Slots} {H H2 : Heap} (hi : H[i]? = some (some ⟨ty', z', fz, .box cs⟩)) (hx : cs[c]? = some (slP id z rows)) (ho : H[id]? = some (obP ty z rows)) (hne : i ≠ id)
    (k : ∀ H' : Heap, H'.length = H.length → H'[i]? = some (some ⟨ty', z', fz, .box (cs.set c (.pv (.sl z rows)))⟩) → (∀ j : Nat, j ≠ id → j ≠ i → H'[j]? = H[j]?) → Ghost n nh Γ H' Γ2 H2) : Ghost n nh Γ H Γ2 H2 := by
  obtain ⟨r0, h1, h2, h3⟩ := conv_sl ho
  have hn : i ∉ ids1 H (slP id z rows) := by
    cases rows with
    | nil => exact List.not_mem_nil
    | cons a l =>
      have e : ids1 H (slP id z (a :: l)) = [id] := by
        show idsC H 5 (.ms id z 0 (a :: l).length) = _
        simp only [idsC, ho, obP]; rfl
      rw [e]; simpa using hne
  have g := Ghost.shut (n := n) (nh := nh) (Γ := Γ) hi hx h1 h2 hn h3
  have hlt := (List.getElem?_eq_some_iff.1 hi).1
  refine g.trans (k _ (by rw [List.length_set, app_length]) ?_ fun j hj1 hj2 => ?_)
  · rw [List.getElem?_set, if_pos rfl, if_pos (by rw [app_length]; exact hlt)]
  · rw [List.getElem?_set, if_neg (fun e => hj2 e.symm)]
    exact ids_sl ho j hj1
/-- The same beside a plain value. -/
theorem ret_sl2 {H : Heap} {q : PV} {x : AV} (ho : H[id]? = some (obP ty z rows)) (h : x = .tup [.pv (.sl z rows), .pv q]) : retOk 0 (.tup [slP id z rows, .pv q]) H (fun r H' => H' = [] ∧ Leq r x) := by
  subst h
  cases rows with
  | nil => exact ret_pure (r0 := .tup [.pv (.val (.slice none 0 0)), .pv q]) rfl (by repeat' (first | exact trivial)) ⟨ALe.tup ⟨ALe.pv PLe.nil, ALe.refl, trivial⟩⟩
  | cons a l =>
    refine ret_pure (r0 := .tup [.pv (.sl z (a :: l)), .pv q]) ?_ ?_ ⟨ALe.refl⟩
    · simp only [slP, conv, mapO, conv1, convC, ho, obP]
      simp
    · simp only [slP, ok1, andL, ok0, okC, ho, obP]
      simp
end
end Go.Proofs.YtpnghlibmpainaaGreat.Cw

/-
  Plain: models that are built from the seats of classes: pairs by a table of entries, counts.
-/
namespace Go.Proofs.YtpnghlibmpainaaGreat.Cw
open Go.Cw Go.Proofs
set_option linter.unusedVariables false
set_option maxRecDepth 100000

/-- Lists one behind the other. -/
def gr {α : Type} (F : Nat → List α) (i : Nat) : List α := (List.range i).flatMap F
theorem gr_zero {α : Type} {F : Nat → List α} : gr F 0 = [] := rfl
theorem gr_succ {α : Type} {F : Nat → List α} {i : Nat} : gr F (i + 1) = gr F i ++ F i := by
  unfold gr; rw [List.range_succ, List.flatMap_append]; simp
theorem gr_len {α : Type} {F : Nat → List α} {m : Nat} (h : ∀ i, (F i).length ≤ m) : ∀ i, (gr F i).length ≤ i * m
  | 0 => by simp [gr]
  | i + 1 => by rw [gr_succ, List.length_append, Nat.succ_mul]; have := gr_len h i; have := h i; omega
theorem take_snoc {α : Type} {l : List α} {k : Nat} {x : α} (h : l[k]? = some x) : l.take (k + 1) = l.take k ++ [x] := by
  obtain ⟨h1, h2⟩ := List.getElem?_eq_some_iff.1 h
  rw [List.take_succ_eq_append_getElem h1, h2]
theorem gr_next {α : Type} {F : Nat → List α} {i k : Nat} {x : α} (h : (F i)[k]? = some x) : gr F i ++ (F i).take (k + 1) = gr F i ++ (F i).take k ++ [x] := by rw [take_snoc h, List.append_assoc]
theorem gr_all {α : Type} {F : Nat → List α} {i k : Nat} (h : (F i).length ≤ k) : gr F i ++ (F i).take k = gr F (i + 1) := by rw [List.take_of_length_le h, gr_succ]
theorem gr_none {α : Type} {F : Nat → List α} {i : Nat} : gr F i ++ (F i).take 0 = gr F i := by simp
theorem gr_mem {α : Type} {F : Nat → List α} {n : Nat} {y : α} : y ∈ gr F n ↔ ∃ i, i < n ∧ y ∈ F i := by
  unfold gr
  simp [List.mem_flatMap, List.mem_range]
/-- The elements at places, of those that there are. -/
def upto {α β : Type} (l : List α) (f : Nat → α → Option β) (n : Nat) : List β := (List.range n).filterMap fun i => (l[i]?).bind (f i)
theorem upto_zero {α β : Type} {l : List α} {f : Nat → α → Option β} : upto l f 0 = [] := rfl
theorem upto_some {α β : Type} {l : List α} {f : Nat → α → Option β} {n : Nat} {x : α} {y : β} (h : l[n]? = some x) (hf : f n x = some y) : upto l f (n + 1) = upto l f n ++ [y] := by
  unfold upto
  rw [List.range_succ, List.filterMap_append]
  simp [h, hf]
theorem upto_none {α β : Type} {l : List α} {f : Nat → α → Option β} {n : Nat} {x : α} (h : l[n]? = some x) (hf : f n x = none) : upto l f (n + 1) = upto l f n := by
  unfold upto
  rw [List.range_succ, List.filterMap_append]
  simp [h, hf]
theorem upto_len {α β : Type} {l : List α} {f : Nat → α → Option β} {n : Nat} : (upto l f n).length ≤ n := by
  unfold upto
  exact Nat.le_trans (List.length_filterMap_le ..) (by simp)
theorem upto_mem {α β : Type} {l : List α} {f : Nat → α → Option β} {n : Nat} {y : β} : y ∈ upto l f n ↔ ∃ i x, i < n ∧ l[i]? = some x ∧ f i x = some y := by
  unfold upto
  rw [List.mem_filterMap]
  constructor
  · rintro ⟨i, hi, h⟩
    obtain ⟨x, h1, h2⟩ := Option.bind_eq_some_iff.1 h
    exact ⟨i, x, List.mem_range.1 hi, h1, h2⟩
  · rintro ⟨i, x, hi, h1, h2⟩
    exact ⟨i, List.mem_range.2 hi, by rw [h1]; exact h2⟩

structure Seat where
  (sit room : Nat)
def Seat.row (s : Seat) : List PV := [ei (s.sit : Int), ei (s.room : Int)]
def seatsRow (l : List Seat) : List PV := [.sl 2 (l.map Seat.row)]
/-- What a class's seats cost beside another one's. -/
abbrev Ent := Nat → Nat → Nat → Seat → Seat → Int
def rowS (E : Ent) (u i k : Nat) (A B : List Seat) (a : Nat) : List Int := match A[a]? with
  | some s => B.map (E u i k s)
  | none => []
def tabS (E : Ent) (u i k : Nat) (A B : List Seat) : List Int := gr (rowS E u i k A B) A.length
theorem rowS_at {E : Ent} {u i k : Nat} {A B : List Seat} {a : Nat} {s : Seat} (h : A[a]? = some s) : rowS E u i k A B a = B.map (E u i k s) := by unfold rowS; rw [h]
theorem rowS_len {E : Ent} {u i k : Nat} {A B : List Seat} {a : Nat} : (rowS E u i k A B a).length ≤ B.length := by
  unfold rowS; split
  · rw [List.length_map]; exact Nat.le_refl _
  · exact Nat.zero_le _
theorem rowS_get {E : Ent} {u i k : Nat} {A B : List Seat} {a b : Nat} {s t : Seat} (h : A[a]? = some s) (hq : B[b]? = some t) : (rowS E u i k A B a)[b]? = some (E u i k s t) := by
  rw [rowS_at h, List.getElem?_map, hq]; rfl
theorem tabS_mem {E : Ent} {u i k : Nat} {A B : List Seat} {n : Int} (h : n ∈ tabS E u i k A B) : ∃ s ∈ A, ∃ t ∈ B, n = E u i k s t := by
  obtain ⟨a, -, h2⟩ := gr_mem.1 h
  unfold rowS at h2
  split at h2
  · rename_i s hs
    obtain ⟨t, ht, rfl⟩ := List.mem_map.1 h2
    exact ⟨s, List.mem_of_getElem? hs, t, ht, rfl⟩
  · cases h2
theorem grl {F : Nat → List Int} {m : Nat} : ∀ n, (∀ i, i < n → (F i).length = m) → (gr F n).length = n * m
  | 0, _ => by simp [gr]
  | n + 1, h => by rw [gr_succ, List.length_append, grl n fun i hi => h i (by omega), h n (by omega), Nat.succ_mul]
theorem tabS_len {E : Ent} {u i k : Nat} {A B : List Seat} : (tabS E u i k A B).length = A.length * B.length := grl _ fun a ha => by
  obtain ⟨s, hs⟩ : ∃ s, A[a]? = some s := ⟨_, List.getElem?_eq_getElem ha⟩
  rw [rowS_at hs, List.length_map]
def pairS (S : List (List Seat)) (E : Ent) (u i k : Nat) : Option Pair := match S[i]?, S[k]? with
  | some A, some B => if i < k ∧ (tabS E u i k A B).any (fun n => n != 0) = true then some ⟨i, k, u, tabS E u i k A B⟩ else none
  | _, _ => none
def prsI (S : List (List Seat)) (E : Ent) (u i m : Nat) : List Pair := (List.range m).filterMap (pairS S E u i)
theorem prsI_len {S : List (List Seat)} {E : Ent} {u i m : Nat} : (prsI S E u i m).length ≤ m := by
  unfold prsI; exact Nat.le_trans (List.length_filterMap_le ..) (by simp)
theorem prsI_succ {S : List (List Seat)} {E : Ent} {u i m : Nat} : prsI S E u i (m + 1) = prsI S E u i m ++ (pairS S E u i m).toList := by
  unfold prsI; rw [List.range_succ, List.filterMap_append]
  cases h : pairS S E u i m <;> simp [h]
theorem prsI_none {S : List (List Seat)} {E : Ent} {u i m : Nat} (h : pairS S E u i m = none) : prsI S E u i (m + 1) = prsI S E u i m := by rw [prsI_succ, h]; simp
theorem prsI_some {S : List (List Seat)} {E : Ent} {u i m : Nat} {p : Pair} (h : pairS S E u i m = some p) : prsI S E u i (m + 1) = prsI S E u i m ++ [p] := by rw [prsI_succ, h]; simp
theorem prsI_begin {S : List (List Seat)} {E : Ent} {u i : Nat} : ∀ {m : Nat}, m ≤ i + 1 → prsI S E u i m = []
  | 0, _ => rfl
  | m + 1, h => by
    have e : pairS S E u i m = none := by
      unfold pairS
      split
      · exact if_neg (by omega)
      · rfl
    rw [prsI_none e, prsI_begin (by omega)]
def prsU (S : List (List Seat)) (E : Ent) (u : Nat) : List Pair := gr (fun u => gr (fun i => prsI S E u i S.length) S.length) u
def prsUi (S : List (List Seat)) (E : Ent) (u i : Nat) : List Pair := prsU S E u ++ gr (fun i => prsI S E u i S.length) i
def prsUk (S : List (List Seat)) (E : Ent) (u i k : Nat) : List Pair := prsUi S E u i ++ prsI S E u i k
section
variable {S : List (List Seat)} {E : Ent} {u i k : Nat}
theorem prsUi_zero : prsUi S E u 0 = prsU S E u := by unfold prsUi; rw [gr_zero, List.append_nil]
theorem prsUi_all : prsUi S E u S.length = prsU S E (u + 1) := by unfold prsUi prsU; rw [gr_succ]
theorem prsUk_begin : prsUk S E u i (i + 1) = prsUi S E u i := by unfold prsUk; rw [prsI_begin (Nat.le_refl _), List.append_nil]
theorem prsUk_all : prsUk S E u i S.length = prsUi S E u (i + 1) := by unfold prsUk prsUi; rw [gr_succ, List.append_assoc]
theorem prsUk_none (h : pairS S E u i k = none) : prsUk S E u i (k + 1) = prsUk S E u i k := by unfold prsUk; rw [prsI_none h]
theorem prsUk_some {p : Pair} (h : pairS S E u i k = some p) : prsUk S E u i (k + 1) = prsUk S E u i k ++ [p] := by unfold prsUk; rw [prsI_some h, List.append_assoc]
theorem prsU_len : (prsU S E u).length ≤ u * (S.length * S.length) := gr_len (fun u => gr_len (fun i => prsI_len) _) u
theorem prsUk_len (hi : i ≤ S.length) (hk : k ≤ S.length) : (prsUk S E u i k).length ≤ (u + 1) * (S.length * S.length) + S.length := by
  have h1 := prsU_len (S := S) (E := E) (u := u)
  have h2 := gr_len (F := fun i => prsI S E u i S.length) (m := S.length) (fun i => prsI_len) i
  have h3 : i * S.length ≤ S.length * S.length := Nat.mul_le_mul hi (Nat.le_refl _)
  have h4 := prsI_len (S := S) (E := E) (u := u) (i := i) (m := k)
  unfold prsUk prsUi
  rw [List.length_append, List.length_append, Nat.succ_mul]
  omega
end
theorem any_snoc {T : List Int} {e : Int} : ((T ++ [e]).any fun n => n != 0) = ((T.any fun n => n != 0) || (e != 0)) := by simp

/-- Loads of the classes that have a seat. -/
def seatIs (s r : Nat) (q : Seat) : Bool := decide (q.sit = s) && decide (q.room = r)
def loadF (W : Nat → Int) (s r : Nat) : Nat → List Seat → Option Load := fun i A => (A.findIdx? (seatIs s r)).map fun (k : Nat) => (⟨(i : Int), (k : Int), W i⟩ : Load)
def loadsS (S : List (List Seat)) (W : Nat → Int) (s r m : Nat) : List Load := upto S (loadF W s r) m
def countS (S : List (List Seat)) (W : Nat → Int) (most : Nat → Int) (s r : Nat) : Option Count := if 1 < (loadsS S W s r S.length).length then some ⟨1, loadsS S W s r S.length, most r, 1099511627776⟩ else none
def cntI (S : List (List Seat)) (W : Nat → Int) (most : Nat → Int) (s m : Nat) : List Count := (List.range m).filterMap (countS S W most s)
def cntS (S : List (List Seat)) (W : Nat → Int) (most : Nat → Int) (R s : Nat) : List Count := gr (fun s => cntI S W most s R) s
section
variable {S : List (List Seat)} {W most : Nat → Int} {R s m : Nat}
theorem cntI_len : (cntI S W most s m).length ≤ m := by
  unfold cntI; exact Nat.le_trans (List.length_filterMap_le ..) (by simp)
theorem cntI_succ : cntI S W most s (m + 1) = cntI S W most s m ++ (countS S W most s m).toList := by
  unfold cntI; rw [List.range_succ, List.filterMap_append]
  cases h : countS S W most s m <;> simp [h]
theorem cntI_none (h : countS S W most s m = none) : cntI S W most s (m + 1) = cntI S W most s m := by rw [cntI_succ, h]; simp
theorem cntI_some {c : Count} (h : countS S W most s m = some c) : cntI S W most s (m + 1) = cntI S W most s m ++ [c] := by rw [cntI_succ, h]; simp
theorem cntS_len : (cntS S W most R s).length ≤ s * R := gr_len (fun s => cntI_len) s
end
end Go.Proofs.YtpnghlibmpainaaGreat.Cw

/-
  Plain: a model that is built from seats is valid.
-/
namespace Go.Proofs.YtpnghlibmpainaaGreat.Cw
open Go.Cw Go.Proofs
set_option linter.unusedVariables false
set_option maxRecDepth 100000

theorem gr_pw {α : Type} {R : α → α → Prop} {F : Nat → List α} : ∀ n, (∀ i, i < n → (F i).Pairwise R) → (∀ i j, i < j → j < n → ∀ x ∈ F i, ∀ y ∈ F j, R x y) → (gr F n).Pairwise R
  | 0, _, _ => List.Pairwise.nil
  | n + 1, h1, h2 => by
    rw [gr_succ]
    refine List.pairwise_append.2 ⟨gr_pw n (fun i hi => h1 i (by omega)) fun i j hij hj => h2 i j hij (by omega), h1 n (by omega), fun x hx y hy => ?_⟩
    obtain ⟨i, hi, hx⟩ := gr_mem.1 hx
    exact h2 i n hi (by omega) x hx y hy
theorem fm_mem {α : Type} {f : Nat → Option α} {m : Nat} {p : α} : p ∈ (List.range m).filterMap f ↔ ∃ k, k < m ∧ f k = some p := by
  rw [List.mem_filterMap]
  constructor
  · rintro ⟨k, hk, h⟩; exact ⟨k, List.mem_range.1 hk, h⟩
  · rintro ⟨k, hk, h⟩; exact ⟨k, List.mem_range.2 hk, h⟩
theorem fm_pw {α : Type} {R : α → α → Prop} {f : Nat → Option α} (h : ∀ i j x y, i < j → f i = some x → f j = some y → R x y) : ∀ m, ((List.range m).filterMap f).Pairwise R
  | 0 => List.Pairwise.nil
  | m + 1 => by
    rw [List.range_succ, List.filterMap_append]
    refine List.pairwise_append.2 ⟨fm_pw h m, ?_, fun x hx y hy => ?_⟩
    · cases hf : f m <;> simp [hf]
    · obtain ⟨i, hi, hx⟩ := fm_mem.1 hx
      cases hf : f m with
      | none => simp [hf] at hy
      | some z =>
        simp [hf] at hy
        subst hy
        exact h i m x y hi hx hf
theorem pw_next {α : Type} {R : α → α → Prop} {l : List α} (h : l.Pairwise R) {i : Nat} {p q : α} (hq : l[i]? = some q) (hp : l[i + 1]? = some p) : R q p := by
  obtain ⟨h1, rfl⟩ := List.getElem?_eq_some_iff.1 hq
  obtain ⟨h2, rfl⟩ := List.getElem?_eq_some_iff.1 hp
  exact List.pairwise_iff_getElem.1 h i (i + 1) h1 h2 (by omega)
section
variable {S : List (List Seat)} {E : Ent} {u i k : Nat} {p : Pair}
theorem pairS_at (h : pairS S E u i k = some p) : i < k ∧ ∃ A B, S[i]? = some A ∧ S[k]? = some B ∧ p = ⟨i, k, u, tabS E u i k A B⟩ := by
  unfold pairS at h
  split at h
  · rename_i A B hA hB
    split at h
    · rename_i hc
      injection h with h
      exact ⟨hc.1, A, B, hA, hB, h.symm⟩
    · cases h
  · cases h
theorem prs_pw : (prsU S E u).Pairwise pairLt := by
  refine gr_pw _ (fun v _ => gr_pw _ (fun j _ => fm_pw (fun a b x y hab hx hy => ?_) _) fun a b hab _ x hx y hy => ?_) fun a b hab _ x hx y hy => ?_
  · obtain ⟨-, _, _, -, -, rfl⟩ := pairS_at hx
    obtain ⟨-, _, _, -, -, rfl⟩ := pairS_at hy
    exact .inr ⟨rfl, .inr ⟨rfl, by show (a : Int) < b; omega⟩⟩
  · obtain ⟨_, -, hx⟩ := fm_mem.1 hx
    obtain ⟨_, -, hy⟩ := fm_mem.1 hy
    obtain ⟨-, _, _, -, -, rfl⟩ := pairS_at hx
    obtain ⟨-, _, _, -, -, rfl⟩ := pairS_at hy
    exact .inr ⟨rfl, .inl (by show (a : Int) < b; omega)⟩
  · obtain ⟨_, -, hx⟩ := gr_mem.1 hx
    obtain ⟨_, -, hy⟩ := gr_mem.1 hy
    obtain ⟨_, -, hx⟩ := fm_mem.1 hx
    obtain ⟨_, -, hy⟩ := fm_mem.1 hy
    obtain ⟨-, _, _, -, -, rfl⟩ := pairS_at hx
    obtain ⟨-, _, _, -, -, rfl⟩ := pairS_at hy
    exact .inl (by show (a : Int) < b; omega)
theorem prs_mem (h : p ∈ prsU S E u) : ∃ v i k A B, v < u ∧ i < k ∧ S[i]? = some A ∧ S[k]? = some B ∧ p = ⟨(i : Nat), (k : Nat), (v : Nat), tabS E v i k A B⟩ := by
  obtain ⟨v, hv, h⟩ := gr_mem.1 h
  obtain ⟨i, -, h⟩ := gr_mem.1 h
  obtain ⟨k, -, h⟩ := fm_mem.1 h
  obtain ⟨h1, A, B, h2, h3, h4⟩ := pairS_at h
  exact ⟨v, i, k, A, B, hv, h1, h2, h3, h4⟩
end
theorem loadF_at {W : Nat → Int} {s r i : Nat} {A : List Seat} {x : Load} (h : loadF W s r i A = some x) : ∃ k, k < A.length ∧ x = ⟨(i : Nat), (k : Nat), W i⟩ := by
  unfold loadF at h
  obtain ⟨k, h1, h2⟩ := Option.map_eq_some_iff.1 h
  obtain ⟨h3, -⟩ := List.findIdx?_eq_some_iff_getElem.1 h1
  exact ⟨k, h3, h2.symm⟩
theorem loads_pw {S : List (List Seat)} {W : Nat → Int} {s r m : Nat} : (loadsS S W s r m).Pairwise fun y x => y.cls < x.cls := fm_pw (fun i j x y hij hx hy => by
  obtain ⟨_, -, hx⟩ := Option.bind_eq_some_iff.1 hx
  obtain ⟨_, -, hy⟩ := Option.bind_eq_some_iff.1 hy
  obtain ⟨_, -, rfl⟩ := loadF_at hx
  obtain ⟨_, -, rfl⟩ := loadF_at hy
  show (i : Int) < j; omega) _
/-- What makes a built model valid. -/
structure BuildOk (C : List (List Opt)) (S : List (List Seat)) (E : Ent) (W most : Nat → Int) (R n : Nat) : Prop where
  cls : S.length ≤ 24
  opt : ∀ A ∈ S, A.length ≤ 24
  same : C.length = S.length
  lens : ∀ (i : Nat) (l : List Opt) (A : List Seat), C[i]? = some l → S[i]? = some A → l.length = A.length
  chg : ∀ l ∈ C, ∀ o ∈ l, o.charges = [] ∨ ∃ c, o.charges = [⟨5, c⟩] ∧ 1 ≤ c ∧ c ≤ 1048576
  ent : ∀ u i k s t, u < 7 → E u i k s t = 0 ∨ priceP (E u i k s t)
  wt : ∀ i, i < S.length → 1 ≤ W i ∧ W i ≤ 1000
  mst : ∀ k, k < R → 0 ≤ most k ∧ most k ≤ 1048576
  cnt : n * R ≤ 800
theorem built_valid {C : List (List Opt)} {S : List (List Seat)} {E : Ent} {W most : Nat → Int} {R n : Nat} (h : BuildOk C S E W most R n) (hp : (prsU S E 7).length ≤ 4000) : modelE ⟨C, prsU S E 7, cntS S W most R n, 7⟩ = 0 := by
  have hC : ∀ (i : Nat) (A : List Seat), S[i]? = some A → ∃ l, C[i]? = some l ∧ l.length = A.length := fun i A hA => by
    have hi := (List.getElem?_eq_some_iff.1 hA).1
    obtain ⟨l, hl⟩ : ∃ l, C[i]? = some l := ⟨_, List.getElem?_eq_getElem (by rw [h.same]; exact hi)⟩
    exact ⟨l, hl, h.lens i l A hl hA⟩
  refine mE0 ⟨?_, fun l hl => ?_, hp, ?_, by show (0 : Int) ≤ 7; decide, by show (7 : Int) ≤ 56; decide⟩ ⟨fun l hl o ho i hi c hc => ?_, fun i hi p hpi => ?_, fun c hc => ?_⟩
  · show C.length ≤ 24; rw [h.same]; exact h.cls
  · obtain ⟨i, hi⟩ := List.getElem?_of_mem hl
    have hlt := (List.getElem?_eq_some_iff.1 hi).1
    obtain ⟨A, hA⟩ : ∃ A, S[i]? = some A := ⟨_, List.getElem?_eq_getElem (by rw [← h.same]; exact hlt)⟩
    rw [h.lens i l A hi hA]
    exact h.opt A (List.mem_of_getElem? hA)
  · show (cntS S W most R n).length ≤ 800
    have := cntS_len (S := S) (W := W) (most := most) (R := R) (s := n)
    have := h.cnt
    omega
  · rcases h.chg l hl o ho with e | ⟨v, e, h1, h2⟩
    · rw [e] at hc; simp at hc
    · rw [e] at hc
      have hi0 : i = 0 := by have := (List.getElem?_eq_some_iff.1 hc).1; simp at this; exact this
      subst hi0
      simp at hc; subst hc
      refine ⟨⟨by show (0 : Int) ≤ 5; decide, by show (5 : Int) < 7; decide⟩, .inl ⟨h1, h2⟩, fun k b hk => by omega⟩
  · refine ⟨?_, fun k q hk hq => by subst hk; exact pw_next prs_pw hq hpi⟩
    obtain ⟨v, a, k, A, B, h1, h2, h3, h4, rfl⟩ := prs_mem (List.mem_of_getElem? hpi)
    obtain ⟨l, hl, hll⟩ := hC a A h3
    obtain ⟨m, hm, hml⟩ := hC k B h4
    refine ⟨⟨Int.natCast_nonneg _, by show (v : Int) < 7; omega⟩, Int.natCast_nonneg _, by show (a : Int) < k; omega, ⟨l, m, hl, hm, ?_⟩, fun n hn => ?_⟩
    · show (tabS E v a k A B).length = _
      rw [tabS_len, hll, hml]
    · obtain ⟨s, -, t, -, rfl⟩ := tabS_mem hn
      exact h.ent v a k s t h1
  · obtain ⟨s, -, hc⟩ := gr_mem.1 hc
    obtain ⟨r, hr, hc⟩ := fm_mem.1 hc
    unfold countS at hc
    split at hc
    · injection hc with hc
      subst hc
      refine ⟨⟨by show (0 : Int) ≤ 1; decide, by show (1 : Int) < 7; decide⟩, (h.mst r hr).1, (h.mst r hr).2, .inr rfl, fun i hi x hx => ?_⟩
      obtain ⟨j, A, hj, hA, hf⟩ := upto_mem.1 (List.mem_of_getElem? hx)
      obtain ⟨k, hk, rfl⟩ := loadF_at hf
      obtain ⟨l, hl, hll⟩ := hC j A hA
      refine ⟨⟨Int.natCast_nonneg _, Int.natCast_nonneg _, l, hl, by rw [hll]; show (k : Int) < _; omega⟩, (h.wt j hj).1, (h.wt j hj).2, fun k2 y hk2 hy => ?_⟩
      subst hk2
      exact .inl (pw_next loads_pw hy hx)
    · cases hc
end Go.Proofs.YtpnghlibmpainaaGreat.Cw

/-
  Contracts: characters, codes.
-/
namespace Go.Proofs.YtpnghlibmpainaaGreat.Cw
open Go.Cw Go.Proofs
set_option linter.unusedVariables false
set_option maxRecDepth 100000

def digB (c : Int) : Bool := decide (48 ≤ c ∧ c ≤ 57)
def letB (c : Int) : Bool := decide ((65 ≤ c ∧ c ≤ 90) ∨ (97 ≤ c ∧ c ≤ 122))

theorem c_digit (c : Int) : PCall Tryz.prog 153 [vint .u8 c] (fun r => r = vbool (digB c)) := by
  refine acall_of tok mixed 9 rfl (fn := Tryz.f153) (c := Tryz.f153.body.getD .skip) (by kernel_rfl) (by kernel_rfl) (by kernel_rfl) rfl 0 rfl ?_
  repeat' (first | refine o1 ?_ | refine o2 ?_ | refine k1 ?_ | refine k2 ?_ | refine k7 ?_ | refine And.intro ?_ ?_ | (intro h; first | exact Bool.noConfusion h | exact nz _ h | exact nl h | (simp at h; done) | (simp at h; first | (exfalso; omega) | skip) | skip) | fail); all_goals try (change retOk _ _ _ _; refine ret_pure rfl trivial ?_)
  all_goals (refine congrArg vbool ?_; unfold digB; first | (simp; omega) | (simp_all; done) | grind)

theorem c_letter (c : Int) : PCall Tryz.prog 154 [vint .u8 c] (fun r => r = vbool (letB c)) := by
  refine acall_of tok mixed 17 rfl (fn := Tryz.f154) (c := Tryz.f154.body.getD .skip) (by kernel_rfl) (by kernel_rfl) (by kernel_rfl) rfl 0 rfl ?_
  repeat' (first | refine o1 ?_ | refine o2 ?_ | refine k1 ?_ | refine k2 ?_ | refine k7 ?_ | refine And.intro ?_ ?_ | (intro h; first | exact Bool.noConfusion h | exact nz _ h | exact nl h | (simp at h; done) | (simp at h; first | (exfalso; omega) | skip) | skip) | fail); all_goals try (change retOk _ _ _ _; refine ret_pure rfl trivial ?_)
  all_goals (refine congrArg vbool ?_; unfold letB; grind)

def chrP (i : Nat) (c : Int) : Prop := digB c = true ∨ letB c = true ∨ (0 < i ∧ (c = 95 ∨ c = 45))
/-- A code. -/
def codeP (s : Str) : Prop := 1 ≤ s.size ∧ s.size ≤ 16 ∧ ∀ i, i < s.size → ∀ b, s[i]? = some b → chrP i b.toNat

theorem codeP_next {s : Str} {i : Nat} {b : UInt8} (hall : ∀ j, j < i → ∀ b, s[j]? = some b → chrP j b.toNat) (hb : s[i]? = some b) (h : chrP i b.toNat) : ∀ j, j < i + 1 → ∀ b, s[j]? = some b → chrP j b.toNat :=
  all_lt_succ hall fun b' hb' => by rw [hb] at hb'; injection hb' with hb'; subst hb'; exact h

theorem c_code (s : Str) : PCall Tryz.prog 123 [.pv (es s)] (fun r => r = vbool (pB (codeP s))) := by
  refine acall_of tok mixed 49 rfl (fn := Tryz.f123) (c := Tryz.f123.body.getD .skip) (by kernel_rfl) (by kernel_rfl) (by kernel_rfl) rfl 0 rfl ?_
  repeat' (first | refine o1 ?_ | refine o2 ?_ | refine k1 ?_ | refine k2 ?_ | refine k3 ?_ | refine k4 ?_ | refine k6 ?_ | refine k7 ?_ | refine And.intro ?_ ?_ | (intro h; first | exact Bool.noConfusion h | exact nz _ h | exact nl h | (simp at h; done) | (simp at h; first | (exfalso; omega) | skip) | skip) | refine eqv_size ?_ | fail); all_goals try (change retOk _ _ _ _; refine ret_pure rfl trivial ?_)
  · exact congrArg vbool (pB_f fun h => by have := h.2.1; omega).symm
  · refine loop_at (fun i : Nat => [(15, vint .i64 i)]) (fun _ => []) (fun i => i ≤ s.size ∧ ∀ j, j < i → ∀ b, s[j]? = some b → chrP j b.toNat) (fun i => s.size - i) 0 ⟨by omega, fun j hj => by omega⟩ (by repeat' (first | exact trivial | exact ⟨_, rfl, ALe.refl⟩ | refine And.intro ?_ ?_)) (by repeat' (first | exact trivial)) ?_
    intro i ⟨hi, hall⟩
    rcases Nat.lt_or_ge i s.size with hlt | hge
    · obtain ⟨b, hb⟩ := str_at hlt
      repeat' (first | refine o1 ?_ | refine o2 ?_ | refine k1 ?_ | refine k2 ?_ | refine k3 ?_ | refine k4 ?_ | refine k6 ?_ | refine k7 ?_ | refine And.intro ?_ ?_ | (intro h; first | exact Bool.noConfusion h | exact nz _ h | exact nl h | (simp at h; done) | (simp at h; first | (exfalso; omega) | skip) | skip) | (change retOk _ _ _ _; refine ret_pure rfl trivial ?_) | refine eqv_wrap (by omega) (by omega) ?_ | refine ⟨_, _, (by first | rfl | assumption), (by assumption), ?_⟩ | (change vcFun _ _ _ _ _; refine call_eq rfl (by repeat' (first | trivial | refine And.intro ?_ ?_ | (show 0 + _ ≤ List.length _; simp))) ALeL.refl (c_digit _) rfl ?_) | (change vcFun _ _ _ _ _; refine call_eq rfl (by repeat' (first | trivial | refine And.intro ?_ ?_ | (show 0 + _ ≤ List.length _; simp))) ALeL.refl (c_letter _) rfl ?_) | fail)
      all_goals first
        | (exfalso; omega)
        | exact ⟨i + 1, ⟨by omega, codeP_next hall hb (by simp [chrP, *])⟩, by omega, back [] rfl rfl trivial (by repeat' (first | exact trivial | exact rfl | refine And.intro ?_ ?_))⟩
        | (refine congrArg vbool (pB_f fun h => ?_).symm; have := h.2.2 i hlt b hb; simp [chrP, *] at this; done)
    · repeat' (first | refine o1 ?_ | refine o2 ?_ | refine k1 ?_ | refine k2 ?_ | refine k3 ?_ | refine k7 ?_ | refine k8 ?_ | refine And.intro ?_ ?_ | (intro h; first | exact Bool.noConfusion h | exact nz _ h | exact nl h | (simp at h; done) | (simp at h; first | (exfalso; omega) | skip) | skip) | (change retOk _ _ _ _; refine ret_pure rfl trivial ?_) | fail)
      all_goals first
        | (exfalso; omega)
        | (refine congrArg vbool (pB_t ?_).symm; exact ⟨by omega, by omega, fun j hj => hall j (by omega)⟩)
  · exact congrArg vbool (pB_f fun h => by have := h.1; omega).symm
end Go.Proofs.YtpnghlibmpainaaGreat.Cw

/-
  Contracts: codes that ascend.
-/
namespace Go.Proofs.YtpnghlibmpainaaGreat.Cw
open Go.Cw Go.Proofs
set_option linter.unusedVariables false
set_option maxRecDepth 100000

def risP (l : List Str) : Prop := ∀ i, i + 1 < l.length → ∀ s p, l[i + 1]? = some s → l[i]? = some p → sLe s p = false
def codesP (l : List Str) : Prop := ∀ i, i < l.length → ∀ s, l[i]? = some s → codeP s
/-- Codes that ascend. -/
def ascP (l : List Str) : Prop := codesP l ∧ risP l
def ascTo (l : List Str) (i : Nat) : Prop := (∀ j, j < i → ∀ s, l[j]? = some s → codeP s) ∧ ∀ j, j + 1 < i → ∀ s p, l[j + 1]? = some s → l[j]? = some p → sLe s p = false

theorem ascTo_next {l : List Str} {i : Nat} {s : Str} (h : ascTo l i) (hs : l[i]? = some s) (h1 : codeP s) (h2 : ∀ k p, i = k + 1 → l[k]? = some p → sLe s p = false) : ascTo l (i + 1) :=
  ⟨all_lt_succ h.1 fun s' h' => by rw [hs] at h'; injection h' with h'; subst h'; exact h1, fun j hj s' p h3 h4 => by
    rcases Nat.lt_or_ge (j + 1) i with h5 | h5
    · exact h.2 j h5 s' p h3 h4
    · have : i = j + 1 := by omega
      subst this
      rw [hs] at h3; injection h3 with h3; subst h3
      exact h2 j p rfl h4⟩
theorem ascTo_all {l : List Str} {i : Nat} (h : ascTo l i) (hi : l.length ≤ i) : ascP l := ⟨fun j hj => h.1 j (by omega), fun j hj => h.2 j (by omega)⟩

theorem c_asc (l : List Str) (hl : l.length ≤ 1000) : PCall Tryz.prog 124 [.pv (encStrs l)] (fun r => r = vbool (pB (ascP l))) := by
  refine acall_of tok mixed 29 rfl (fn := Tryz.f124) (c := Tryz.f124.body.getD .skip) (by kernel_rfl) (by kernel_rfl) (by kernel_rfl) rfl 0 rfl ?_
  repeat' (first | refine o1 ?_ | refine o2 ?_ | refine k1 ?_ | refine k2 ?_ | refine k4 ?_ | refine eqv_len_map ?_ | fail)
  refine loop_at (fun i : Nat => [(7, vint .i64 i)]) (fun _ => []) (fun i => i ≤ l.length ∧ ascTo l i) (fun i => l.length - i) 0 ⟨by omega, fun j hj => by omega, fun j hj => by omega⟩ (by repeat' (first | exact trivial | exact ⟨_, rfl, ALe.refl⟩ | refine And.intro ?_ ?_)) (by repeat' (first | exact trivial)) ?_
  intro i ⟨hi, hall⟩
  rcases Nat.lt_or_ge i l.length with hlt | hge
  · obtain ⟨s, hs⟩ := getE hlt
    rcases i with _ | k
    · repeat' (first | refine o1 ?_ | refine o2 ?_ | refine k1 ?_ | refine k2 ?_ | refine k3 ?_ | refine k4 ?_ | refine k6 ?_ | refine k7 ?_ | refine k8 ?_ | refine And.intro ?_ ?_ | (intro h; first | exact Bool.noConfusion h | exact nz _ h | exact nl h | (simp at h; done) | (simp at h; first | (exfalso; omega) | skip) | skip) | (change retOk _ _ _ _; refine ret_pure rfl trivial ?_) | refine eqv_wrap (by omega) (by omega) ?_ | refine ⟨_, _, (by first | rfl | assumption), at_map (by assumption), ?_⟩ | (change vcFun _ _ _ _ _; refine call_eq rfl (by repeat' (first | trivial | refine And.intro ?_ ?_ | (show 0 + _ ≤ List.length _; simp))) ALeL.refl (c_code _) rfl ?_) | fail)
      all_goals first
        | (exfalso; simp_all; done)
        | exact ⟨1, ⟨by omega, ascTo_next hall hs (by assumption) (fun k p e => by omega)⟩, by omega, back [] rfl rfl trivial (by repeat' (first | exact trivial | exact rfl | refine And.intro ?_ ?_))⟩
        | (refine congrArg vbool (pB_f fun h => ?_).symm; have := h.1 0 hlt s hs; simp_all; done)
    · obtain ⟨p, hp⟩ := getE (show k < l.length by omega)
      repeat' (first | (refine idx_sl (k := k + 1) (at_map hs) (by omega) ?_) | (refine idx_sl (k := k) (at_map hp) (by omega) ?_) | refine o1 ?_ | refine o2 ?_ | refine k1 ?_ | refine k2 ?_ | refine k3 ?_ | refine k4 ?_ | refine k6 ?_ | refine k7 ?_ | refine And.intro ?_ ?_ | (intro h; first | exact Bool.noConfusion h | exact nz _ h | exact nl h | (simp at h; done) | (simp at h; first | (exfalso; omega) | skip) | skip) | (change retOk _ _ _ _; refine ret_pure rfl trivial ?_) | refine eqv_wrap (by omega) (by omega) ?_ | (change vcFun _ _ _ _ _; refine call_eq rfl (by repeat' (first | trivial | refine And.intro ?_ ?_ | (show 0 + _ ≤ List.length _; simp))) ALeL.refl (c_code _) rfl ?_) | fail)
      all_goals first
        | (exfalso; omega)
        | exact ⟨k + 2, ⟨by omega, ascTo_next hall hs (by assumption) (fun k' p' e h' => by cases e; rw [hp] at h'; cases h'; assumption)⟩, by omega, back [] rfl rfl trivial (by repeat' (first | exact trivial | exact rfl | refine And.intro ?_ ?_))⟩
        | (refine congrArg vbool (pB_f fun h => ?_).symm; first | exact absurd (h.1 (k + 1) hlt s hs) (by assumption) | (have := h.2 k hlt s p hs hp; simp_all; done))
  · repeat' (first | refine o1 ?_ | refine o2 ?_ | refine k1 ?_ | refine k2 ?_ | refine k3 ?_ | refine k7 ?_ | refine k8 ?_ | refine And.intro ?_ ?_ | (intro h; first | exact Bool.noConfusion h | exact nz _ h | exact nl h | (simp at h; done) | (simp at h; first | (exfalso; omega) | skip) | skip) | (change retOk _ _ _ _; refine ret_pure rfl trivial ?_) | fail)
    all_goals first
      | (exfalso; omega)
      | (exact congrArg vbool (pB_t (ascTo_all hall hge)).symm)
theorem c_asc2 (l : List Str) (hl : l.length ≤ 1000) : PCall Tryz.prog 126 [.pv (encStrs l)] (fun r => r = vbool (pB (ascP l))) := by
  refine acall_of tok mixed 29 rfl (fn := Tryz.f126) (c := Tryz.f126.body.getD .skip) (by kernel_rfl) (by kernel_rfl) (by kernel_rfl) rfl 0 rfl ?_
  repeat' (first | refine o1 ?_ | refine o2 ?_ | refine k1 ?_ | refine k2 ?_ | refine k4 ?_ | refine eqv_len_map ?_ | fail)
  refine loop_at (fun i : Nat => [(7, vint .i64 i)]) (fun _ => []) (fun i => i ≤ l.length ∧ ascTo l i) (fun i => l.length - i) 0 ⟨by omega, fun j hj => by omega, fun j hj => by omega⟩ (by repeat' (first | exact trivial | exact ⟨_, rfl, ALe.refl⟩ | refine And.intro ?_ ?_)) (by repeat' (first | exact trivial)) ?_
  intro i ⟨hi, hall⟩
  rcases Nat.lt_or_ge i l.length with hlt | hge
  · obtain ⟨s, hs⟩ := getE hlt
    rcases i with _ | k
    · repeat' (first | refine o1 ?_ | refine o2 ?_ | refine k1 ?_ | refine k2 ?_ | refine k3 ?_ | refine k4 ?_ | refine k6 ?_ | refine k7 ?_ | refine k8 ?_ | refine And.intro ?_ ?_ | (intro h; first | exact Bool.noConfusion h | exact nz _ h | exact nl h | (simp at h; done) | (simp at h; first | (exfalso; omega) | skip) | skip) | (change retOk _ _ _ _; refine ret_pure rfl trivial ?_) | refine eqv_wrap (by omega) (by omega) ?_ | refine ⟨_, _, (by first | rfl | assumption), at_map (by assumption), ?_⟩ | (change vcFun _ _ _ _ _; refine call_eq rfl (by repeat' (first | trivial | refine And.intro ?_ ?_ | (show 0 + _ ≤ List.length _; simp))) ALeL.refl (c_code _) rfl ?_) | fail)
      all_goals first
        | (exfalso; simp_all; done)
        | exact ⟨1, ⟨by omega, ascTo_next hall hs (by assumption) (fun k p e => by omega)⟩, by omega, back [] rfl rfl trivial (by repeat' (first | exact trivial | exact rfl | refine And.intro ?_ ?_))⟩
        | (refine congrArg vbool (pB_f fun h => ?_).symm; have := h.1 0 hlt s hs; simp_all; done)
    · obtain ⟨p, hp⟩ := getE (show k < l.length by omega)
      repeat' (first | (refine idx_sl (k := k + 1) (at_map hs) (by omega) ?_) | (refine idx_sl (k := k) (at_map hp) (by omega) ?_) | refine o1 ?_ | refine o2 ?_ | refine k1 ?_ | refine k2 ?_ | refine k3 ?_ | refine k4 ?_ | refine k6 ?_ | refine k7 ?_ | refine And.intro ?_ ?_ | (intro h; first | exact Bool.noConfusion h | exact nz _ h | exact nl h | (simp at h; done) | (simp at h; first | (exfalso; omega) | skip) | skip) | (change retOk _ _ _ _; refine ret_pure rfl trivial ?_) | refine eqv_wrap (by omega) (by omega) ?_ | (change vcFun _ _ _ _ _; refine call_eq rfl (by repeat' (first | trivial | refine And.intro ?_ ?_ | (show 0 + _ ≤ List.length _; simp))) ALeL.refl (c_code _) rfl ?_) | fail)
      all_goals first
        | (exfalso; omega)
        | exact ⟨k + 2, ⟨by omega, ascTo_next hall hs (by assumption) (fun k' p' e h' => by cases e; rw [hp] at h'; cases h'; assumption)⟩, by omega, back [] rfl rfl trivial (by repeat' (first | exact trivial | exact rfl | refine And.intro ?_ ?_))⟩
        | (refine congrArg vbool (pB_f fun h => ?_).symm; first | exact absurd (h.1 (k + 1) hlt s hs) (by assumption) | (have := h.2 k hlt s p hs hp; simp_all; done))
  · repeat' (first | refine o1 ?_ | refine o2 ?_ | refine k1 ?_ | refine k2 ?_ | refine k3 ?_ | refine k7 ?_ | refine k8 ?_ | refine And.intro ?_ ?_ | (intro h; first | exact Bool.noConfusion h | exact nz _ h | exact nl h | (simp at h; done) | (simp at h; first | (exfalso; omega) | skip) | skip) | (change retOk _ _ _ _; refine ret_pure rfl trivial ?_) | fail)
    all_goals first
      | (exfalso; omega)
      | (exact congrArg vbool (pB_t (ascTo_all hall hge)).symm)


/-! The reference. -/
end Go.Proofs.YtpnghlibmpainaaGreat.Cw

/-
  Contracts: the week.
-/
namespace Go.Proofs.YtpnghlibmpainaaGreat.Cw
open Go.Cw Go.Proofs
set_option linter.unusedVariables false
set_option maxRecDepth 100000

def gridP (g : Grid) : Prop := 1 ≤ g.days ∧ g.days ≤ 7 ∧ 1 ≤ g.slots ∧ g.slots ≤ 24 ∧ 0 ≤ g.begin_ ∧ g.begin_ < 1440 ∧ 5 ≤ g.mins ∧ g.mins ≤ 120 ∧ g.begin_ + g.slots * g.mins ≤ 1440
noncomputable def gridE (g : Grid) : Int := if pB (gridP g) then 0 else 3
def weekP (g : Grid) (w : Int) : Prop := gridP g ∧ 1 ≤ w ∧ w ≤ 20
def setP (s n : Int) : Prop := 1 ≤ n ∧ n ≤ 20 ∧ 1 ≤ s ∧ s < 2 ^ n.toNat
def soundP (t : Time) : Prop := setP t.weeks 20 ∧ 0 ≤ t.day ∧ t.day < 7 ∧ 0 ≤ t.start ∧ t.start < 24 ∧ 1 ≤ t.len ∧ t.len ≤ 24 - t.start
def fitP (g : Grid) (w : Int) (t : Time) : Prop := soundP t ∧ setP t.weeks w ∧ t.day < g.days ∧ t.start + t.len ≤ g.slots
noncomputable def fitE (g : Grid) (w : Int) (t : Time) : Int := if pB (weekP g w) then (if pB (fitP g w t) then 0 else 14) else 1

theorem c_grid (g : Grid) : PCall Tryz.prog 152 [ag g.row] (fun r => r = vint .i64 (gridE g)) := by
  refine acall_of tok mixed 52 rfl (fn := Tryz.f152) (c := Tryz.f152.body.getD .skip) (by kernel_rfl) (by kernel_rfl) (by kernel_rfl) rfl 0 rfl ?_
  repeat' (first | (refine eqv_mul (by omega) (by omega) (fun _ _ => ?_)) | refine o1 ?_ | refine o2 ?_ | refine k1 ?_ | refine k2 ?_ | refine k3 ?_ | refine k6 ?_ | refine k7 ?_ | refine And.intro ?_ ?_ | (intro h; first | exact Bool.noConfusion h | exact nz _ h | exact nl h | (simp at h; done) | (simp at h; first | (exfalso; omega) | skip) | skip) | (change retOk _ _ _ _; refine ret_pure rfl trivial ?_) | refine eqv_wrap (by omega) (by omega) ?_ | fail)
  all_goals (refine congrArg (vint .i64) ?_; unfold gridE)
  all_goals first
    | (rw [pB_f (fun h => ?_)]; rfl; obtain ⟨h1, h2, h3, h4, h5, h6, h7, h8, h9⟩ := h; omega)
    | (rw [pB_t ⟨by omega, by omega, by omega, by omega, by omega, by omega, by omega, by omega, by omega⟩]; rfl)
theorem gridE_iff {g : Grid} : gridE g = 0 ↔ gridP g := by
  unfold gridE
  by_cases h : gridP g <;> simp [h]

theorem c_week (g : Grid) (w : Int) : PCall Tryz.prog 122 [ag g.row, vint .i64 w] (fun r => r = vbool (pB (weekP g w))) := by
  refine acall_of tok mixed 16 rfl (fn := Tryz.f122) (c := Tryz.f122.body.getD .skip) (by kernel_rfl) (by kernel_rfl) (by kernel_rfl) rfl 0 rfl ?_
  repeat' (first | refine o1 ?_ | refine o2 ?_ | refine k1 ?_ | refine k2 ?_ | refine k7 ?_ | refine And.intro ?_ ?_ | (intro h; first | exact Bool.noConfusion h | exact nz _ h | exact nl h | (simp at h; done) | (simp at h; first | (exfalso; omega) | skip) | skip) | (change retOk _ _ _ _; refine ret_pure rfl trivial ?_) | (change vcFun _ _ _ _ _; refine call_eq rfl (by repeat' (first | trivial | refine And.intro ?_ ?_ | (show 0 + _ ≤ List.length _; simp))) ALeL.refl (c_grid g) rfl ?_) | fail)
  all_goals (refine congrArg vbool (pB_eq ?_); simp_all [weekP, gridE_iff]; try omega)
theorem c_set (s n : Int) : PCall Tryz.prog 175 [vint .i64 s, vint .i64 n] (fun r => r = vbool (pB (setP s n))) := by
  refine acall_of tok mixed 21 rfl (fn := Tryz.f175) (c := Tryz.f175.body.getD .skip) (by kernel_rfl) (by kernel_rfl) (by kernel_rfl) rfl 0 rfl ?_
  repeat' (first | (refine eqv_shl (by omega) ?_) | refine o1 ?_ | refine o2 ?_ | refine k1 ?_ | refine k2 ?_ | refine k7 ?_ | refine And.intro ?_ ?_ | (intro h; first | exact Bool.noConfusion h | exact nz _ h | exact nl h | (simp at h; done) | (simp at h; first | (exfalso; omega) | skip) | skip) | (change retOk _ _ _ _; refine ret_pure rfl trivial ?_) | (refine (?_ : (0 : Int) ≤ _); omega) | fail)
  all_goals first
    | (refine congrArg vbool (pB_f fun h => ?_).symm; obtain ⟨h1, h2, h3, h4⟩ := h; omega)
    | (refine congrArg vbool (pB_eq ?_); simp [setP, *]; done)
theorem c_sound (t : Time) : PCall Tryz.prog 158 [ag t.row] (fun r => r = vbool (pB (soundP t))) := by
  refine acall_of tok mixed 41 rfl (fn := Tryz.f158) (c := Tryz.f158.body.getD .skip) (by kernel_rfl) (by kernel_rfl) (by kernel_rfl) rfl 0 rfl ?_
  repeat' (first | refine o1 ?_ | refine o2 ?_ | refine k1 ?_ | refine k2 ?_ | refine k7 ?_ | refine And.intro ?_ ?_ | (intro h; first | exact Bool.noConfusion h | exact nz _ h | exact nl h | (simp at h; done) | (simp at h; first | (exfalso; omega) | skip) | skip) | (change retOk _ _ _ _; refine ret_pure rfl trivial ?_) | refine eqv_wrap (by omega) (by omega) ?_ | (change vcFun _ _ _ _ _; refine call_eq rfl (by repeat' (first | trivial | refine And.intro ?_ ?_ | (show 0 + _ ≤ List.length _; simp))) ALeL.refl (c_set t.weeks 20) rfl ?_) | fail)
  all_goals first
    | (refine congrArg vbool (pB_f fun h => ?_).symm; obtain ⟨h1, h2, h3, h4, h5, h6, h7⟩ := h; first | omega | exact absurd h1 (by assumption))
    | (refine congrArg vbool (pB_t ?_).symm; exact ⟨by assumption, by omega, by omega, by omega, by omega, by omega, by omega⟩)
    | (refine congrArg vbool (pB_eq ?_); unfold soundP; simp_all; try omega)
theorem c_fits (g : Grid) (w : Int) (t : Time) : PCall Tryz.prog 157 [ag g.row, vint .i64 w, ag t.row] (fun r => r = vint .i64 (fitE g w t)) := by
  refine acall_of tok mixed 40 rfl (fn := Tryz.f157) (c := Tryz.f157.body.getD .skip) (by kernel_rfl) (by kernel_rfl) (by kernel_rfl) rfl 0 rfl ?_
  have hs : soundP t → 0 ≤ t.start ∧ t.start < 24 ∧ 1 ≤ t.len ∧ t.len ≤ 24 := fun ⟨h1, h2, h3, h4, h5, h6, h7⟩ => ⟨by omega, by omega, by omega, by omega⟩
  repeat' (first | (refine eqv_wrap (by have := hs (by assumption); omega) (by have := hs (by assumption); omega) ?_) | refine o1 ?_ | refine o2 ?_ | refine k1 ?_ | refine k2 ?_ | refine k3 ?_ | refine k4 ?_ | refine k6 ?_ | refine k7 ?_ | refine And.intro ?_ ?_ | (intro h; first | exact Bool.noConfusion h | exact nz _ h | exact nl h | (simp at h; done) | (simp at h; first | (exfalso; omega) | skip) | skip) | (change retOk _ _ _ _; refine ret_pure rfl trivial ?_) | (change vcFun _ _ _ _ _; refine call_eq rfl (by repeat' (first | trivial | refine And.intro ?_ ?_ | (show 0 + _ ≤ List.length _; simp))) ALeL.refl (c_week g w) rfl ?_) | (change vcFun _ _ _ _ _; refine call_eq rfl (by repeat' (first | trivial | refine And.intro ?_ ?_ | (show 0 + _ ≤ List.length _; simp))) ALeL.refl (c_sound t) rfl ?_) | (change vcFun _ _ _ _ _; refine call_eq rfl (by repeat' (first | trivial | refine And.intro ?_ ?_ | (show 0 + _ ≤ List.length _; simp))) ALeL.refl (c_set t.weeks w) rfl ?_) | fail)
  all_goals (refine congrArg (vint .i64) ?_; unfold fitE)
  all_goals first
    | (rw [pB_f (by assumption)]; rfl)
    | (rw [pB_t (by assumption), pB_f (fun h => ?_)]; rfl; obtain ⟨h1, h2, h3, h4⟩ := h; first | omega | (exact absurd h1 (by assumption)) | (exact absurd h2 (by assumption)))
    | (rw [pB_t (by assumption), pB_t ⟨by assumption, by assumption, by omega, by omega⟩]; rfl)
end Go.Proofs.YtpnghlibmpainaaGreat.Cw

/-
  Contracts: searching lists with functions; times that fit.
-/
namespace Go.Proofs.YtpnghlibmpainaaGreat.Cw
open Go.Cw Go.Proofs
set_option linter.unusedVariables false
set_option maxRecDepth 100000

def esRow (s : Str) : List PV := [es s]
theorem c_index_time (l : List Time) (f : FuncId) (caps : List PV) (p : Time → Bool) (hl : l.length ≤ 100000) (hf : ∀ x ∈ l, PCall Tryz.prog f (ag (Time.row x) :: pvs caps) (fun r => r = vbool (p x))) :
    PCall Tryz.prog 174 [.pv (.sl 4 (l.map Time.row)), .pv (.fn f caps)] (fun r => r = vint .i64 (idxB p l)) := by
  refine acall_of tok mixed 19 rfl (fn := Tryz.f174) (c := Tryz.f174.body.getD .skip) (by kernel_rfl) (by kernel_rfl) (by kernel_rfl) rfl 0 rfl ?_
  repeat' (first | refine o1 ?_ | refine o2 ?_ | refine k1 ?_ | refine k2 ?_ | refine k4 ?_ | refine eqv_len_map ?_ | fail)
  refine loop_at (fun i : Nat => [(8, vint .i64 i)]) (fun _ => []) (fun i => i ≤ l.length ∧ ∀ j, j < i → ∀ y, l[j]? = some y → p y = false) (fun i => l.length - i) 0 ⟨by omega, fun j hj => by omega⟩ (by repeat' (first | exact trivial | exact ⟨_, rfl, ALe.refl⟩ | refine And.intro ?_ ?_)) (by repeat' (first | exact trivial)) ?_
  intro i ⟨hi, hall⟩
  rcases Nat.lt_or_ge i l.length with hlt | hge
  · obtain ⟨x, hx⟩ := getE hlt
    have hm := List.mem_of_getElem? hx
    repeat' (first | refine o1 ?_ | refine o2 ?_ | refine k1 ?_ | refine k2 ?_ | refine k3 ?_ | refine k4 ?_ | refine k6 ?_ | refine k7 ?_ | refine And.intro ?_ ?_ | (intro h; first | exact Bool.noConfusion h | exact nz _ h | exact nl h | (simp at h; done) | (simp at h; first | (exfalso; omega) | skip) | skip) | (change retOk _ _ _ _; refine ret_pure rfl trivial ?_) | refine eqv_wrap (by omega) (by omega) ?_ | refine ⟨_, _, (by first | rfl | assumption), at_map (by assumption), ?_⟩ | (change vcFun _ _ (_ ++ pvs _) _ _; refine call_cap rfl (by repeat' (first | trivial | refine And.intro ?_ ?_ | (show 0 + _ ≤ List.length _; simp))) (hf x hm) rfl ?_) | fail)
    all_goals first
      | exact ⟨i + 1, ⟨by omega, all_lt_succ hall fun y hy => by rw [hx] at hy; cases hy; assumption⟩, by omega, back [] rfl rfl trivial (by repeat' (first | exact trivial | exact rfl | refine And.intro ?_ ?_))⟩
      | exact congrArg (vint .i64) (idxB_at hall hx (by assumption)).symm
  · repeat' (first | refine o1 ?_ | refine o2 ?_ | refine k1 ?_ | refine k2 ?_ | refine k3 ?_ | refine k7 ?_ | refine k8 ?_ | refine And.intro ?_ ?_ | (intro h; first | exact Bool.noConfusion h | exact nz _ h | exact nl h | (simp at h; done) | (simp at h; first | (exfalso; omega) | skip) | skip) | (change retOk _ _ _ _; refine ret_pure rfl trivial ?_) | fail)
    exact congrArg (vint .i64) (idxB_none fun j hj => hall j (by omega)).symm
theorem c_index_exam (l : List Exam) (f : FuncId) (caps : List PV) (p : Exam → Bool) (hl : l.length ≤ 100000) (hf : ∀ x ∈ l, PCall Tryz.prog f (ag (Exam.row x) :: pvs caps) (fun r => r = vbool (p x))) :
    PCall Tryz.prog 127 [.pv (.sl 4 (l.map Exam.row)), .pv (.fn f caps)] (fun r => r = vint .i64 (idxB p l)) := by
  refine acall_of tok mixed 19 rfl (fn := Tryz.f127) (c := Tryz.f127.body.getD .skip) (by kernel_rfl) (by kernel_rfl) (by kernel_rfl) rfl 0 rfl ?_
  repeat' (first | refine o1 ?_ | refine o2 ?_ | refine k1 ?_ | refine k2 ?_ | refine k4 ?_ | refine eqv_len_map ?_ | fail)
  refine loop_at (fun i : Nat => [(8, vint .i64 i)]) (fun _ => []) (fun i => i ≤ l.length ∧ ∀ j, j < i → ∀ y, l[j]? = some y → p y = false) (fun i => l.length - i) 0 ⟨by omega, fun j hj => by omega⟩ (by repeat' (first | exact trivial | exact ⟨_, rfl, ALe.refl⟩ | refine And.intro ?_ ?_)) (by repeat' (first | exact trivial)) ?_
  intro i ⟨hi, hall⟩
  rcases Nat.lt_or_ge i l.length with hlt | hge
  · obtain ⟨x, hx⟩ := getE hlt
    have hm := List.mem_of_getElem? hx
    repeat' (first | refine o1 ?_ | refine o2 ?_ | refine k1 ?_ | refine k2 ?_ | refine k3 ?_ | refine k4 ?_ | refine k6 ?_ | refine k7 ?_ | refine And.intro ?_ ?_ | (intro h; first | exact Bool.noConfusion h | exact nz _ h | exact nl h | (simp at h; done) | (simp at h; first | (exfalso; omega) | skip) | skip) | (change retOk _ _ _ _; refine ret_pure rfl trivial ?_) | refine eqv_wrap (by omega) (by omega) ?_ | refine ⟨_, _, (by first | rfl | assumption), at_map (by assumption), ?_⟩ | (change vcFun _ _ (_ ++ pvs _) _ _; refine call_cap rfl (by repeat' (first | trivial | refine And.intro ?_ ?_ | (show 0 + _ ≤ List.length _; simp))) (hf x hm) rfl ?_) | fail)
    all_goals first
      | exact ⟨i + 1, ⟨by omega, all_lt_succ hall fun y hy => by rw [hx] at hy; cases hy; assumption⟩, by omega, back [] rfl rfl trivial (by repeat' (first | exact trivial | exact rfl | refine And.intro ?_ ?_))⟩
      | exact congrArg (vint .i64) (idxB_at hall hx (by assumption)).symm
  · repeat' (first | refine o1 ?_ | refine o2 ?_ | refine k1 ?_ | refine k2 ?_ | refine k3 ?_ | refine k7 ?_ | refine k8 ?_ | refine And.intro ?_ ?_ | (intro h; first | exact Bool.noConfusion h | exact nz _ h | exact nl h | (simp at h; done) | (simp at h; first | (exfalso; omega) | skip) | skip) | (change retOk _ _ _ _; refine ret_pure rfl trivial ?_) | fail)
    exact congrArg (vint .i64) (idxB_none fun j hj => hall j (by omega)).symm
theorem c_any_time (l : List Time) (f : FuncId) (caps : List PV) (p : Time → Bool) (hl : l.length ≤ 100000) (hf : ∀ x ∈ l, PCall Tryz.prog f (ag (Time.row x) :: pvs caps) (fun r => r = vbool (p x))) :
    PCall Tryz.prog 155 [.pv (.sl 4 (l.map Time.row)), .pv (.fn f caps)] (fun r => r = vbool (l.any p)) := by
  refine acall_of tok mixed 9 rfl (fn := Tryz.f155) (c := Tryz.f155.body.getD .skip) (by kernel_rfl) (by kernel_rfl) (by kernel_rfl) rfl 0 rfl ?_
  repeat' (first | refine o1 ?_ | refine o2 ?_ | refine k1 ?_ | refine k2 ?_ | refine k7 ?_ | (change retOk _ _ _ _; refine ret_pure rfl trivial ?_) | (change vcFun _ _ _ _ _; refine call_eq rfl (by repeat' (first | trivial | refine And.intro ?_ ?_ | (show 0 + _ ≤ List.length _; simp))) ALeL.refl (c_index_time l f caps p hl hf) rfl ?_) | fail)
  exact congrArg vbool idxB_any
theorem c_any_exam (l : List Exam) (f : FuncId) (caps : List PV) (p : Exam → Bool) (hl : l.length ≤ 100000) (hf : ∀ x ∈ l, PCall Tryz.prog f (ag (Exam.row x) :: pvs caps) (fun r => r = vbool (p x))) :
    PCall Tryz.prog 79 [.pv (.sl 4 (l.map Exam.row)), .pv (.fn f caps)] (fun r => r = vbool (l.any p)) := by
  refine acall_of tok mixed 9 rfl (fn := Tryz.f79) (c := Tryz.f79.body.getD .skip) (by kernel_rfl) (by kernel_rfl) (by kernel_rfl) rfl 0 rfl ?_
  repeat' (first | refine o1 ?_ | refine o2 ?_ | refine k1 ?_ | refine k2 ?_ | refine k7 ?_ | (change retOk _ _ _ _; refine ret_pure rfl trivial ?_) | (change vcFun _ _ _ _ _; refine call_eq rfl (by repeat' (first | trivial | refine And.intro ?_ ?_ | (show 0 + _ ≤ List.length _; simp))) ALeL.refl (c_index_exam l f caps p hl hf) rfl ?_) | fail)
  exact congrArg vbool idxB_any
theorem c_fit1 (t : Time) (g : Grid) (w : Int) : PCall Tryz.prog 156 [ag t.row, .pv (.ia g.row), .pv (.ia [ei w])] (fun r => r = vbool (pB (fitE g w t ≠ 0))) := by
  refine acall_of tok mixed 10 rfl (fn := Tryz.f156) (c := Tryz.f156.body.getD .skip) (by kernel_rfl) (by kernel_rfl) (by kernel_rfl) rfl 0 rfl ?_
  repeat' (first | refine o1 ?_ | refine o2 ?_ | refine k1 ?_ | refine k2 ?_ | refine k7 ?_ | (change retOk _ _ _ _; refine ret_pure rfl trivial ?_) | (change vcFun _ _ _ _ _; refine call_eq rfl (by repeat' (first | trivial | refine And.intro ?_ ?_ | (show 0 + _ ≤ List.length _; simp))) ALeL.refl (c_fits g w t) rfl ?_) | fail)
  exact congrArg vbool (pB_eq (by simp))

theorem c_fit (l : List Time) (g : Grid) (w : Int) (hl : l.length ≤ 100000) : PCall Tryz.prog 125 [.pv (encTimes l), ag g.row, vint .i64 w] (fun r => r = vbool (pB (∀ t ∈ l, fitE g w t = 0))) := by
  refine acall_of tok mixed 11 rfl (fn := Tryz.f125) (c := Tryz.f125.body.getD .skip) (by kernel_rfl) (by kernel_rfl) (by kernel_rfl) rfl 0 rfl ?_
  repeat' (first | refine o1 ?_ | refine o2 ?_ | refine k1 ?_ | refine k2 ?_ | refine k7 ?_ | (change retOk _ _ _ _; refine ret_pure rfl trivial ?_) | (change vcFun _ _ _ _ _; refine call_eq rfl (by repeat' (first | trivial | refine And.intro ?_ ?_ | (show 0 + _ ≤ List.length _; simp))) ALeL.refl (c_any_time l 156 [.ia g.row, .ia [ei w]] (fun t => pB (fitE g w t ≠ 0)) hl (fun t ht => c_fit1 t g w)) rfl ?_) | fail)
  exact congrArg vbool (pB_eq (by simp))
end Go.Proofs.YtpnghlibmpainaaGreat.Cw

/-
  Contracts: rooms.
-/
namespace Go.Proofs.YtpnghlibmpainaaGreat.Cw
open Go.Cw Go.Proofs
set_option linter.unusedVariables false
set_option maxRecDepth 100000

/-- What is wrong with a room. -/
noncomputable def roomE (l : List Room) (g : Grid) (w : Int) (i : Nat) : Int := match l[i]? with
  | none => 0
  | some r => if pB (¬ codeP r.code ∨ ¬ codeP r.bld) then 10 else if r.seats < 1 ∨ 9999 < r.seats then 3 else if 8 < r.feats.length ∨ 24 < r.closed.length then 2 else
    if pB (ascP r.feats) then (if pB (∀ t ∈ r.closed, fitE g w t = 0) then (if pB (∃ j, j < i ∧ ∃ q, l[j]? = some q ∧ q.code = r.code) then 11 else 0) else 14) else 10
noncomputable def roomsE (l : List Room) (g : Grid) (w : Int) : Int := if pB (weekP g w) then (if 16 < l.length then 2 else firstE (roomE l g w) l.length) else 1

theorem roomsE_at {l : List Room} {g : Grid} {w : Int} {i : Nat} (hw : weekP g w) (hn : l.length ≤ 16) (h0 : ∀ j, j < i → roomE l g w j = 0) (hi : i < l.length) (h : roomE l g w i ≠ 0) : roomsE l g w = roomE l g w i := by
  unfold roomsE
  rw [pB_t hw, if_pos rfl, if_neg (by omega), firstE_at h0 h hi]

theorem roomE_eq {l : List Room} {g : Grid} {w : Int} {i : Nat} {r : Room} (hr : l[i]? = some r) : roomE l g w i = if pB (¬ codeP r.code ∨ ¬ codeP r.bld) then 10 else if r.seats < 1 ∨ 9999 < r.seats then 3 else if 8 < r.feats.length ∨ 24 < r.closed.length then 2 else
    if pB (ascP r.feats) then (if pB (∀ t ∈ r.closed, fitE g w t = 0) then (if pB (∃ j, j < i ∧ ∃ q, l[j]? = some q ∧ q.code = r.code) then 11 else 0) else 14) else 10 := by unfold roomE; rw [hr]

section
variable {l : List Room} {g : Grid} {w : Int} {i : Nat} {r : Room} (hr : l[i]? = some r)
include hr
theorem rE1 (h : ¬ codeP r.code ∨ ¬ codeP r.bld) : roomE l g w i = 10 := by rw [roomE_eq hr, if_pos (pB_t h)]
theorem rE2 (h1 : codeP r.code) (h2 : codeP r.bld) (h : r.seats < 1 ∨ 9999 < r.seats) : roomE l g w i = 3 := by rw [roomE_eq hr, if_neg (by simp [h1, h2]), if_pos h]
theorem rE3 (h1 : codeP r.code) (h2 : codeP r.bld) (h3 : 1 ≤ r.seats ∧ r.seats ≤ 9999) (h : 8 < r.feats.length ∨ 24 < r.closed.length) : roomE l g w i = 2 := by rw [roomE_eq hr, if_neg (by simp [h1, h2]), if_neg (by omega), if_pos h]
theorem rE4 (h1 : codeP r.code) (h2 : codeP r.bld) (h3 : 1 ≤ r.seats ∧ r.seats ≤ 9999) (h4 : r.feats.length ≤ 8 ∧ r.closed.length ≤ 24) (h : ¬ ascP r.feats) : roomE l g w i = 10 := by rw [roomE_eq hr, if_neg (by simp [h1, h2]), if_neg (by omega), if_neg (by omega), if_neg (by simp [h])]
theorem rE5 (h1 : codeP r.code) (h2 : codeP r.bld) (h3 : 1 ≤ r.seats ∧ r.seats ≤ 9999) (h4 : r.feats.length ≤ 8 ∧ r.closed.length ≤ 24) (h5 : ascP r.feats) (h : ¬ ∀ t ∈ r.closed, fitE g w t = 0) : roomE l g w i = 14 := by rw [roomE_eq hr, if_neg (by simp [h1, h2]), if_neg (by omega), if_neg (by omega), if_pos (pB_t h5), if_neg (by rw [pB_f h]; simp)]
theorem rE6 (h1 : codeP r.code) (h2 : codeP r.bld) (h3 : 1 ≤ r.seats ∧ r.seats ≤ 9999) (h4 : r.feats.length ≤ 8 ∧ r.closed.length ≤ 24) (h5 : ascP r.feats) (h6 : ∀ t ∈ r.closed, fitE g w t = 0) (h : ∃ j, j < i ∧ ∃ q, l[j]? = some q ∧ q.code = r.code) : roomE l g w i = 11 := by rw [roomE_eq hr, if_neg (by simp [h1, h2]), if_neg (by omega), if_neg (by omega), if_pos (pB_t h5), if_pos (pB_t h6), if_pos (pB_t h)]
theorem rE7 (h1 : codeP r.code) (h2 : codeP r.bld) (h3 : 1 ≤ r.seats ∧ r.seats ≤ 9999) (h4 : r.feats.length ≤ 8 ∧ r.closed.length ≤ 24) (h5 : ascP r.feats) (h6 : ∀ t ∈ r.closed, fitE g w t = 0) (h : ¬ ∃ j, j < i ∧ ∃ q, l[j]? = some q ∧ q.code = r.code) : roomE l g w i = 0 := by rw [roomE_eq hr, if_neg (by simp [h1, h2]), if_neg (by omega), if_neg (by omega), if_pos (pB_t h5), if_pos (pB_t h6), if_neg (by rw [pB_f h]; simp)]
end
theorem room_fin {l : List Room} {g : Grid} {w : Int} {i : Nat} {k : Int} (hw : weekP g w) (hn : l.length ≤ 16) (h0 : ∀ j, j < i → roomE l g w j = 0) (hi : i < l.length) (hk : k ≠ 0) (h : roomE l g w i = k) : AV.pv (.val (.int .i64 k)) = vint .i64 (roomsE l g w) :=
  congrArg (vint .i64) (by rw [roomsE_at hw hn h0 hi (by rw [h]; exact hk), h])

def metP (l : List Room) (i : Nat) (es : List (Value × Nat × AV)) : Prop := (strM es ∧ pureM es) ∧ ∀ c : Str, ((∃ j, j < i ∧ ∃ q, l[j]? = some q ∧ q.code = c) → getM (.string c) es = some (vbool true)) ∧ (¬ (∃ j, j < i ∧ ∃ q, l[j]? = some q ∧ q.code = c) → getM (.string c) es = none)

theorem metP_next {l : List Room} {i : Nat} {es : List (Value × Nat × AV)} {r : Room} {ck : Nat} (h : metP l i es) (hr : l[i]? = some r) : metP l (i + 1) (putM (.string r.code) (vbool true) ck es) := by
  refine ⟨⟨strM_put h.1.1, pureM_put h.1.2⟩, fun c => ?_⟩
  have hp := get_put_str (a := c) (b := r.code) (v := vbool true) (ck := ck) h.1.1
  by_cases e : c = r.code
  · exact ⟨fun _ => hp.1 e, fun hn => absurd ⟨i, by omega, r, hr, e.symm⟩ hn⟩
  · rw [hp.2 e]
    refine ⟨fun ⟨j, hj, q, hq, hc⟩ => (h.2 c).1 ⟨j, ?_, q, hq, hc⟩, fun hn => (h.2 c).2 fun ⟨j, hj, q, hq, hc⟩ => hn ⟨j, by omega, q, hq, hc⟩⟩
    rcases Nat.lt_or_ge j i with h1 | h1
    · exact h1
    · have : j = i := by omega
      subst this
      rw [hr] at hq; injection hq with hq; subst hq
      exact absurd hc.symm e

theorem c_rooms (l : List Room) (g : Grid) (w : Int) : PCall Tryz.prog 77 [.pv (encRooms l), ag g.row, vint .i64 w] (fun r => r = vint .i64 (roomsE l g w)) := by
  refine acall_of tok mixed 78 rfl (fn := Tryz.f77) (c := Tryz.f77.body.getD .skip) (by kernel_rfl) (by kernel_rfl) (by kernel_rfl) rfl 0 rfl ?_
  repeat' (first | refine o1 ?_ | refine o2 ?_ | refine k1 ?_ | refine k2 ?_ | refine k3 ?_ | refine k4 ?_ | refine k6 ?_ | refine k7 ?_ | refine And.intro ?_ ?_ | (intro h; first | exact Bool.noConfusion h | exact nz _ h | exact nl h | (simp at h; done) | (simp at h; first | (exfalso; omega) | skip) | skip) | (change retOk _ _ _ _; refine ret_pure rfl trivial ?_) | refine eqv_len_map ?_ | (change vcFun _ _ _ _ _; refine call_eq rfl (by repeat' (first | trivial | refine And.intro ?_ ?_ | (show 0 + _ ≤ List.length _; simp))) ALeL.refl (c_week g w) rfl ?_) | fail)
  · exact congrArg (vint .i64) (by simp [roomsE, *])
  · exact congrArg (vint .i64) (by simp [roomsE, *]; omega)
  · have hw : weekP g w := by assumption
    have hn : l.length ≤ 16 := by omega
    refine loop_at (fun x : Nat × List (Value × Nat × AV) × Nat => [(22, vint .i64 x.1)]) (fun x => [(1, some (.mp true .i64 x.2.1 x.2.2))]) (fun x => x.1 ≤ l.length ∧ metP l x.1 x.2.1 ∧ ∀ j, j < x.1 → roomE l g w j = 0) (fun x => l.length - x.1) (0, [], 0)
      ⟨by simp, ⟨⟨fun e he => by simp at he, fun e he => by simp at he⟩, fun c => ⟨fun ⟨j, hj, _⟩ => by simp at hj, fun _ => rfl⟩⟩, fun j hj => by simp at hj⟩ (by repeat' (first | exact trivial | exact ⟨_, rfl, ALe.refl⟩ | refine And.intro ?_ ?_)) (by repeat' (first | exact trivial | exact rfl | refine And.intro ?_ ?_)) ?_
    rintro ⟨i, es', ck⟩ ⟨hi, hmet, hall⟩
    dsimp only at hi hmet hall
    rcases Nat.lt_or_ge i l.length with hlt | hge
    · obtain ⟨r, hr⟩ := getE hlt
      by_cases hd : ∃ j, j < i ∧ ∃ q, l[j]? = some q ∧ q.code = r.code
      · have hg := (hmet.2 r.code).1 hd
        repeat' (first | (refine eqv_to _ hg ?_) | refine o1 ?_ | refine o2 ?_ | refine k1 ?_ | refine k2 ?_ | refine k3 ?_ | refine k4 ?_ | refine k6 ?_ | refine k7 ?_ | refine And.intro ?_ ?_ | (intro h; first | exact Bool.noConfusion h | exact nz _ h | exact nl h | (simp at h; done) | (simp at h; first | (exfalso; omega) | skip) | skip) | (change retOk _ _ _ _; refine ret_pure rfl trivial ?_) | exact (by kernel_rfl : drawOk _ _ = true) | refine eqv_len_map ?_ | refine ⟨_, _, (by first | rfl | assumption), at_map (by assumption), ?_⟩ | (change vcFun _ _ _ _ _; refine call_eq rfl (by repeat' (first | trivial | refine And.intro ?_ ?_ | (show 0 + _ ≤ List.length _; simp))) ALeL.refl (c_code r.code) rfl ?_) | (change vcFun _ _ _ _ _; refine call_eq rfl (by repeat' (first | trivial | refine And.intro ?_ ?_ | (show 0 + _ ≤ List.length _; simp))) ALeL.refl (c_code r.bld) rfl ?_) | (change vcFun _ _ _ _ _; refine call_eq rfl (by repeat' (first | trivial | refine And.intro ?_ ?_ | (show 0 + _ ≤ List.length _; simp))) ALeL.refl (c_asc r.feats (by omega)) rfl ?_) | (change vcFun _ _ _ _ _; refine call_eq rfl (by repeat' (first | trivial | refine And.intro ?_ ?_ | (show 0 + _ ≤ List.length _; simp))) ALeL.refl (c_fit r.closed g w (by omega)) rfl ?_) | fail)
        all_goals first
          | exact room_fin hw hn hall hlt (by decide) (rE1 hr (by first | exact .inl (by assumption) | exact .inr (by assumption)))
          | exact room_fin hw hn hall hlt (by decide) (rE2 hr (by assumption) (by assumption) (by omega))
          | exact room_fin hw hn hall hlt (by decide) (rE3 hr (by assumption) (by assumption) (by omega) (by omega))
          | exact room_fin hw hn hall hlt (by decide) (rE4 hr (by assumption) (by assumption) (by omega) (by omega) (by assumption))
          | exact room_fin hw hn hall hlt (by decide) (rE5 hr (by assumption) (by assumption) (by omega) (by omega) (by assumption) (by first | assumption | simpa using ‹_›))
          | exact room_fin hw hn hall hlt (by decide) (rE6 hr (by assumption) (by assumption) (by omega) (by omega) (by assumption) (by assumption) hd)
      · have hg := (hmet.2 r.code).2 hd
        repeat' (first | (refine eqv_to _ hg ?_) | refine o1 ?_ | refine o2 ?_ | refine k1 ?_ | refine k2 ?_ | refine k3 ?_ | refine k4 ?_ | refine k6 ?_ | refine k7 ?_ | refine And.intro ?_ ?_ | (intro h; first | exact Bool.noConfusion h | exact nz _ h | exact nl h | (simp at h; done) | (simp at h; first | (exfalso; omega) | skip) | skip) | (change retOk _ _ _ _; refine ret_pure rfl trivial ?_) | exact (by kernel_rfl : drawOk _ _ = true) | refine eqv_len_map ?_ | refine eqv_put (eqv_ck ?_) | refine eqv_wrap (by omega) (by omega) ?_ | refine ⟨_, _, (by first | rfl | assumption), at_map (by assumption), ?_⟩ | (change vcFun _ _ _ _ _; refine call_eq rfl (by repeat' (first | trivial | refine And.intro ?_ ?_ | (show 0 + _ ≤ List.length _; simp))) ALeL.refl (c_code r.code) rfl ?_) | (change vcFun _ _ _ _ _; refine call_eq rfl (by repeat' (first | trivial | refine And.intro ?_ ?_ | (show 0 + _ ≤ List.length _; simp))) ALeL.refl (c_code r.bld) rfl ?_) | (change vcFun _ _ _ _ _; refine call_eq rfl (by repeat' (first | trivial | refine And.intro ?_ ?_ | (show 0 + _ ≤ List.length _; simp))) ALeL.refl (c_asc r.feats (by omega)) rfl ?_) | (change vcFun _ _ _ _ _; refine call_eq rfl (by repeat' (first | trivial | refine And.intro ?_ ?_ | (show 0 + _ ≤ List.length _; simp))) ALeL.refl (c_fit r.closed g w (by omega)) rfl ?_) | fail)
        all_goals first
          | exact room_fin hw hn hall hlt (by decide) (rE1 hr (by first | exact .inl (by assumption) | exact .inr (by assumption)))
          | exact room_fin hw hn hall hlt (by decide) (rE2 hr (by assumption) (by assumption) (by omega))
          | exact room_fin hw hn hall hlt (by decide) (rE3 hr (by assumption) (by assumption) (by omega) (by omega))
          | exact room_fin hw hn hall hlt (by decide) (rE4 hr (by assumption) (by assumption) (by omega) (by omega) (by assumption))
          | exact room_fin hw hn hall hlt (by decide) (rE5 hr (by assumption) (by assumption) (by omega) (by omega) (by assumption) (by first | assumption | simpa using ‹_›))
          | exact room_fin hw hn hall hlt (by decide) (rE6 hr (by assumption) (by assumption) (by omega) (by omega) (by assumption) (by assumption) hd)
          | exact ⟨(i + 1, _, _), ⟨hlt, metP_next hmet hr, all_lt_succ hall (rE7 hr (by assumption) (by assumption) (by omega) (by omega) (by assumption) (by assumption) hd)⟩, by dsimp only; omega, back [0, 1] rfl rfl ⟨rfl, (congrArg (fun o => some (some o)) (ren_mp (pureM_put (p := .val (.bool true)) (k := .string r.code) (ck := ck) hmet.1.2)).symm), trivial⟩ (by repeat' (first | exact trivial | exact rfl | refine And.intro ?_ ?_))⟩
    · repeat' (first | refine o1 ?_ | refine o2 ?_ | refine k1 ?_ | refine k2 ?_ | refine k3 ?_ | refine k7 ?_ | refine k8 ?_ | refine And.intro ?_ ?_ | (intro h; first | exact Bool.noConfusion h | exact nz _ h | exact nl h | (simp at h; done) | (simp at h; first | (exfalso; omega) | skip) | skip) | (change retOk _ _ _ _; refine ret_pure rfl trivial ?_) | fail)
      exact congrArg (vint .i64) (by rw [roomsE, pB_t hw, if_pos rfl, if_neg (by omega), firstE_zero fun j hj => hall j (by omega)])
end Go.Proofs.YtpnghlibmpainaaGreat.Cw

/-
  Contracts: rooms, the reference.
-/
namespace Go.Proofs.YtpnghlibmpainaaGreat.Cw
open Go.Cw Go.Proofs
set_option linter.unusedVariables false
set_option maxRecDepth 100000

end Go.Proofs.YtpnghlibmpainaaGreat.Cw

/-
  Contracts: comparisons of numbers; sittings.
-/
namespace Go.Proofs.YtpnghlibmpainaaGreat.Cw
open Go.Cw Go.Proofs
set_option linter.unusedVariables false
set_option maxRecDepth 100000

def cmpI (a b : Int) : Int := if a < b then -1 else if a > b then 1 else 0
def orI : List Int → Int
  | [] => 0
  | x :: l => if x = 0 then orI l else x

theorem orI_at : ∀ {l : List Int} {i : Nat} {x : Int}, (∀ j, j < i → ∀ y, l[j]? = some y → y = 0) → l[i]? = some x → x ≠ 0 → orI l = x
  | [], i, x, _, h, _ => by simp at h
  | y :: l, 0, x, _, h, hx => by simp at h; subst h; simp [orI, hx]
  | y :: l, i + 1, x, h0, h, hx => by
    have := h0 0 (by omega) y rfl
    subst this
    simp only [orI, if_true]
    exact orI_at (i := i) (fun j hj z hz => h0 (j + 1) (by omega) z (by simpa using hz)) (by simpa using h) hx
theorem orI_zero : ∀ {l : List Int}, (∀ j, j < l.length → ∀ y, l[j]? = some y → y = 0) → orI l = 0
  | [], _ => rfl
  | y :: l, h0 => by
    have := h0 0 (by simp) y rfl
    subst this
    simp only [orI, if_true]
    exact orI_zero fun j hj z hz => h0 (j + 1) (by simpa using hj) z (by simpa using hz)

theorem c_isNaN (a : Int) : PCall Tryz.prog 139 [vint .i64 a] (fun r => r = vbool false) := by
  refine acall_of tok mixed 6 rfl (fn := Tryz.f139) (c := Tryz.f139.body.getD .skip) (by kernel_rfl) (by kernel_rfl) (by kernel_rfl) rfl 0 rfl ?_
  repeat' (first | refine o1 ?_ | refine o2 ?_ | refine k1 ?_ | refine k2 ?_ | refine k7 ?_ | (change retOk _ _ _ _; refine ret_pure rfl trivial ?_) | fail)
  exact congrArg vbool (by simp)

theorem c_cmp (a b : Int) : PCall Tryz.prog 102 [vint .i64 a, vint .i64 b] (fun r => r = vint .i64 (cmpI a b)) := by
  refine acall_of tok mixed 20 rfl (fn := Tryz.f102) (c := Tryz.f102.body.getD .skip) (by kernel_rfl) (by kernel_rfl) (by kernel_rfl) rfl 0 rfl ?_
  repeat' (first | refine o1 ?_ | refine o2 ?_ | refine k1 ?_ | refine k2 ?_ | refine k3 ?_ | refine k6 ?_ | refine k7 ?_ | refine And.intro ?_ ?_ | (intro h; first | exact Bool.noConfusion h | exact nz _ h | exact nl h | (simp at h; done) | (simp at h; first | (exfalso; omega) | skip) | skip) | (change retOk _ _ _ _; refine ret_pure rfl trivial ?_) | (change vcFun _ _ _ _ _; refine call_eq rfl (by repeat' (first | trivial | refine And.intro ?_ ?_ | (show 0 + _ ≤ List.length _; simp))) ALeL.refl (c_isNaN _) rfl ?_) | fail)
  all_goals exact congrArg (vint .i64) (by unfold cmpI; split <;> first | omega | (split <;> omega))

theorem c_or (l : List Int) (hl : l.length ≤ 1000) : PCall Tryz.prog 101 [.pv (encInts l)] (fun r => r = vint .i64 (orI l)) := by
  refine acall_of tok mixed 18 rfl (fn := Tryz.f101) (c := Tryz.f101.body.getD .skip) (by kernel_rfl) (by kernel_rfl) (by kernel_rfl) rfl 0 rfl ?_
  repeat' (first | refine o1 ?_ | refine o2 ?_ | refine k1 ?_ | refine k2 ?_ | refine k4 ?_ | refine eqv_len_map ?_ | fail)
  refine loop_at (fun i : Nat => [(8, vint .i64 i)]) (fun _ => []) (fun i => i ≤ l.length ∧ ∀ j, j < i → ∀ y, l[j]? = some y → y = 0) (fun i => l.length - i) 0 ⟨by omega, fun j hj => by omega⟩ (by repeat' (first | exact trivial | exact ⟨_, rfl, ALe.refl⟩ | refine And.intro ?_ ?_)) (by repeat' (first | exact trivial)) ?_
  intro i ⟨hi, hall⟩
  rcases Nat.lt_or_ge i l.length with hlt | hge
  · obtain ⟨x, hx⟩ := getE hlt
    repeat' (first | refine o1 ?_ | refine o2 ?_ | refine k1 ?_ | refine k2 ?_ | refine k3 ?_ | refine k4 ?_ | refine k6 ?_ | refine k7 ?_ | refine And.intro ?_ ?_ | (intro h; first | exact Bool.noConfusion h | exact nz _ h | exact nl h | (simp at h; done) | (simp at h; first | (exfalso; omega) | skip) | skip) | (change retOk _ _ _ _; refine ret_pure rfl trivial ?_) | refine eqv_wrap (by omega) (by omega) ?_ | refine ⟨_, _, (by first | rfl | assumption), at_map (by assumption), ?_⟩ | fail)
    all_goals first
      | exact ⟨i + 1, ⟨by omega, all_lt_succ hall fun y hy => by rw [hx] at hy; cases hy; assumption⟩, by omega, back [] rfl rfl trivial (by repeat' (first | exact trivial | exact rfl | refine And.intro ?_ ?_))⟩
      | exact congrArg (vint .i64) (orI_at hall hx (by assumption)).symm
  · repeat' (first | refine o1 ?_ | refine o2 ?_ | refine k1 ?_ | refine k2 ?_ | refine k3 ?_ | refine k7 ?_ | refine k8 ?_ | refine And.intro ?_ ?_ | (intro h; first | exact Bool.noConfusion h | exact nz _ h | exact nl h | (simp at h; done) | (simp at h; first | (exfalso; omega) | skip) | skip) | (change retOk _ _ _ _; refine ret_pure rfl trivial ?_) | fail)
    exact congrArg (vint .i64) (orI_zero fun j hj => hall j (by omega)).symm
end Go.Proofs.YtpnghlibmpainaaGreat.Cw

/-
  Contracts: comparisons of numbers; sittings.
-/
namespace Go.Proofs.YtpnghlibmpainaaGreat.Cw
open Go.Cw Go.Proofs
set_option linter.unusedVariables false
set_option maxRecDepth 100000

def timedP (s : Sitting) : Prop := 0 ≤ s.day ∧ s.day < 140 ∧ 0 ≤ s.start ∧ s.start < 24 ∧ 1 ≤ s.len ∧ s.len ≤ 24 - s.start
def lexP (p s : Sitting) : Prop := p.day < s.day ∨ (p.day = s.day ∧ p.start < s.start)
theorem lex_cmp {p s : Sitting} : orI [cmpI p.day s.day, cmpI p.start s.start] < 0 ↔ lexP p s := by
  simp only [orI, cmpI, lexP]
  grind

theorem c_timed (s : Sitting) : PCall Tryz.prog 38 [ag s.row] (fun r => r = vbool (pB (timedP s))) := by
  refine acall_of tok mixed 32 rfl (fn := Tryz.f38) (c := Tryz.f38.body.getD .skip) (by kernel_rfl) (by kernel_rfl) (by kernel_rfl) rfl 0 rfl ?_
  repeat' (first | refine o1 ?_ | refine o2 ?_ | refine k1 ?_ | refine k2 ?_ | refine k3 ?_ | refine k6 ?_ | refine k7 ?_ | refine And.intro ?_ ?_ | (intro h; first | exact Bool.noConfusion h | exact nz _ h | exact nl h | (simp at h; done) | (simp at h; first | (exfalso; omega) | skip) | skip) | (change retOk _ _ _ _; refine ret_pure rfl trivial ?_) | refine eqv_wrap (by omega) (by omega) ?_ | fail)
  all_goals first
    | (refine congrArg vbool (pB_f fun h => ?_).symm; obtain ⟨h1, h2, h3, h4, h5, h6⟩ := h; omega)
    | (refine congrArg vbool (pB_t ?_).symm; exact ⟨by omega, by omega, by omega, by omega, by omega, by omega⟩)
    | (refine congrArg vbool (pB_eq ?_); unfold timedP; simp; omega)
/-- What is wrong with a sitting. -/
noncomputable def sitE (l : List Sitting) (i : Nat) : Int := match l[i]? with
  | none => 0
  | some s => if pB (timedP s) then (if s.cost < 0 ∨ 1000 < s.cost then 3 else if pB (∃ k p, i = k + 1 ∧ l[k]? = some p ∧ ¬ lexP p s) then 63 else 0) else 14
noncomputable def sitsE (l : List Sitting) : Int := if 24 < l.length then 2 else firstE (sitE l) l.length

section
variable {l : List Sitting} {i : Nat} {s : Sitting} (hr : l[i]? = some s)
include hr
theorem sE1 (h : ¬ timedP s) : sitE l i = 14 := by unfold sitE; rw [hr]; simp [h]
theorem sE2 (h1 : timedP s) (h : s.cost < 0 ∨ 1000 < s.cost) : sitE l i = 3 := by unfold sitE; rw [hr]; dsimp only; rw [if_pos (pB_t h1), if_pos h]
theorem sE3 (h1 : timedP s) (h2 : 0 ≤ s.cost ∧ s.cost ≤ 1000) (h : ∃ k p, i = k + 1 ∧ l[k]? = some p ∧ ¬ lexP p s) : sitE l i = 63 := by unfold sitE; rw [hr]; dsimp only; rw [if_pos (pB_t h1), if_neg (by omega), if_pos (pB_t h)]
theorem sE4 (h1 : timedP s) (h2 : 0 ≤ s.cost ∧ s.cost ≤ 1000) (h : ¬ ∃ k p, i = k + 1 ∧ l[k]? = some p ∧ ¬ lexP p s) : sitE l i = 0 := by unfold sitE; rw [hr]; dsimp only; rw [if_pos (pB_t h1), if_neg (by omega), if_neg (by rw [pB_f h]; simp)]
end
theorem sit_fin {l : List Sitting} {i : Nat} {k : Int} (hn : l.length ≤ 24) (h0 : ∀ j, j < i → sitE l j = 0) (hi : i < l.length) (hk : k ≠ 0) (h : sitE l i = k) : AV.pv (.val (.int .i64 k)) = vint .i64 (sitsE l) :=
  congrArg (vint .i64) (by rw [sitsE, if_neg (by omega), firstE_at h0 (by rw [h]; exact hk) hi, h])

theorem c_sits (l : List Sitting) : PCall Tryz.prog 81 [.pv (.sl 4 (l.map Sitting.row))] (fun r => r = vint .i64 (sitsE l)) := by
  refine acall_of tok mixed 55 rfl (fn := Tryz.f81) (c := Tryz.f81.body.getD .skip) (by kernel_rfl) (by kernel_rfl) (by kernel_rfl) rfl 0 rfl ?_
  repeat' (first | refine o1 ?_ | refine o2 ?_ | refine k1 ?_ | refine k2 ?_ | refine k3 ?_ | refine k4 ?_ | refine k6 ?_ | refine k7 ?_ | refine And.intro ?_ ?_ | (intro h; first | exact Bool.noConfusion h | exact nz _ h | exact nl h | (simp at h; done) | (simp at h; first | (exfalso; omega) | skip) | skip) | (change retOk _ _ _ _; refine ret_pure rfl trivial ?_) | refine eqv_len_map ?_ | fail)
  · exact congrArg (vint .i64) (by rw [sitsE, if_pos (by omega)])
  · refine loop_at (fun i : Nat => [(10, vint .i64 i)]) (fun _ => []) (fun i => i ≤ l.length ∧ ∀ j, j < i → sitE l j = 0) (fun i => l.length - i) 0 ⟨by omega, fun j hj => by omega⟩ (by repeat' (first | exact trivial | exact ⟨_, rfl, ALe.refl⟩ | refine And.intro ?_ ?_)) (by repeat' (first | exact trivial)) ?_
    intro i ⟨hi, hall⟩
    rcases Nat.lt_or_ge i l.length with hlt | hge
    · obtain ⟨s, hs⟩ := getE hlt
      rcases i with _ | k
      · repeat' (first | refine o1 ?_ | refine o2 ?_ | refine k1 ?_ | refine k2 ?_ | refine k3 ?_ | refine k4 ?_ | refine k6 ?_ | refine k7 ?_ | refine k8 ?_ | refine And.intro ?_ ?_ | refine o3 ?_ | refine o4 ?_ | (intro h; first | exact Bool.noConfusion h | exact nz _ h | exact nl h | (simp at h; done) | (simp at h; first | (exfalso; omega) | skip) | skip) | (change retOk _ _ _ _; refine ret_pure rfl trivial ?_) | exact (by kernel_rfl : drawOk _ _ = true) | refine eqv_wrap (by omega) (by omega) ?_ | refine ⟨_, _, (by first | rfl | assumption), at_map (by assumption), ?_⟩ | (change vcFun _ _ _ _ _; refine call_eq rfl (by repeat' (first | trivial | refine And.intro ?_ ?_ | (show 0 + _ ≤ List.length _; simp))) ALeL.refl (c_timed s) rfl ?_) | fail)
        all_goals first
          | (exfalso; simp_all; done)
          | exact sit_fin (by omega) hall hlt (by decide) (sE1 hs (by assumption))
          | exact sit_fin (by omega) hall hlt (by decide) (sE2 hs (by assumption) (by omega))
          | exact ⟨1, ⟨by omega, all_lt_succ hall (sE4 hs (by assumption) (by omega) (fun ⟨k, p, e, _⟩ => by omega))⟩, by omega, back [] rfl rfl trivial (by repeat' (first | exact trivial | exact rfl | refine And.intro ?_ ?_))⟩
      · obtain ⟨p, hp⟩ := getE (show k < l.length by omega)
        have hlx := @lex_cmp p s
        repeat' (first | (refine idx_sl (k := k + 1) (at_map hs) (by omega) ?_) | (refine idx_sl (k := k) (at_map hp) (by omega) ?_) | refine o1 ?_ | refine o2 ?_ | refine k1 ?_ | refine k2 ?_ | refine k3 ?_ | refine k4 ?_ | refine k6 ?_ | refine k7 ?_ | refine And.intro ?_ ?_ | refine o3 ?_ | refine o4 ?_ | (intro h; first | exact Bool.noConfusion h | exact nz _ h | exact nl h | (simp at h; done) | (simp at h; first | (exfalso; omega) | skip) | skip) | (change retOk _ _ _ _; refine ret_pure rfl trivial ?_) | exact (by kernel_rfl : drawOk _ _ = true) | refine eqv_wrap (by omega) (by omega) ?_ | (change vcFunD _ _ _ _ _; refine callD_eq rfl (by repeat' (first | trivial | refine And.intro ?_ ?_ | (show 0 + _ ≤ List.length _; simp))) ALeL.refl (c_cmp _ _) rfl ?_) | (change vcFunD _ _ _ _ _; refine callD_eq rfl (by repeat' (first | trivial | refine And.intro ?_ ?_ | (show 0 + _ ≤ List.length _; simp))) ALeL.refl (c_or [cmpI p.day s.day, cmpI p.start s.start] (Nat.le_of_ble_eq_true rfl)) rfl ?_) | (change vcFun _ _ _ _ _; refine call_eq rfl (by repeat' (first | trivial | refine And.intro ?_ ?_ | (show 0 + _ ≤ List.length _; simp))) ALeL.refl (c_timed s) rfl ?_) | fail)
        all_goals first
          | exact sit_fin (by omega) hall hlt (by decide) (sE1 hs (by assumption))
          | exact sit_fin (by omega) hall hlt (by decide) (sE2 hs (by assumption) (by omega))
          | exact sit_fin (by omega) hall hlt (by decide) (sE3 hs (by assumption) (by omega) ⟨k, p, rfl, hp, fun h => by have := hlx.2 h; omega⟩)
          | exact ⟨k + 2, ⟨by omega, all_lt_succ hall (sE4 hs (by assumption) (by omega) (fun ⟨k', p', e, h1, h2⟩ => h2 (by cases e; rw [hp] at h1; cases h1; exact hlx.1 (by omega))))⟩, by omega, back [] rfl rfl trivial (by repeat' (first | exact trivial | exact rfl | refine And.intro ?_ ?_))⟩
    · repeat' (first | refine o1 ?_ | refine o2 ?_ | refine k1 ?_ | refine k2 ?_ | refine k3 ?_ | refine k7 ?_ | refine k8 ?_ | refine And.intro ?_ ?_ | (intro h; first | exact Bool.noConfusion h | exact nz _ h | exact nl h | (simp at h; done) | (simp at h; first | (exfalso; omega) | skip) | skip) | (change retOk _ _ _ _; refine ret_pure rfl trivial ?_) | fail)
      exact congrArg (vint .i64) (by rw [sitsE, if_neg (by omega), firstE_zero fun j hj => hall j (by omega)])
end Go.Proofs.YtpnghlibmpainaaGreat.Cw

/-
  Contracts: exams by themselves.
-/
namespace Go.Proofs.YtpnghlibmpainaaGreat.Cw
open Go.Cw Go.Proofs
set_option linter.unusedVariables false
set_option maxRecDepth 100000
set_option maxHeartbeats 800000

/-- What is wrong with an exam. -/
noncomputable def examE (e : Exam) : Int :=
  if pB (codeP e.code) then
    if e.len < 1 ∨ 24 < e.len then 3
    else if 8 < e.feats.length ∨ 64 < e.studs.length then 2
    else if e.studs = [] then 16
    else if pB (ascP e.feats ∧ ascP e.studs) then 0 else 10
  else 10
section
variable {e : Exam}
theorem xE1 (h : ¬ codeP e.code) : examE e = 10 := by unfold examE; rw [if_neg (by rw [pB_f h]; simp)]
variable (hc : codeP e.code)
include hc
theorem xE2 (h : e.len < 1 ∨ 24 < e.len) : examE e = 3 := by unfold examE; rw [if_pos (pB_t hc), if_pos h]
variable (h1 : 1 ≤ e.len ∧ e.len ≤ 24)
include h1
theorem xE3 (h : 8 < e.feats.length ∨ 64 < e.studs.length) : examE e = 2 := by unfold examE; rw [if_pos (pB_t hc), if_neg (by omega), if_pos h]
variable (h2 : e.feats.length ≤ 8 ∧ e.studs.length ≤ 64)
include h2
theorem xE4 (h : e.studs = []) : examE e = 16 := by unfold examE; rw [if_pos (pB_t hc), if_neg (by omega), if_neg (by omega), if_pos h]
variable (h3 : ¬ e.studs = [])
include h3
theorem xE5 (h : ¬ (ascP e.feats ∧ ascP e.studs)) : examE e = 10 := by unfold examE; rw [if_pos (pB_t hc), if_neg (by omega), if_neg (by omega), if_neg h3, if_neg (by rw [pB_f h]; simp)]
theorem xE6 (h : ascP e.feats ∧ ascP e.studs) : examE e = 0 := by unfold examE; rw [if_pos (pB_t hc), if_neg (by omega), if_neg (by omega), if_neg h3, if_pos (pB_t h)]
end

theorem c_exam (e : Exam) : PCall Tryz.prog 78 [ag e.row] (fun r => r = vint .i64 (examE e)) := by
  refine acall_of tok mixed 44 rfl (fn := Tryz.f78) (c := Tryz.f78.body.getD .skip) (by kernel_rfl) (by kernel_rfl) (by kernel_rfl) rfl 0 rfl ?_
  repeat' (first | refine o1 ?_ | refine o2 ?_ | refine k1 ?_ | refine k2 ?_ | refine k3 ?_ | refine k4 ?_ | refine k6 ?_ | refine k7 ?_ | refine And.intro ?_ ?_ | (intro h; first | exact Bool.noConfusion h | exact nz _ h | exact nl h | (simp at h; done) | (simp at h; first | (exfalso; omega) | skip) | skip) | (change retOk _ _ _ _; refine ret_pure rfl trivial ?_) | refine eqv_len_map ?_ | (change vcFun _ _ _ _ _; refine call_eq rfl (by repeat' (first | trivial | refine And.intro ?_ ?_ | (show 0 + _ ≤ List.length _; simp))) ALeL.refl (c_code e.code) rfl ?_) | (change vcFun _ _ _ _ _; refine call_eq rfl (by repeat' (first | trivial | refine And.intro ?_ ?_ | (show 0 + _ ≤ List.length _; simp))) ALeL.refl (c_asc2 e.feats (by omega)) rfl ?_) | (change vcFun _ _ _ _ _; refine call_eq rfl (by repeat' (first | trivial | refine And.intro ?_ ?_ | (show 0 + _ ≤ List.length _; simp))) ALeL.refl (c_asc2 e.studs (by omega)) rfl ?_) | fail)
  all_goals first
    | exact congrArg (vint .i64) (xE1 (by assumption)).symm
    | exact congrArg (vint .i64) (xE2 (by assumption) (by omega)).symm
    | exact congrArg (vint .i64) (xE3 (by assumption) (by omega) (by omega)).symm
    | exact congrArg (vint .i64) (xE4 (by assumption) (by omega) (by omega) (by assumption)).symm
    | exact congrArg (vint .i64) (xE6 (by assumption) (by omega) (by omega) (by assumption) ⟨by assumption, by assumption⟩).symm
    | exact congrArg (vint .i64) (xE5 (by assumption) (by omega) (by omega) (by assumption) (fun h => by have h1 := h.1; have h2 := h.2; contradiction)).symm

theorem c_dup1 (e : Exam) (a : Exam) : PCall Tryz.prog 80 [ag e.row, .pv (.ia a.row)] (fun r => r = vbool (pB (e.code = a.code))) := by
  refine acall_of tok mixed 9 rfl (fn := Tryz.f80) (c := Tryz.f80.body.getD .skip) (by kernel_rfl) (by kernel_rfl) (by kernel_rfl) rfl 0 rfl ?_
  repeat' (first | refine o1 ?_ | refine o2 ?_ | refine k1 ?_ | refine k2 ?_ | refine k7 ?_ | (change retOk _ _ _ _; refine ret_pure rfl trivial ?_) | fail)
  exact congrArg vbool (pB_eq (by rw [sEq_iff]; exact eq_comm))

end Go.Proofs.YtpnghlibmpainaaGreat.Cw

/-
  Contracts: Valid of examinations.
-/
namespace Go.Proofs.YtpnghlibmpainaaGreat.Cw
open Go.Cw Go.Proofs
set_option linter.unusedVariables false
set_option maxRecDepth 100000
set_option maxHeartbeats 800000

def g20 : Grid := ⟨7, 24, 0, 60⟩
noncomputable def dupB (l : List Exam) (e : Exam) : Bool := l.any (fun q => pB (q.code = e.code))
noncomputable def exE (l : List Exam) (i : Nat) : Int := match l[i]? with
  | none => 0
  | some e => if examE e ≠ 0 then examE e else if dupB (l.take i) e then 11 else 0
def gapsE (g : Gaps) : Int := if (0 ≤ g.row ∧ g.row ≤ 1000) ∧ (0 ≤ g.day ∧ g.day ≤ 1000) ∧ (0 ≤ g.near ∧ g.near ≤ 1000) ∧ (0 ≤ g.mixed ∧ g.mixed ≤ 1000) ∧ (0 ≤ g.days ∧ g.days ≤ 140) then 0 else 3
/-- What is wrong with examinations. -/
noncomputable def examsE (x : Exams) : Int :=
  if roomsE x.rooms g20 20 ≠ 0 then roomsE x.rooms g20 20
  else if 24 < x.exams.length then 2
  else if firstE (exE x.exams) x.exams.length ≠ 0 then firstE (exE x.exams) x.exams.length
  else if sitsE x.sits ≠ 0 then sitsE x.sits
  else gapsE x.gaps

section
variable {x : Exams}
theorem vE1 (h : ¬ roomsE x.rooms g20 20 = 0) : examsE x = roomsE x.rooms g20 20 := by unfold examsE; rw [if_pos h]
variable (h0 : roomsE x.rooms g20 20 = 0)
include h0
theorem vE2 (h : 24 < x.exams.length) : examsE x = 2 := by unfold examsE; rw [if_neg (by simp [h0]), if_pos h]
variable (h1 : x.exams.length ≤ 24)
include h1
theorem vE3 {i : Nat} (hall : ∀ j, j < i → exE x.exams j = 0) (hi : i < x.exams.length) (h : exE x.exams i ≠ 0) : examsE x = exE x.exams i := by
  unfold examsE
  rw [if_neg (by simp [h0]), if_neg (by omega), firstE_at hall h hi, if_pos h]
variable (h2 : ∀ j, j < x.exams.length → exE x.exams j = 0)
include h2
theorem vE4 (h : ¬ sitsE x.sits = 0) : examsE x = sitsE x.sits := by
  unfold examsE
  rw [if_neg (by simp [h0]), if_neg (by omega), firstE_zero h2, if_neg (by simp), if_pos h]
theorem vE5 (h : sitsE x.sits = 0) : examsE x = gapsE x.gaps := by
  unfold examsE
  rw [if_neg (by simp [h0]), if_neg (by omega), firstE_zero h2, if_neg (by simp), if_neg (by simp [h])]
end
theorem yE1 {l : List Exam} {i : Nat} {e : Exam} (he : l[i]? = some e) (h : ¬ examE e = 0) : exE l i = examE e := by unfold exE; rw [he]; dsimp only; rw [if_pos h]
theorem yE2 {l : List Exam} {i : Nat} {e : Exam} (he : l[i]? = some e) (h0 : examE e = 0) (h : dupB (l.take i) e = true) : exE l i = 11 := by unfold exE; rw [he]; dsimp only; rw [if_neg (by simp [h0]), if_pos h]
theorem yE3 {l : List Exam} {i : Nat} {e : Exam} (he : l[i]? = some e) (h0 : examE e = 0) (h : dupB (l.take i) e = false) : exE l i = 0 := by unfold exE; rw [he]; dsimp only; rw [if_neg (by simp [h0]), if_neg (by simp [h])]

theorem gE3 {g : Gaps} (h : ¬ ((0 ≤ g.row ∧ g.row ≤ 1000) ∧ (0 ≤ g.day ∧ g.day ≤ 1000) ∧ (0 ≤ g.near ∧ g.near ≤ 1000) ∧ (0 ≤ g.mixed ∧ g.mixed ≤ 1000) ∧ (0 ≤ g.days ∧ g.days ≤ 140))) : gapsE g = 3 := if_neg h
theorem gE0 {g : Gaps} (h : (0 ≤ g.row ∧ g.row ≤ 1000) ∧ (0 ≤ g.day ∧ g.day ≤ 1000) ∧ (0 ≤ g.near ∧ g.near ≤ 1000) ∧ (0 ≤ g.mixed ∧ g.mixed ≤ 1000) ∧ (0 ≤ g.days ∧ g.days ≤ 140)) : gapsE g = 0 := if_pos h
theorem slice_to {α : Type} {i : Nat} {f : α → List PV} {xs : List α} {K : List (List PV) → Prop} (hi : i ≤ xs.length) (hk : K ((xs.take i).map f)) :
    ∃ l h, loIs none l ∧ hiIs (some (vint .i64 (i : Int))) (xs.map f).length h ∧ l ≤ h ∧ h ≤ (xs.map f).length ∧ eqv (List.drop l (List.take h (xs.map f))) K :=
  ⟨0, i, rfl, rfl, Nat.zero_le _, by simpa using hi, _, by simp [List.map_take], hk⟩

theorem c_dup (l : List Exam) (e : Exam) (hl : l.length ≤ 100000) : PCall Tryz.prog 79 [.pv (.sl 4 (l.map Exam.row)), .pv (.fn 80 [.ia e.row])] (fun r => r = vbool (dupB l e)) :=
  c_any_exam l 80 [.ia e.row] (fun q => pB (q.code = e.code)) hl (fun q _ => c_dup1 q e)

theorem c_exams (x : Exams) : PCall Tryz.prog 40 [ag x.cells] (fun r => r = vint .i64 (examsE x)) := by
  refine acall_of tok mixed 84 rfl (fn := Tryz.f40) (c := Tryz.f40.body.getD .skip) (by kernel_rfl) (by kernel_rfl) (by kernel_rfl) rfl 0 rfl ?_
  repeat' (first | refine o1 ?_ | refine o2 ?_ | refine k1 ?_ | refine k2 ?_ | refine k3 ?_ | refine k4 ?_ | refine k6 ?_ | refine k7 ?_ | refine And.intro ?_ ?_ | (intro h; first | exact Bool.noConfusion h | exact nz _ h | exact nl h | (simp at h; done) | (simp at h; first | (exfalso; omega) | skip) | skip) | (change retOk _ _ _ _; refine ret_pure rfl trivial ?_) | exact (by kernel_rfl : drawOk _ _ = true) | refine eqv_len_map ?_ | (change vcFun _ _ _ _ _; refine call_eq rfl (by repeat' (first | trivial | refine And.intro ?_ ?_ | (show 0 + _ ≤ List.length _; simp))) ALeL.refl (c_rooms x.rooms g20 20) rfl ?_) | fail)
  all_goals first
    | exact congrArg (vint .i64) (vE1 (by assumption)).symm
    | exact congrArg (vint .i64) (vE2 (by assumption) (by omega)).symm
    | skip
  have h0 : roomsE x.rooms g20 20 = 0 := by assumption
  have h1 : x.exams.length ≤ 24 := by omega
  refine loop_at (fun i : Nat => [(26, vint .i64 i)]) (fun _ => []) (fun i => i ≤ x.exams.length ∧ ∀ j, j < i → exE x.exams j = 0) (fun i => x.exams.length - i) 0 ⟨by omega, fun j hj => by omega⟩ (by repeat' (first | exact trivial | exact ⟨_, rfl, ALe.refl⟩ | refine And.intro ?_ ?_)) (by repeat' (first | exact trivial | exact rfl | refine And.intro ?_ ?_)) ?_
  intro i ⟨hi, hall⟩
  rcases Nat.lt_or_ge i x.exams.length with hlt | hge
  · obtain ⟨e, he⟩ := getE hlt
    repeat' (first | (refine slice_to hi ?_) | refine o1 ?_ | refine o2 ?_ | refine k1 ?_ | refine k2 ?_ | refine k3 ?_ | refine k4 ?_ | refine k6 ?_ | refine k7 ?_ | refine And.intro ?_ ?_ | (intro h; first | exact Bool.noConfusion h | exact nz _ h | exact nl h | (simp at h; done) | (simp at h; first | (exfalso; omega) | skip) | skip) | (change retOk _ _ _ _; refine ret_pure rfl trivial ?_) | exact (by kernel_rfl : drawOk _ _ = true) | refine eqv_wrap (by omega) (by omega) ?_ | refine ⟨_, _, (by first | rfl | assumption), at_map (by assumption), ?_⟩ | (change vcFun _ _ _ _ _; refine call_eq rfl (by repeat' (first | trivial | refine And.intro ?_ ?_ | (show 0 + _ ≤ List.length _; simp))) ALeL.refl (c_exam e) rfl ?_) | (change vcFun _ _ _ _ _; refine call_eq rfl (by repeat' (first | trivial | refine And.intro ?_ ?_ | (show 0 + _ ≤ List.length _; simp))) ALeL.refl (c_dup (x.exams.take i) e (by rw [List.length_take]; omega)) rfl ?_) | fail)
    all_goals first
      | exact congrArg (vint .i64) ((vE3 h0 h1 hall hlt (by rw [yE1 he (by assumption)]; assumption)).trans (yE1 he (by assumption))).symm
      | exact congrArg (vint .i64) ((vE3 h0 h1 hall hlt (by rw [yE2 he (by assumption) (by assumption)]; decide)).trans (yE2 he (by assumption) (by assumption))).symm
      | exact ⟨i + 1, ⟨by omega, all_lt_succ hall (yE3 he (by assumption) (by assumption))⟩, by omega, back [0, 1] rfl rfl ⟨rfl, rfl, trivial⟩ (by repeat' (first | exact trivial | exact rfl | refine And.intro ?_ ?_))⟩
  · have h2 : ∀ j, j < x.exams.length → exE x.exams j = 0 := fun j hj => hall j (by omega)
    repeat' (first | refine o1 ?_ | refine o2 ?_ | refine k1 ?_ | refine k2 ?_ | refine k3 ?_ | refine k4 ?_ | refine k6 ?_ | refine k7 ?_ | refine k8 ?_ | refine And.intro ?_ ?_ | (intro h; first | exact Bool.noConfusion h | exact nz _ h | exact nl h | (simp at h; done) | (simp at h; first | (exfalso; omega) | skip) | skip) | (change retOk _ _ _ _; refine ret_pure rfl trivial ?_) | (change vcFun _ _ _ _ _; refine call_eq rfl (by repeat' (first | trivial | refine And.intro ?_ ?_ | (show 0 + _ ≤ List.length _; simp))) ALeL.refl (c_sits x.sits) rfl ?_) | fail)
    all_goals first
      | exact congrArg (vint .i64) (vE4 h0 h1 h2 (by assumption)).symm
      | skip
    have h3 : sitsE x.sits = 0 := by assumption
    refine loop_at (fun i : Nat => [(63, vint .i64 i)]) (fun _ => []) (fun i => i ≤ 4 ∧ (0 < i → 0 ≤ x.gaps.row ∧ x.gaps.row ≤ 1000) ∧ (1 < i → 0 ≤ x.gaps.day ∧ x.gaps.day ≤ 1000) ∧ (2 < i → 0 ≤ x.gaps.near ∧ x.gaps.near ≤ 1000) ∧ (3 < i → 0 ≤ x.gaps.mixed ∧ x.gaps.mixed ≤ 1000)) (fun i => 4 - i) 0 (by omega) (by repeat' (first | exact trivial | exact ⟨_, rfl, ALe.refl⟩ | refine And.intro ?_ ?_)) (by repeat' (first | exact trivial | exact rfl | refine And.intro ?_ ?_)) ?_
    intro i ⟨hi, g1, g2, g3, g4⟩
    have hv := vE5 h0 h1 h2 h3
    rcases i with _ | _ | _ | _ | _ | i
    · repeat' (first | (refine ⟨_, rfl, ?_⟩) | refine o1 ?_ | refine o2 ?_ | refine k1 ?_ | refine k2 ?_ | refine k3 ?_ | refine k4 ?_ | refine k6 ?_ | refine k7 ?_ | refine And.intro ?_ ?_ | (intro h; first | exact Bool.noConfusion h | exact nz _ h | exact nl h | (simp at h; done) | (simp at h; first | (exfalso; omega) | skip) | skip) | (change retOk _ _ _ _; refine ret_pure rfl trivial ?_) | exact Nat.le_of_ble_eq_true rfl | fail)
      all_goals first
        | exact congrArg (vint .i64) (hv.trans (gE3 (by omega))).symm
        | exact ⟨1, by omega, by omega, back [0, 1, 2] rfl rfl ⟨rfl, rfl, rfl, trivial⟩ (by repeat' (first | exact trivial | exact rfl | refine And.intro ?_ ?_))⟩
    · repeat' (first | (refine ⟨_, rfl, ?_⟩) | refine o1 ?_ | refine o2 ?_ | refine k1 ?_ | refine k2 ?_ | refine k3 ?_ | refine k4 ?_ | refine k6 ?_ | refine k7 ?_ | refine And.intro ?_ ?_ | (intro h; first | exact Bool.noConfusion h | exact nz _ h | exact nl h | (simp at h; done) | (simp at h; first | (exfalso; omega) | skip) | skip) | (change retOk _ _ _ _; refine ret_pure rfl trivial ?_) | exact Nat.le_of_ble_eq_true rfl | fail)
      all_goals first
        | exact congrArg (vint .i64) (hv.trans (gE3 (by omega))).symm
        | exact ⟨2, by omega, by omega, back [0, 1, 2] rfl rfl ⟨rfl, rfl, rfl, trivial⟩ (by repeat' (first | exact trivial | exact rfl | refine And.intro ?_ ?_))⟩
    · repeat' (first | (refine ⟨_, rfl, ?_⟩) | refine o1 ?_ | refine o2 ?_ | refine k1 ?_ | refine k2 ?_ | refine k3 ?_ | refine k4 ?_ | refine k6 ?_ | refine k7 ?_ | refine And.intro ?_ ?_ | (intro h; first | exact Bool.noConfusion h | exact nz _ h | exact nl h | (simp at h; done) | (simp at h; first | (exfalso; omega) | skip) | skip) | (change retOk _ _ _ _; refine ret_pure rfl trivial ?_) | exact Nat.le_of_ble_eq_true rfl | fail)
      all_goals first
        | exact congrArg (vint .i64) (hv.trans (gE3 (by omega))).symm
        | exact ⟨3, by omega, by omega, back [0, 1, 2] rfl rfl ⟨rfl, rfl, rfl, trivial⟩ (by repeat' (first | exact trivial | exact rfl | refine And.intro ?_ ?_))⟩
    · repeat' (first | (refine ⟨_, rfl, ?_⟩) | refine o1 ?_ | refine o2 ?_ | refine k1 ?_ | refine k2 ?_ | refine k3 ?_ | refine k4 ?_ | refine k6 ?_ | refine k7 ?_ | refine And.intro ?_ ?_ | (intro h; first | exact Bool.noConfusion h | exact nz _ h | exact nl h | (simp at h; done) | (simp at h; first | (exfalso; omega) | skip) | skip) | (change retOk _ _ _ _; refine ret_pure rfl trivial ?_) | exact Nat.le_of_ble_eq_true rfl | fail)
      all_goals first
        | exact congrArg (vint .i64) (hv.trans (gE3 (by omega))).symm
        | exact ⟨4, by omega, by omega, back [0, 1, 2] rfl rfl ⟨rfl, rfl, rfl, trivial⟩ (by repeat' (first | exact trivial | exact rfl | refine And.intro ?_ ?_))⟩
    · repeat' (first | refine o1 ?_ | refine o2 ?_ | refine k1 ?_ | refine k2 ?_ | refine k3 ?_ | refine k6 ?_ | refine k7 ?_ | refine k8 ?_ | refine And.intro ?_ ?_ | (intro h; first | exact Bool.noConfusion h | exact nz _ h | exact nl h | (simp at h; done) | (simp at h; first | (exfalso; omega) | skip) | skip) | (change retOk _ _ _ _; refine ret_pure rfl trivial ?_) | fail)
      all_goals first
        | exact congrArg (vint .i64) (hv.trans (gE3 (by omega))).symm
        | exact congrArg (vint .i64) (hv.trans (gE0 (by omega))).symm
    · omega

theorem dupB_f {l : List Exam} {i : Nat} {e : Exam} (h : ∀ j, j < i → ∀ q, l[j]? = some q → q.code ≠ e.code) : dupB (l.take i) e = false :=
  List.any_eq_false.2 fun q hq => by
    obtain ⟨j, hj⟩ := List.getElem?_of_mem hq
    rw [List.getElem?_take] at hj
    split at hj
    · simpa using h j (by assumption) q hj
    · cases hj
end Go.Proofs.YtpnghlibmpainaaGreat.Cw

/-
  Contracts: times that overlap.
-/
namespace Go.Proofs.YtpnghlibmpainaaGreat.Cw
open Go.Cw Go.Proofs
set_option linter.unusedVariables false
set_option maxRecDepth 100000
set_option maxHeartbeats 800000

theorem bits_comm (a b : Int) : bits .and .i64 a b = bits .and .i64 b a := by
  unfold bits
  dsimp only
  rw [BitVec.and_comm]
def meetP (a b : Time) : Prop := soundP a ∧ soundP b ∧ bits .and .i64 a.weeks b.weeks ≠ 0 ∧ a.day = b.day
noncomputable def btw (a b : Time) : Int := if pB (meetP a b) then max (-1) (max (b.start - a.start - a.len) (a.start - b.start - b.len)) else 0
def ovP (a b : Time) : Prop := meetP a b ∧ b.start < a.start + a.len ∧ a.start < b.start + b.len
theorem ovP_comm {a b : Time} : ovP a b ↔ ovP b a := by
  unfold ovP meetP
  rw [bits_comm]
  constructor <;> (rintro ⟨⟨h1, h2, h3, h4⟩, h5, h6⟩; exact ⟨⟨h2, h1, h3, h4.symm⟩, h6, h5⟩)
theorem ov_btw {a b : Time} : pB (ovP a b) = (pB (meetP a b) && decide (btw a b < 0)) := by
  by_cases h : meetP a b
  · rw [pB_t h, Bool.true_and]
    unfold btw
    rw [pB_t h, if_pos rfl]
    by_cases h2 : b.start < a.start + a.len ∧ a.start < b.start + b.len
    · rw [pB_t (show ovP a b from ⟨h, h2⟩)]
      symm; simp only [decide_eq_true_eq]; omega
    · rw [pB_f (fun h3 : ovP a b => h2 h3.2)]
      symm; simp only [decide_eq_false_iff_not]; omega
  · rw [pB_f h, pB_f (fun h3 : ovP a b => h h3.1)]; rfl
theorem sound_b {t : Time} (h : soundP t) : 0 ≤ t.day ∧ t.day < 7 ∧ 0 ≤ t.start ∧ t.start < 24 ∧ 1 ≤ t.len ∧ t.len ≤ 24 := by
  obtain ⟨h1, h2, h3, h4, h5, h6, h7⟩ := h
  exact ⟨by omega, by omega, by omega, by omega, by omega, by omega⟩

theorem btw_t {a b : Time} (h : meetP a b) : btw a b = max (-1) (max (b.start - a.start - a.len) (a.start - b.start - b.len)) := by unfold btw; rw [pB_t h, if_pos rfl]
theorem btw_f {a b : Time} (h : ¬ meetP a b) : btw a b = 0 := by unfold btw; rw [pB_f h]; rfl
theorem tup2 {n m : Int} {b c : Bool} (h1 : n = m) (h2 : b = c) : AV.tup [vint .i64 n, vbool b] = AV.tup [vint .i64 m, vbool c] := by rw [h1, h2]

theorem c_between (a b : Time) : PCall Tryz.prog 128 [ag a.row, ag b.row] (fun r => r = .tup [vint .i64 (btw a b), vbool (pB (meetP a b))]) := by
  refine acall_of tok mixed 46 rfl (fn := Tryz.f128) (c := Tryz.f128.body.getD .skip) (by kernel_rfl) (by kernel_rfl) (by kernel_rfl) rfl 0 rfl ?_
  repeat' (first | (refine (eqv_rfl ?_ : eqv (bits _ _ _ _) _)) | (refine eqv_wrap (by have h1 := sound_b (t := a) (by first | assumption | exact (And.left ‹meetP a b›)); have h2 := sound_b (t := b) (by first | assumption | exact (And.left (And.right ‹meetP a b›))); (try dsimp only [cond]); omega) (by have h1 := sound_b (t := a) (by first | assumption | exact (And.left ‹meetP a b›)); have h2 := sound_b (t := b) (by first | assumption | exact (And.left (And.right ‹meetP a b›))); (try dsimp only [cond]); omega) ?_) | refine o1 ?_ | refine o2 ?_ | refine k1 ?_ | refine k2 ?_ | refine k3 ?_ | refine k6 ?_ | refine k7 ?_ | refine And.intro ?_ ?_ | (intro h; first | exact Bool.noConfusion h | exact nz _ h | exact nl h | (simp at h; done) | (simp at h; first | (exfalso; omega) | skip) | skip) | (change retOk _ _ _ _; refine ret_pure rfl trivial ?_) | (change vcFun _ _ _ _ _; refine call_eq rfl (by repeat' (first | trivial | refine And.intro ?_ ?_ | (show 0 + _ ≤ List.length _; simp))) ALeL.refl (c_sound a) rfl ?_) | (change vcFun _ _ _ _ _; refine call_eq rfl (by repeat' (first | trivial | refine And.intro ?_ ?_ | (show 0 + _ ≤ List.length _; simp))) ALeL.refl (c_sound b) rfl ?_) | fail)
  all_goals first
    | exact tup2 (btw_f (by first | assumption | (unfold meetP; simp_all))).symm (pB_f (by first | assumption | (unfold meetP; simp_all))).symm
    | (have hm : meetP a b := by first | assumption | exact ⟨by assumption, by assumption, by assumption, by assumption⟩
       refine tup2 ?_ (pB_t hm).symm
       rw [btw_t hm]
       have h1 := sound_b hm.1
       have h2 := sound_b hm.2.1
       simp only [mm, cond_true, cond_false]
       repeat' split
       all_goals omega)
theorem c_overlap (a b : Time) : PCall Tryz.prog 82 [ag a.row, ag b.row] (fun r => r = vbool (pB (ovP a b))) := by
  refine acall_of tok mixed 18 rfl (fn := Tryz.f82) (c := Tryz.f82.body.getD .skip) (by kernel_rfl) (by kernel_rfl) (by kernel_rfl) rfl 0 rfl ?_
  rw [ov_btw]
  repeat' (first | refine o1 ?_ | refine o2 ?_ | refine k1 ?_ | refine k2 ?_ | refine k7 ?_ | refine And.intro ?_ ?_ | (intro h; first | exact Bool.noConfusion h | exact nz _ h | exact nl h | (simp at h; done) | (simp at h; first | (exfalso; omega) | skip) | skip) | (change retOk _ _ _ _; refine ret_pure rfl trivial ?_) | (change vcFun _ _ _ _ _; refine call_eq rfl (by repeat' (first | trivial | refine And.intro ?_ ?_ | (show 0 + _ ≤ List.length _; simp))) ALeL.refl (c_between a b) rfl ?_) | fail)
  all_goals first
    | (rw [pB_t (by assumption), Bool.true_and]; done)
    | (rw [pB_t (by assumption), Bool.true_and]; rfl)
    | (rw [pB_f (by assumption)]; rfl)
end Go.Proofs.YtpnghlibmpainaaGreat.Cw

/-
  Contracts: lists that contain.
-/
namespace Go.Proofs.YtpnghlibmpainaaGreat.Cw
open Go.Cw Go.Proofs
set_option linter.unusedVariables false
set_option maxRecDepth 100000
set_option maxHeartbeats 800000

noncomputable def idxS (l : List Str) (s : Str) : Int := idxB (fun q => pB (q = s)) l
theorem idxS_has {l : List Str} {s : Str} : decide (idxS l s ≥ 0) = pB (s ∈ l) := by
  unfold idxS
  rw [idxB_any]
  by_cases h : s ∈ l
  · rw [pB_t h]; exact List.any_eq_true.2 ⟨s, h, pB_t rfl⟩
  · rw [pB_f h]; exact List.any_eq_false.2 fun q hq => by rw [pB_f (fun e : q = s => h (e ▸ hq))]; simp
theorem c_index (l : List Str) (s : Str) (hl : l.length ≤ 100000) : PCall Tryz.prog 134 [.pv (encStrs l), .pv (es s)] (fun r => r = vint .i64 (idxS l s)) := by
  refine acall_of tok mixed 19 rfl (fn := Tryz.f134) (c := Tryz.f134.body.getD .skip) (by kernel_rfl) (by kernel_rfl) (by kernel_rfl) rfl 0 rfl ?_
  repeat' (first | refine o1 ?_ | refine o2 ?_ | refine k1 ?_ | refine k2 ?_ | refine k4 ?_ | refine eqv_len_map ?_ | fail)
  refine loop_at (fun i : Nat => [(8, vint .i64 i)]) (fun _ => []) (fun i => i ≤ l.length ∧ ∀ j, j < i → ∀ q, l[j]? = some q → pB (q = s) = false) (fun i => l.length - i) 0 ⟨by omega, fun j hj => by omega⟩ (by repeat' (first | exact trivial | exact ⟨_, rfl, ALe.refl⟩ | refine And.intro ?_ ?_)) (by repeat' (first | exact trivial)) ?_
  intro i ⟨hi, hall⟩
  rcases Nat.lt_or_ge i l.length with hlt | hge
  · obtain ⟨q, hq⟩ := getE hlt
    repeat' (first | refine o1 ?_ | refine o2 ?_ | refine k1 ?_ | refine k2 ?_ | refine k3 ?_ | refine k4 ?_ | refine k6 ?_ | refine k7 ?_ | refine And.intro ?_ ?_ | (intro h; first | exact Bool.noConfusion h | exact nz _ h | exact nl h | (simp at h; done) | (simp at h; first | (exfalso; omega) | skip) | skip) | (change retOk _ _ _ _; refine ret_pure rfl trivial ?_) | refine eqv_wrap (by omega) (by omega) ?_ | refine ⟨_, _, (by first | rfl | assumption), at_map (by assumption), ?_⟩ | fail)
    all_goals first
      | exact congrArg (vint .i64) (idxB_at hall hq (pB_t (sEq_iff.1 (by assumption)).symm)).symm
      | exact ⟨i + 1, ⟨by omega, all_lt_succ hall fun q' h' => by rw [hq] at h'; cases h'; exact pB_f fun e => sEq_f.1 (by assumption) e.symm⟩, by omega, back [] rfl rfl trivial (by repeat' (first | exact trivial | exact rfl | refine And.intro ?_ ?_))⟩
  · repeat' (first | refine o1 ?_ | refine o2 ?_ | refine k1 ?_ | refine k2 ?_ | refine k3 ?_ | refine k7 ?_ | refine k8 ?_ | refine And.intro ?_ ?_ | (intro h; first | exact Bool.noConfusion h | exact nz _ h | exact nl h | (simp at h; done) | (simp at h; first | (exfalso; omega) | skip) | skip) | (change retOk _ _ _ _; refine ret_pure rfl trivial ?_) | fail)
    all_goals first
      | exact congrArg (vint .i64) (idxB_none fun j hj => hall j (by omega)).symm
theorem c_contains (l : List Str) (s : Str) (hl : l.length ≤ 100000) : PCall Tryz.prog 88 [.pv (encStrs l), .pv (es s)] (fun r => r = vbool (pB (s ∈ l))) := by
  refine acall_of tok mixed 9 rfl (fn := Tryz.f88) (c := Tryz.f88.body.getD .skip) (by kernel_rfl) (by kernel_rfl) (by kernel_rfl) rfl 0 rfl ?_
  repeat' (first | refine o1 ?_ | refine o2 ?_ | refine k1 ?_ | refine k2 ?_ | refine k7 ?_ | (change retOk _ _ _ _; refine ret_pure rfl trivial ?_) | (change vcFun _ _ _ _ _; refine call_eq rfl (by repeat' (first | trivial | refine And.intro ?_ ?_ | (show 0 + _ ≤ List.length _; simp))) ALeL.refl (c_index l s hl) rfl ?_) | fail)
  exact congrArg vbool idxS_has
noncomputable def idxN (l : List Int) (s : Int) : Int := idxB (fun q => pB (q = s)) l
theorem idxN_has {l : List Int} {s : Int} : decide (idxN l s ≥ 0) = pB (s ∈ l) := by
  unfold idxN
  rw [idxB_any]
  by_cases h : s ∈ l
  · rw [pB_t h]; exact List.any_eq_true.2 ⟨s, h, pB_t rfl⟩
  · rw [pB_f h]; exact List.any_eq_false.2 fun q hq => by rw [pB_f (fun e : q = s => h (e ▸ hq))]; simp
theorem c_indexN (l : List Int) (s : Int) (hl : l.length ≤ 100000) : PCall Tryz.prog 140 [.pv (encInts l), vint .i64 s] (fun r => r = vint .i64 (idxN l s)) := by
  refine acall_of tok mixed 19 rfl (fn := Tryz.f140) (c := Tryz.f140.body.getD .skip) (by kernel_rfl) (by kernel_rfl) (by kernel_rfl) rfl 0 rfl ?_
  repeat' (first | refine o1 ?_ | refine o2 ?_ | refine k1 ?_ | refine k2 ?_ | refine k4 ?_ | refine eqv_len_map ?_ | fail)
  refine loop_at (fun i : Nat => [(8, vint .i64 i)]) (fun _ => []) (fun i => i ≤ l.length ∧ ∀ j, j < i → ∀ q, l[j]? = some q → pB (q = s) = false) (fun i => l.length - i) 0 ⟨by omega, fun j hj => by omega⟩ (by repeat' (first | exact trivial | exact ⟨_, rfl, ALe.refl⟩ | refine And.intro ?_ ?_)) (by repeat' (first | exact trivial)) ?_
  intro i ⟨hi, hall⟩
  rcases Nat.lt_or_ge i l.length with hlt | hge
  · obtain ⟨q, hq⟩ := getE hlt
    repeat' (first | refine o1 ?_ | refine o2 ?_ | refine k1 ?_ | refine k2 ?_ | refine k3 ?_ | refine k4 ?_ | refine k6 ?_ | refine k7 ?_ | refine And.intro ?_ ?_ | (intro h; first | exact Bool.noConfusion h | exact nz _ h | exact nl h | (simp at h; done) | (simp at h; first | (exfalso; omega) | skip) | skip) | (change retOk _ _ _ _; refine ret_pure rfl trivial ?_) | refine eqv_wrap (by omega) (by omega) ?_ | refine ⟨_, _, (by first | rfl | assumption), at_map (by assumption), ?_⟩ | fail)
    all_goals first
      | exact congrArg (vint .i64) (idxB_at hall hq (pB_t (by omega))).symm
      | exact ⟨i + 1, ⟨by omega, all_lt_succ hall fun q' h' => by rw [hq] at h'; cases h'; exact pB_f fun e => by omega⟩, by omega, back [] rfl rfl trivial (by repeat' (first | exact trivial | exact rfl | refine And.intro ?_ ?_))⟩
  · repeat' (first | refine o1 ?_ | refine o2 ?_ | refine k1 ?_ | refine k2 ?_ | refine k3 ?_ | refine k7 ?_ | refine k8 ?_ | refine And.intro ?_ ?_ | (intro h; first | exact Bool.noConfusion h | exact nz _ h | exact nl h | (simp at h; done) | (simp at h; first | (exfalso; omega) | skip) | skip) | (change retOk _ _ _ _; refine ret_pure rfl trivial ?_) | fail)
    all_goals first
      | exact congrArg (vint .i64) (idxB_none fun j hj => hall j (by omega)).symm
theorem c_containsN (l : List Int) (s : Int) (hl : l.length ≤ 100000) : PCall Tryz.prog 105 [.pv (encInts l), vint .i64 s] (fun r => r = vbool (pB (s ∈ l))) := by
  refine acall_of tok mixed 9 rfl (fn := Tryz.f105) (c := Tryz.f105.body.getD .skip) (by kernel_rfl) (by kernel_rfl) (by kernel_rfl) rfl 0 rfl ?_
  repeat' (first | refine o1 ?_ | refine o2 ?_ | refine k1 ?_ | refine k2 ?_ | refine k7 ?_ | (change retOk _ _ _ _; refine ret_pure rfl trivial ?_) | (change vcFun _ _ _ _ _; refine call_eq rfl (by repeat' (first | trivial | refine And.intro ?_ ?_ | (show 0 + _ ≤ List.length _; simp))) ALeL.refl (c_indexN l s hl) rfl ?_) | fail)
  exact congrArg vbool idxN_has
end Go.Proofs.YtpnghlibmpainaaGreat.Cw

/-
  Contracts: times of sittings.
-/
namespace Go.Proofs.YtpnghlibmpainaaGreat.Cw
open Go.Cw Go.Proofs
set_option linter.unusedVariables false
set_option maxRecDepth 100000
set_option maxHeartbeats 800000

noncomputable def timeOf (s : Sitting) : Time := if pB (timedP s) then ⟨2 ^ (s.day / 7).toNat, s.day % 7, s.start, s.len⟩ else ⟨0, 0, 0, 0⟩
theorem timeOf_t {s : Sitting} (h : timedP s) : timeOf s = ⟨2 ^ (s.day / 7).toNat, s.day % 7, s.start, s.len⟩ := by unfold timeOf; rw [pB_t h, if_pos rfl]
theorem timeOf_f {s : Sitting} (h : ¬ timedP s) : timeOf s = ⟨0, 0, 0, 0⟩ := by unfold timeOf; rw [pB_f h]; rfl
theorem tdiv7 {d : Int} (h : 0 ≤ d) : d.tdiv 7 = d / 7 := Int.tdiv_eq_ediv_of_nonneg h
theorem tmod7 {d : Int} (h : 0 ≤ d) : d.tmod 7 = d % 7 := Int.tmod_eq_emod_of_nonneg h
theorem timed_b {s : Sitting} (h : timedP s) : 0 ≤ s.day ∧ s.day < 140 := ⟨h.1, h.2.1⟩
theorem eqv_quo7 {d : Int} {K : Int → Prop} (h : 0 ≤ d ∧ d < 140) (hk : K (d / 7)) : eqv (IntKind.i64.wrap (d.tdiv 7)) K := by
  rw [tdiv7 h.1]; exact eqv_wrap (by omega) (by omega) hk
theorem eqv_rem7 {d : Int} {K : Int → Prop} (h : 0 ≤ d ∧ d < 140) (hk : K (d % 7)) : eqv (d.tmod 7) K := by
  rw [tmod7 h.1]; exact ⟨_, rfl, hk⟩
theorem c_time (s : Sitting) : PCall Tryz.prog 12 [ag s.row] (fun r => r = ag (timeOf s).row) := by
  refine acall_of tok mixed 19 rfl (fn := Tryz.f12) (c := Tryz.f12.body.getD .skip) (by kernel_rfl) (by kernel_rfl) (by kernel_rfl) rfl 0 rfl ?_
  repeat' (first | (refine eqv_quo7 (timed_b (by assumption)) ?_) | (refine eqv_rem7 (timed_b (by assumption)) ?_) | (refine eqv_u64 (by have := timed_b (s := s) (by assumption); omega) (by have := timed_b (s := s) (by assumption); omega) ?_) | (refine eqv_shl (by have := timed_b (s := s) (by assumption); omega) ?_) | refine o1 ?_ | refine o2 ?_ | refine k1 ?_ | refine k2 ?_ | refine k3 ?_ | refine k4 ?_ | refine k6 ?_ | refine k7 ?_ | refine k8 ?_ | refine And.intro ?_ ?_ | exact trivial | refine o3 ?_ | refine o4 ?_ | refine o5 ?_ | refine o6 ?_ | refine k5 ?_ | (intro h; first | exact Bool.noConfusion h | exact nz _ h | exact nl h | (simp at h; done) | (simp at h; first | (exfalso; omega) | skip) | skip) | (change retOk _ _ _ _; refine ret_pure rfl trivial ?_) | exact (rfl : allOne _ = true) | (refine (?_ : (0 : Int) ≤ _); omega) | (refine (?_ : _ ≠ _); omega) | (refine (?_ : srcLen _ = rowsLen _); rfl) | exact Nat.le_of_ble_eq_true rfl | exact (by kernel_rfl : drawOk _ _ = true) | refine eqv_len_map ?_ | refine eqv_size ?_ | refine eqv_put (eqv_ck ?_) | refine eqv_zero ?_ | refine eqv_wrap (by omega) (by omega) ?_ | refine eqv_u64 (by omega) (by omega) ?_ | refine eqv_u8 (by omega) (by omega) ?_ | refine eqv_to _ (set_map rfl rfl) ?_ | refine ⟨_, _, (by first | rfl | assumption), at_map (by assumption), ?_⟩ | refine ⟨_, _, (by first | rfl | assumption), (by assumption), ?_⟩ | refine ⟨_, at_map (by assumption), (by decide), ?_⟩ | refine ⟨_, at_map (by assumption), ?_⟩ | (refine (?_ : _ ≤ 140737488355328); simp [rowsLen] <;> omega) | (refine (?_ : _ ≤ 9223372036854775807); simp [rowsLen] <;> omega) | (refine (?_ : _ = rowsLen _); simp [rowsLen] <;> omega) | refine eqv_to _ (app_row rfl) (eqv_to _ app_len ?_) | refine eqv_to _ (app_first rfl) (eqv_to 1 rfl ?_) | refine idx_sl (at_map (by assumption)) (by omega) ?_ | refine idx_ms _ (by first | rfl | assumption) (by first | assumption | omega) ?_ | (change vcFun _ _ _ _ _; refine call_eq rfl (by repeat' (first | trivial | refine And.intro ?_ ?_ | (show 0 + _ ≤ List.length _; simp))) ALeL.refl (c_timed s) rfl ?_) | fail)
  all_goals first
    | (rw [timeOf_f (by assumption)]; rfl)
    | (rw [timeOf_t (by assumption)]; rfl)
    | (show (0 : Int) ≤ s.day / 7; have := timed_b (s := s) (by assumption); omega)
end Go.Proofs.YtpnghlibmpainaaGreat.Cw
