/-
  Part 5 of the proof (Tab, Ty, B0, B1, B2, B3, B4, B5, B6, BC, B7, B8, B9, BT, BL, E1, E2, E3, E4, M1, BP): what later parts use. No conditions.
-/
import Derived.Test.YtpnghlibmpainaaGreatProg
import Derived.KernelRfl
import Derived.Test.YtpnghlibmpainaaGreatMS4

/-
  The types and functions of the program. Written by a tool; no conditions.
-/
namespace Go.Proofs.YtpnghlibmpainaaGreat.Cw
open Go.Cw Go.Proofs

noncomputable def T : Tab := ⟨.node 120 (.mk 4 48 true (.struct [(0, 3), (1, 118), (2, 3), (3, 3)]) [.val (.int .i64 0), .val (.slice none 0 0), .val (.int .i64 0), .val (.int .i64 0)]) (.node 59 (.mk 1 8 false .func [.val .nilFunc]) (.node 29 (.mk 1 24 false (.slice 23) [.val (.slice none 0 0)]) (.node 15 (.mk 1 8 false (.ptr 223) [.val (.pointer none)]) (.node 8 (.mk 4 24 true (.struct [(0, 2), (1, 3), (2, 4), (3, 6)]) [.val (.int .i64 0), .val (.int .i64 0), .val (.bool false), .val (.int .u8 0)]) (.node 4 (.mk 1 1 false .bool [.val (.bool false)]) (.node 2 (.mk 1 8 false (.int .i64) [.val (.int .i64 0)]) (.node 1 (.mk 1 8 false .func [.val .nilFunc]) .nil .nil)
 (.node 3 (.mk 1 8 false (.int .i64) [.val (.int .i64 0)]) .nil .nil))
 (.node 6 (.mk 1 1 false (.int .u8) [.val (.int .u8 0)]) (.node 5 (.mk 1 1 false (.int .u8) [.val (.int .u8 0)]) .nil .nil)
 (.node 7 (.mk 4 24 true (.struct [(0, 2), (1, 3), (2, 4), (3, 6)]) [.val (.int .i64 0), .val (.int .i64 0), .val (.bool false), .val (.int .u8 0)]) .nil .nil)))
 (.node 12 (.mk 1 8 false (.int .u64) [.val (.int .u64 0)]) (.node 10 (.mk 1 16 false .str [.val (.string (⟨#[]⟩))]) (.node 9 (.mk 1 16 false .str [.val (.string (⟨#[]⟩))]) .nil .nil)
 (.node 11 (.mk 1 16 false .str [.val (.string (⟨#[]⟩))]) .nil .nil))
 (.node 14 (.mk 2 24 true (.struct [(0, 9), (1, 12)]) [.val (.string (⟨#[]⟩)), .val (.int .u64 0)]) (.node 13 (.mk 2 24 true (.struct [(0, 9), (1, 12)]) [.val (.string (⟨#[]⟩)), .val (.int .u64 0)]) .nil .nil) .nil)))
 (.node 22 (.mk 4 32 true (.struct [(0, 3), (1, 3), (2, 3), (3, 3)]) [.val (.int .i64 0), .val (.int .i64 0), .val (.int .i64 0), .val (.int .i64 0)]) (.node 19 (.mk 1 8 true (.struct [(0, 17)]) [.val (.pointer none)]) (.node 17 (.mk 1 8 false (.ptr 235) [.val (.pointer none)]) (.node 16 (.mk 1 8 false (.ptr 226) [.val (.pointer none)]) .nil .nil)
 (.node 18 (.mk 1 8 true (.struct [(0, 17)]) [.val (.pointer none)]) .nil .nil))
 (.node 21 (.mk 1 4 false (.int .i32) [.val (.int .i32 0)]) (.node 20 (.mk 1 16 false .other [.val .nilIface]) .nil .nil) .nil))
 (.node 26 (.mk 1 8 false .func [.val .nilFunc]) (.node 24 (.mk 1 24 false (.slice 3) [.val (.slice none 0 0)]) (.node 23 (.mk 4 32 true (.struct [(0, 3), (1, 3), (2, 3), (3, 3)]) [.val (.int .i64 0), .val (.int .i64 0), .val (.int .i64 0), .val (.int .i64 0)]) .nil .nil)
 (.node 25 (.mk 1 8 false .func [.val .nilFunc]) .nil .nil))
 (.node 28 (.mk 1 24 false (.slice 69) [.val (.slice none 0 0)]) (.node 27 (.mk 1 24 false (.slice 72) [.val (.slice none 0 0)]) .nil .nil) .nil))))
 (.node 43 (.mk 1 8 false .func [.val .nilFunc]) (.node 36 (.mk 1 8 false .func [.val .nilFunc]) (.node 33 (.mk 8 112 true (.struct [(0, 27), (1, 28), (2, 29), (3, 31)]) [.val (.slice none 0 0), .val (.slice none 0 0), .val (.slice none 0 0), .val (.int .i64 0), .val (.int .i64 0), .val (.int .i64 0), .val (.int .i64 0), .val (.int .i64 0)]) (.node 31 (.mk 5 40 true (.struct [(0, 3), (1, 3), (2, 3), (3, 3), (4, 3)]) [.val (.int .i64 0), .val (.int .i64 0), .val (.int .i64 0), .val (.int .i64 0), .val (.int .i64 0)]) (.node 30 (.mk 5 40 true (.struct [(0, 3), (1, 3), (2, 3), (3, 3), (4, 3)]) [.val (.int .i64 0), .val (.int .i64 0), .val (.int .i64 0), .val (.int .i64 0), .val (.int .i64 0)]) .nil .nil)
 (.node 32 (.mk 8 112 true (.struct [(0, 27), (1, 28), (2, 29), (3, 31)]) [.val (.slice none 0 0), .val (.slice none 0 0), .val (.slice none 0 0), .val (.int .i64 0), .val (.int .i64 0), .val (.int .i64 0), .val (.int .i64 0), .val (.int .i64 0)]) .nil .nil))
 (.node 35 (.mk 1 8 false (.ptr 92) [.val (.pointer none)]) (.node 34 (.mk 1 8 false .func [.val .nilFunc]) .nil .nil) .nil))
 (.node 40 (.mk 2 16 true (.array 2 3) [.val (.int .i64 0), .val (.int .i64 0)]) (.node 38 (.mk 4 32 true (.struct [(0, 3), (1, 3), (2, 3), (3, 3)]) [.val (.int .i64 0), .val (.int .i64 0), .val (.int .i64 0), .val (.int .i64 0)]) (.node 37 (.mk 4 32 true (.struct [(0, 3), (1, 3), (2, 3), (3, 3)]) [.val (.int .i64 0), .val (.int .i64 0), .val (.int .i64 0), .val (.int .i64 0)]) .nil .nil)
 (.node 39 (.mk 1 8 false .func [.val .nilFunc]) .nil .nil))
 (.node 42 (.mk 1 24 false (.slice 40) [.val (.slice none 0 0)]) (.node 41 (.mk 1 8 false .func [.val .nilFunc]) .nil .nil) .nil)))
 (.node 50 (.mk 4 80 true (.struct [(0, 47), (1, 48), (2, 49), (3, 3)]) [.val (.slice none 0 0), .val (.slice none 0 0), .val (.slice none 0 0), .val (.int .i64 0)]) (.node 47 (.mk 1 24 false (.slice 73) [.val (.slice none 0 0)]) (.node 45 (.mk 1 8 false .func [.val .nilFunc]) (.node 44 (.mk 1 8 false .func [.val .nilFunc]) .nil .nil)
 (.node 46 (.mk 1 24 false (.slice 33) [.val (.slice none 0 0)]) .nil .nil))
 (.node 49 (.mk 1 24 false (.slice 120) [.val (.slice none 0 0)]) (.node 48 (.mk 1 24 false (.slice 116) [.val (.slice none 0 0)]) .nil .nil) .nil))
 (.node 55 (.mk 1 8 false .func [.val .nilFunc]) (.node 52 (.mk 1 8 false (.int .i64) [.val (.int .i64 0)]) (.node 51 (.mk 4 80 true (.struct [(0, 47), (1, 48), (2, 49), (3, 3)]) [.val (.slice none 0 0), .val (.slice none 0 0), .val (.slice none 0 0), .val (.int .i64 0)]) .nil .nil)
 (.node 54 (.mk 1 8 false .func [.val .nilFunc]) .nil .nil))
 (.node 57 (.mk 1 8 false .func [.val .nilFunc]) (.node 56 (.mk 1 8 false .func [.val .nilFunc]) .nil .nil) .nil)))))
 (.node 92 (.mk 2 32 true (.struct [(0, 24), (1, 3)]) [.val (.slice none 0 0), .val (.int .i64 0)]) (.node 76 (.mk 6 64 true (.struct [(0, 66), (5, 74)]) [.val (.int .i64 0), .val (.int .i64 0), .val (.int .i64 0), .val (.int .i64 0), .val (.int .i64 0), .val (.slice none 0 0)]) (.node 69 (.mk 4 72 true (.struct [(0, 9), (1, 3), (2, 67), (3, 67)]) [.val (.string (⟨#[]⟩)), .val (.int .i64 0), .val (.slice none 0 0), .val (.slice none 0 0)]) (.node 65 (.mk 5 40 true (.struct [(0, 38), (4, 3)]) [.val (.int .i64 0), .val (.int .i64 0), .val (.int .i64 0), .val (.int .i64 0), .val (.int .i64 0)]) (.node 62 (.mk 1 8 false .func [.val .nilFunc]) (.node 60 (.mk 1 24 false (.slice 66) [.val (.slice none 0 0)]) .nil .nil)
 (.node 64 (.mk 1 8 false .func [.val .nilFunc]) .nil .nil))
 (.node 67 (.mk 1 24 false (.slice 9) [.val (.slice none 0 0)]) (.node 66 (.mk 5 40 true (.struct [(0, 38), (4, 3)]) [.val (.int .i64 0), .val (.int .i64 0), .val (.int .i64 0), .val (.int .i64 0), .val (.int .i64 0)]) .nil .nil)
 (.node 68 (.mk 4 72 true (.struct [(0, 9), (1, 3), (2, 67), (3, 67)]) [.val (.string (⟨#[]⟩)), .val (.int .i64 0), .val (.slice none 0 0), .val (.slice none 0 0)]) .nil .nil)))
 (.node 73 (.mk 1 24 false (.slice 76) [.val (.slice none 0 0)]) (.node 71 (.mk 5 88 true (.struct [(0, 9), (1, 9), (2, 3), (3, 67), (4, 70)]) [.val (.string (⟨#[]⟩)), .val (.string (⟨#[]⟩)), .val (.int .i64 0), .val (.slice none 0 0), .val (.slice none 0 0)]) (.node 70 (.mk 1 24 false (.slice 38) [.val (.slice none 0 0)]) .nil .nil)
 (.node 72 (.mk 5 88 true (.struct [(0, 9), (1, 9), (2, 3), (3, 67), (4, 70)]) [.val (.string (⟨#[]⟩)), .val (.string (⟨#[]⟩)), .val (.int .i64 0), .val (.slice none 0 0), .val (.slice none 0 0)]) .nil .nil))
 (.node 75 (.mk 6 64 true (.struct [(0, 66), (5, 74)]) [.val (.int .i64 0), .val (.int .i64 0), .val (.int .i64 0), .val (.int .i64 0), .val (.int .i64 0), .val (.slice none 0 0)]) (.node 74 (.mk 1 24 false (.slice 114) [.val (.slice none 0 0)]) .nil .nil) .nil)))
 (.node 84 (.mk 1 8 false .func [.val .nilFunc]) (.node 81 (.mk 1 8 false .func [.val .nilFunc]) (.node 78 (.mk 1 24 false (.slice 60) [.val (.slice none 0 0)]) (.node 77 (.mk 1 8 false .func [.val .nilFunc]) .nil .nil)
 (.node 79 (.mk 1 24 false (.slice 88) [.val (.slice none 0 0)]) .nil .nil))
 (.node 83 (.mk 1 8 false .func [.val .nilFunc]) (.node 82 (.mk 1 8 false .func [.val .nilFunc]) .nil .nil) .nil))
 (.node 89 (.mk 1 8 false .func [.val .nilFunc]) (.node 87 (.mk 4 40 true (.struct [(0, 9), (1, 3), (2, 3), (3, 3)]) [.val (.string (⟨#[]⟩)), .val (.int .i64 0), .val (.int .i64 0), .val (.int .i64 0)]) (.node 86 (.mk 1 8 false .func [.val .nilFunc]) .nil .nil)
 (.node 88 (.mk 4 40 true (.struct [(0, 9), (1, 3), (2, 3), (3, 3)]) [.val (.string (⟨#[]⟩)), .val (.int .i64 0), .val (.int .i64 0), .val (.int .i64 0)]) .nil .nil))
 (.node 91 (.mk 2 32 true (.struct [(0, 24), (1, 3)]) [.val (.slice none 0 0), .val (.int .i64 0)]) (.node 90 (.mk 1 8 false .func [.val .nilFunc]) .nil .nil) .nil))))
 (.node 106 (.mk 2 16 true (.struct [(0, 3), (1, 3)]) [.val (.int .i64 0), .val (.int .i64 0)]) (.node 99 (.mk 9 136 true (.struct [(0, 33), (8, 98)]) [.val (.slice none 0 0), .val (.slice none 0 0), .val (.slice none 0 0), .val (.int .i64 0), .val (.int .i64 0), .val (.int .i64 0), .val (.int .i64 0), .val (.int .i64 0), .val (.slice none 0 0)]) (.node 96 (.mk 1 8 false .func [.val .nilFunc]) (.node 94 (.mk 1 8 false (.int .u64) [.val (.int .u64 0)]) (.node 93 (.mk 1 8 false .func [.val .nilFunc]) .nil .nil)
 (.node 95 (.mk 1 8 false .func [.val .nilFunc]) .nil .nil))
 (.node 98 (.mk 1 24 false (.slice 155) [.val (.slice none 0 0)]) (.node 97 (.mk 1 8 false (.ptr 102) [.val (.pointer none)]) .nil .nil) .nil))
 (.node 103 (.mk 1 8 false .func [.val .nilFunc]) (.node 101 (.mk 13 216 true (.struct [(0, 100), (9, 51)]) [.val (.slice none 0 0), .val (.slice none 0 0), .val (.slice none 0 0), .val (.int .i64 0), .val (.int .i64 0), .val (.int .i64 0), .val (.int .i64 0), .val (.int .i64 0), .val (.slice none 0 0), .val (.slice none 0 0), .val (.slice none 0 0), .val (.slice none 0 0), .val (.int .i64 0)]) (.node 100 (.mk 9 136 true (.struct [(0, 33), (8, 98)]) [.val (.slice none 0 0), .val (.slice none 0 0), .val (.slice none 0 0), .val (.int .i64 0), .val (.int .i64 0), .val (.int .i64 0), .val (.int .i64 0), .val (.int .i64 0), .val (.slice none 0 0)]) .nil .nil)
 (.node 102 (.mk 13 216 true (.struct [(0, 100), (9, 51)]) [.val (.slice none 0 0), .val (.slice none 0 0), .val (.slice none 0 0), .val (.int .i64 0), .val (.int .i64 0), .val (.int .i64 0), .val (.int .i64 0), .val (.int .i64 0), .val (.slice none 0 0), .val (.slice none 0 0), .val (.slice none 0 0), .val (.slice none 0 0), .val (.int .i64 0)]) .nil .nil))
 (.node 105 (.mk 1 8 false .func [.val .nilFunc]) (.node 104 (.mk 1 8 false .func [.val .nilFunc]) .nil .nil) .nil)))
 (.node 113 (.mk 2 16 true (.struct [(0, 3), (1, 3)]) [.val (.int .i64 0), .val (.int .i64 0)]) (.node 110 (.mk 1 8 false .func [.val .nilFunc]) (.node 108 (.mk 1 24 false (.slice 109) [.val (.slice none 0 0)]) (.node 107 (.mk 2 16 true (.struct [(0, 3), (1, 3)]) [.val (.int .i64 0), .val (.int .i64 0)]) .nil .nil)
 (.node 109 (.mk 1 24 false (.slice 112) [.val (.slice none 0 0)]) .nil .nil))
 (.node 112 (.mk 2 16 true (.struct [(0, 3), (1, 3)]) [.val (.int .i64 0), .val (.int .i64 0)]) (.node 111 (.mk 2 16 true (.struct [(0, 3), (1, 3)]) [.val (.int .i64 0), .val (.int .i64 0)]) .nil .nil) .nil))
 (.node 117 (.mk 1 8 false .func [.val .nilFunc]) (.node 115 (.mk 4 48 true (.struct [(0, 3), (1, 3), (2, 3), (3, 24)]) [.val (.int .i64 0), .val (.int .i64 0), .val (.int .i64 0), .val (.slice none 0 0)]) (.node 114 (.mk 2 16 true (.struct [(0, 3), (1, 3)]) [.val (.int .i64 0), .val (.int .i64 0)]) .nil .nil)
 (.node 116 (.mk 4 48 true (.struct [(0, 3), (1, 3), (2, 3), (3, 24)]) [.val (.int .i64 0), .val (.int .i64 0), .val (.int .i64 0), .val (.slice none 0 0)]) .nil .nil))
 (.node 119 (.mk 4 48 true (.struct [(0, 3), (1, 118), (2, 3), (3, 3)]) [.val (.int .i64 0), .val (.slice none 0 0), .val (.int .i64 0), .val (.int .i64 0)]) (.node 118 (.mk 1 24 false (.slice 122) [.val (.slice none 0 0)]) .nil .nil) .nil))))))
 (.node 178 (.mk 1 8 false .func [.val .nilFunc]) (.node 150 (.mk 1 8 false .func [.val .nilFunc]) (.node 135 (.mk 1 8 false .func [.val .nilFunc]) (.node 128 (.mk 1 8 false .func [.val .nilFunc]) (.node 124 (.mk 1 8 false .func [.val .nilFunc]) (.node 122 (.mk 3 24 true (.struct [(0, 3), (1, 3), (2, 3)]) [.val (.int .i64 0), .val (.int .i64 0), .val (.int .i64 0)]) (.node 121 (.mk 3 24 true (.struct [(0, 3), (1, 3), (2, 3)]) [.val (.int .i64 0), .val (.int .i64 0), .val (.int .i64 0)]) .nil .nil)
 (.node 123 (.mk 1 8 false .func [.val .nilFunc]) .nil .nil))
 (.node 126 (.mk 1 8 false .func [.val .nilFunc]) (.node 125 (.mk 1 8 false .func [.val .nilFunc]) .nil .nil)
 (.node 127 (.mk 1 8 false .func [.val .nilFunc]) .nil .nil)))
 (.node 132 (.mk 1 8 false .func [.val .nilFunc]) (.node 130 (.mk 1 8 false .func [.val .nilFunc]) (.node 129 (.mk 1 8 false .func [.val .nilFunc]) .nil .nil)
 (.node 131 (.mk 1 8 false .func [.val .nilFunc]) .nil .nil))
 (.node 134 (.mk 1 24 false (.slice 5) [.val (.slice none 0 0)]) (.node 133 (.mk 1 8 false .func [.val .nilFunc]) .nil .nil) .nil)))
 (.node 142 (.mk 1 8 false .func [.val .nilFunc]) (.node 139 (.mk 1 8 false .func [.val .nilFunc]) (.node 137 (.mk 1 8 false .func [.val .nilFunc]) (.node 136 (.mk 1 8 false .func [.val .nilFunc]) .nil .nil)
 (.node 138 (.mk 1 8 false .func [.val .nilFunc]) .nil .nil))
 (.node 141 (.mk 1 8 false .func [.val .nilFunc]) (.node 140 (.mk 1 8 false .func [.val .nilFunc]) .nil .nil) .nil))
 (.node 147 (.mk 4 32 true (.struct [(0, 3), (1, 3), (2, 3), (3, 3)]) [.val (.int .i64 0), .val (.int .i64 0), .val (.int .i64 0), .val (.int .i64 0)]) (.node 145 (.mk 1 8 false .func [.val .nilFunc]) (.node 144 (.mk 1 8 false .func [.val .nilFunc]) .nil .nil)
 (.node 146 (.mk 1 24 false (.slice 67) [.val (.slice none 0 0)]) .nil .nil))
 (.node 149 (.mk 1 8 false .func [.val .nilFunc]) (.node 148 (.mk 4 32 true (.struct [(0, 3), (1, 3), (2, 3), (3, 3)]) [.val (.int .i64 0), .val (.int .i64 0), .val (.int .i64 0), .val (.int .i64 0)]) .nil .nil) .nil))))
 (.node 164 (.mk 1 8 false .func [.val .nilFunc]) (.node 157 (.mk 1 8 false .func [.val .nilFunc]) (.node 154 (.mk 1 8 false .func [.val .nilFunc]) (.node 152 (.mk 1 8 false .func [.val .nilFunc]) (.node 151 (.mk 1 8 false .func [.val .nilFunc]) .nil .nil)
 (.node 153 (.mk 1 8 false .func [.val .nilFunc]) .nil .nil))
 (.node 156 (.mk 1 8 false .func [.val .nilFunc]) (.node 155 (.mk 1 24 false (.slice 107) [.val (.slice none 0 0)]) .nil .nil) .nil))
 (.node 161 (.mk 1 8 false .func [.val .nilFunc]) (.node 159 (.mk 1 8 false .func [.val .nilFunc]) (.node 158 (.mk 1 8 false .func [.val .nilFunc]) .nil .nil)
 (.node 160 (.mk 1 8 false .func [.val .nilFunc]) .nil .nil))
 (.node 163 (.mk 1 8 false .func [.val .nilFunc]) (.node 162 (.mk 1 8 false .func [.val .nilFunc]) .nil .nil) .nil)))
 (.node 171 (.mk 1 8 false .func [.val .nilFunc]) (.node 168 (.mk 1 8 false .func [.val .nilFunc]) (.node 166 (.mk 1 8 false .func [.val .nilFunc]) (.node 165 (.mk 1 8 false .func [.val .nilFunc]) .nil .nil)
 (.node 167 (.mk 1 8 false .func [.val .nilFunc]) .nil .nil))
 (.node 170 (.mk 1 8 false .func [.val .nilFunc]) (.node 169 (.mk 1 8 false .func [.val .nilFunc]) .nil .nil) .nil))
 (.node 175 (.mk 1 24 true (.struct [(0, 24)]) [.val (.slice none 0 0)]) (.node 173 (.mk 1 8 false .func [.val .nilFunc]) (.node 172 (.mk 1 8 false .func [.val .nilFunc]) .nil .nil)
 (.node 174 (.mk 1 8 false (.ptr 176) [.val (.pointer none)]) .nil .nil))
 (.node 177 (.mk 1 8 false .func [.val .nilFunc]) (.node 176 (.mk 1 24 true (.struct [(0, 24)]) [.val (.slice none 0 0)]) .nil .nil) .nil)))))
 (.node 208 (.mk 1 8 false .func [.val .nilFunc]) (.node 193 (.mk 1 8 false .func [.val .nilFunc]) (.node 185 (.mk 1 8 false .func [.val .nilFunc]) (.node 182 (.mk 1 8 false .func [.val .nilFunc]) (.node 180 (.mk 1 8 false .func [.val .nilFunc]) (.node 179 (.mk 1 8 false .func [.val .nilFunc]) .nil .nil)
 (.node 181 (.mk 1 8 false (.map 9 4) [.val (.map none)]) .nil .nil))
 (.node 184 (.mk 1 8 false .func [.val .nilFunc]) (.node 183 (.mk 1 8 false .func [.val .nilFunc]) .nil .nil) .nil))
 (.node 190 (.mk 1 8 false .func [.val .nilFunc]) (.node 188 (.mk 1 8 false .func [.val .nilFunc]) (.node 187 (.mk 1 8 false .func [.val .nilFunc]) .nil .nil)
 (.node 189 (.mk 1 8 false .func [.val .nilFunc]) .nil .nil))
 (.node 192 (.mk 1 8 false .func [.val .nilFunc]) (.node 191 (.mk 1 8 false .func [.val .nilFunc]) .nil .nil) .nil)))
 (.node 201 (.mk 1 8 false .func [.val .nilFunc]) (.node 198 (.mk 1 8 false .func [.val .nilFunc]) (.node 195 (.mk 1 8 false (.int .i64) [.val (.int .i64 0)]) (.node 194 (.mk 1 8 false .func [.val .nilFunc]) .nil .nil)
 (.node 197 (.mk 1 8 false .func [.val .nilFunc]) .nil .nil))
 (.node 200 (.mk 1 8 false .func [.val .nilFunc]) (.node 199 (.mk 1 8 false .func [.val .nilFunc]) .nil .nil) .nil))
 (.node 205 (.mk 1 8 false (.int .u64) [.val (.int .u64 0)]) (.node 203 (.mk 1 4 false (.int .u32) [.val (.int .u32 0)]) (.node 202 (.mk 1 8 false .func [.val .nilFunc]) .nil .nil)
 (.node 204 (.mk 1 8 false .func [.val .nilFunc]) .nil .nil))
 (.node 207 (.mk 1 8 false .func [.val .nilFunc]) (.node 206 (.mk 1 8 false .func [.val .nilFunc]) .nil .nil) .nil))))
 (.node 223 (.mk 4 40 true (.struct [(0, 17), (1, 17), (2, 17), (3, 9)]) [.val (.pointer none), .val (.pointer none), .val (.pointer none), .val (.string (⟨#[]⟩))]) (.node 215 (.mk 1 8 false (.ptr 3) [.val (.pointer none)]) (.node 212 (.mk 1 8 false .func [.val .nilFunc]) (.node 210 (.mk 1 8 false .func [.val .nilFunc]) (.node 209 (.mk 1 8 false .func [.val .nilFunc]) .nil .nil)
 (.node 211 (.mk 1 8 false (.int .u64) [.val (.int .u64 0)]) .nil .nil))
 (.node 214 (.mk 1 8 false .func [.val .nilFunc]) (.node 213 (.mk 1 8 false .func [.val .nilFunc]) .nil .nil) .nil))
 (.node 220 (.mk 1 8 false .func [.val .nilFunc]) (.node 217 (.mk 1 8 false .func [.val .nilFunc]) (.node 216 (.mk 1 8 false .func [.val .nilFunc]) .nil .nil)
 (.node 218 (.mk 1 8 false (.ptr 211) [.val (.pointer none)]) .nil .nil))
 (.node 222 (.mk 4 40 true (.struct [(0, 17), (1, 17), (2, 17), (3, 9)]) [.val (.pointer none), .val (.pointer none), .val (.pointer none), .val (.string (⟨#[]⟩))]) (.node 221 (.mk 1 8 false .func [.val .nilFunc]) .nil .nil) .nil)))
 (.node 230 (.mk 1 8 false .func [.val .nilFunc]) (.node 227 (.mk 1 8 false .func [.val .nilFunc]) (.node 225 (.mk 0 0 true (.struct [(0, 224)]) []) (.node 224 (.mk 0 0 true (.array 0 16) []) .nil .nil)
 (.node 226 (.mk 0 0 true (.struct [(0, 224)]) []) .nil .nil))
 (.node 229 (.mk 1 1 false (.int .u8) [.val (.int .u8 0)]) (.node 228 (.mk 1 1 false (.int .u8) [.val (.int .u8 0)]) .nil .nil) .nil))
 (.node 234 (.mk 11 48 true (.struct [(0, 12), (1, 12), (2, 203), (3, 228), (4, 5), (5, 5), (6, 229), (7, 230), (8, 231), (9, 232), (10, 233)]) [.val (.int .u64 0), .val (.int .u64 0), .val (.int .u32 0), .val (.int .u8 0), .val (.int .u8 0), .val (.int .u8 0), .val (.int .u8 0), .val .nilFunc, .val (.pointer none), .val (.int .i32 0), .val (.int .i32 0)]) (.node 232 (.mk 1 4 false (.int .i32) [.val (.int .i32 0)]) (.node 231 (.mk 1 8 false (.ptr 5) [.val (.pointer none)]) .nil .nil)
 (.node 233 (.mk 1 4 false (.int .i32) [.val (.int .i32 0)]) .nil .nil))
 (.node 236 (.mk 1 8 false .other [.val (.pointer none)]) (.node 235 (.mk 11 48 true (.struct [(0, 12), (1, 12), (2, 203), (3, 228), (4, 5), (5, 5), (6, 229), (7, 230), (8, 231), (9, 232), (10, 233)]) [.val (.int .u64 0), .val (.int .u64 0), .val (.int .u32 0), .val (.int .u8 0), .val (.int .u8 0), .val (.int .u8 0), .val (.int .u8 0), .val .nilFunc, .val (.pointer none), .val (.int .i32 0), .val (.int .i32 0)]) .nil .nil) .nil)))))), [7, 8, 22, 23, 30, 31, 32, 33, 37, 38, 50, 51, 65, 66, 68, 69, 71, 72, 75, 76, 87, 88, 91, 92, 99, 100, 101, 102, 106, 107, 111, 112, 113, 114, 115, 116, 119, 120, 121, 122, 147, 148, 175, 176]⟩

theorem tok : TabOk Tryz.prog T := TabOk.of_eq (by kernel_rfl) (by kernel_rfl)

noncomputable def fd (f : Func) : FnD := ⟨f.ntmps, f.body.getD .skip, f.results.toList⟩
noncomputable def F : FTab := .node 90 (fd Tryz.f90) (.node 46 (fd Tryz.f46) (.node 24 (fd Tryz.f24) (.node 13 (fd Tryz.f13) (.node 8 (fd Tryz.f8) (.node 5 (fd Tryz.f5) (.node 4 (fd Tryz.f4) (.node 3 (fd Tryz.f3) .nil .nil) .nil)
 (.node 7 (fd Tryz.f7) (.node 6 (fd Tryz.f6) .nil .nil) .nil))
 (.node 11 (fd Tryz.f11) (.node 10 (fd Tryz.f10) (.node 9 (fd Tryz.f9) .nil .nil) .nil)
 (.node 12 (fd Tryz.f12) .nil .nil)))
 (.node 19 (fd Tryz.f19) (.node 16 (fd Tryz.f16) (.node 15 (fd Tryz.f15) (.node 14 (fd Tryz.f14) .nil .nil) .nil)
 (.node 18 (fd Tryz.f18) (.node 17 (fd Tryz.f17) .nil .nil) .nil))
 (.node 22 (fd Tryz.f22) (.node 21 (fd Tryz.f21) (.node 20 (fd Tryz.f20) .nil .nil) .nil)
 (.node 23 (fd Tryz.f23) .nil .nil))))
 (.node 35 (fd Tryz.f35) (.node 30 (fd Tryz.f30) (.node 27 (fd Tryz.f27) (.node 26 (fd Tryz.f26) (.node 25 (fd Tryz.f25) .nil .nil) .nil)
 (.node 29 (fd Tryz.f29) (.node 28 (fd Tryz.f28) .nil .nil) .nil))
 (.node 33 (fd Tryz.f33) (.node 32 (fd Tryz.f32) (.node 31 (fd Tryz.f31) .nil .nil) .nil)
 (.node 34 (fd Tryz.f34) .nil .nil)))
 (.node 41 (fd Tryz.f41) (.node 38 (fd Tryz.f38) (.node 37 (fd Tryz.f37) (.node 36 (fd Tryz.f36) .nil .nil) .nil)
 (.node 40 (fd Tryz.f40) (.node 39 (fd Tryz.f39) .nil .nil) .nil))
 (.node 44 (fd Tryz.f44) (.node 43 (fd Tryz.f43) (.node 42 (fd Tryz.f42) .nil .nil) .nil)
 (.node 45 (fd Tryz.f45) .nil .nil)))))
 (.node 68 (fd Tryz.f68) (.node 57 (fd Tryz.f57) (.node 52 (fd Tryz.f52) (.node 49 (fd Tryz.f49) (.node 48 (fd Tryz.f48) (.node 47 (fd Tryz.f47) .nil .nil) .nil)
 (.node 51 (fd Tryz.f51) (.node 50 (fd Tryz.f50) .nil .nil) .nil))
 (.node 55 (fd Tryz.f55) (.node 54 (fd Tryz.f54) (.node 53 (fd Tryz.f53) .nil .nil) .nil)
 (.node 56 (fd Tryz.f56) .nil .nil)))
 (.node 63 (fd Tryz.f63) (.node 60 (fd Tryz.f60) (.node 59 (fd Tryz.f59) (.node 58 (fd Tryz.f58) .nil .nil) .nil)
 (.node 62 (fd Tryz.f62) (.node 61 (fd Tryz.f61) .nil .nil) .nil))
 (.node 66 (fd Tryz.f66) (.node 65 (fd Tryz.f65) (.node 64 (fd Tryz.f64) .nil .nil) .nil)
 (.node 67 (fd Tryz.f67) .nil .nil))))
 (.node 79 (fd Tryz.f79) (.node 74 (fd Tryz.f74) (.node 71 (fd Tryz.f71) (.node 70 (fd Tryz.f70) (.node 69 (fd Tryz.f69) .nil .nil) .nil)
 (.node 73 (fd Tryz.f73) (.node 72 (fd Tryz.f72) .nil .nil) .nil))
 (.node 77 (fd Tryz.f77) (.node 76 (fd Tryz.f76) (.node 75 (fd Tryz.f75) .nil .nil) .nil)
 (.node 78 (fd Tryz.f78) .nil .nil)))
 (.node 85 (fd Tryz.f85) (.node 82 (fd Tryz.f82) (.node 81 (fd Tryz.f81) (.node 80 (fd Tryz.f80) .nil .nil) .nil)
 (.node 84 (fd Tryz.f84) (.node 83 (fd Tryz.f83) .nil .nil) .nil))
 (.node 88 (fd Tryz.f88) (.node 87 (fd Tryz.f87) (.node 86 (fd Tryz.f86) .nil .nil) .nil)
 (.node 89 (fd Tryz.f89) .nil .nil))))))
 (.node 134 (fd Tryz.f134) (.node 112 (fd Tryz.f112) (.node 101 (fd Tryz.f101) (.node 96 (fd Tryz.f96) (.node 93 (fd Tryz.f93) (.node 92 (fd Tryz.f92) (.node 91 (fd Tryz.f91) .nil .nil) .nil)
 (.node 95 (fd Tryz.f95) (.node 94 (fd Tryz.f94) .nil .nil) .nil))
 (.node 99 (fd Tryz.f99) (.node 98 (fd Tryz.f98) (.node 97 (fd Tryz.f97) .nil .nil) .nil)
 (.node 100 (fd Tryz.f100) .nil .nil)))
 (.node 107 (fd Tryz.f107) (.node 104 (fd Tryz.f104) (.node 103 (fd Tryz.f103) (.node 102 (fd Tryz.f102) .nil .nil) .nil)
 (.node 106 (fd Tryz.f106) (.node 105 (fd Tryz.f105) .nil .nil) .nil))
 (.node 110 (fd Tryz.f110) (.node 109 (fd Tryz.f109) (.node 108 (fd Tryz.f108) .nil .nil) .nil)
 (.node 111 (fd Tryz.f111) .nil .nil))))
 (.node 123 (fd Tryz.f123) (.node 118 (fd Tryz.f118) (.node 115 (fd Tryz.f115) (.node 114 (fd Tryz.f114) (.node 113 (fd Tryz.f113) .nil .nil) .nil)
 (.node 117 (fd Tryz.f117) (.node 116 (fd Tryz.f116) .nil .nil) .nil))
 (.node 121 (fd Tryz.f121) (.node 120 (fd Tryz.f120) (.node 119 (fd Tryz.f119) .nil .nil) .nil)
 (.node 122 (fd Tryz.f122) .nil .nil)))
 (.node 129 (fd Tryz.f129) (.node 126 (fd Tryz.f126) (.node 125 (fd Tryz.f125) (.node 124 (fd Tryz.f124) .nil .nil) .nil)
 (.node 128 (fd Tryz.f128) (.node 127 (fd Tryz.f127) .nil .nil) .nil))
 (.node 132 (fd Tryz.f132) (.node 131 (fd Tryz.f131) (.node 130 (fd Tryz.f130) .nil .nil) .nil)
 (.node 133 (fd Tryz.f133) .nil .nil)))))
 (.node 156 (fd Tryz.f156) (.node 145 (fd Tryz.f145) (.node 140 (fd Tryz.f140) (.node 137 (fd Tryz.f137) (.node 136 (fd Tryz.f136) (.node 135 (fd Tryz.f135) .nil .nil) .nil)
 (.node 139 (fd Tryz.f139) (.node 138 (fd Tryz.f138) .nil .nil) .nil))
 (.node 143 (fd Tryz.f143) (.node 142 (fd Tryz.f142) (.node 141 (fd Tryz.f141) .nil .nil) .nil)
 (.node 144 (fd Tryz.f144) .nil .nil)))
 (.node 151 (fd Tryz.f151) (.node 148 (fd Tryz.f148) (.node 147 (fd Tryz.f147) (.node 146 (fd Tryz.f146) .nil .nil) .nil)
 (.node 150 (fd Tryz.f150) (.node 149 (fd Tryz.f149) .nil .nil) .nil))
 (.node 154 (fd Tryz.f154) (.node 153 (fd Tryz.f153) (.node 152 (fd Tryz.f152) .nil .nil) .nil)
 (.node 155 (fd Tryz.f155) .nil .nil))))
 (.node 167 (fd Tryz.f167) (.node 162 (fd Tryz.f162) (.node 159 (fd Tryz.f159) (.node 158 (fd Tryz.f158) (.node 157 (fd Tryz.f157) .nil .nil) .nil)
 (.node 161 (fd Tryz.f161) (.node 160 (fd Tryz.f160) .nil .nil) .nil))
 (.node 165 (fd Tryz.f165) (.node 164 (fd Tryz.f164) (.node 163 (fd Tryz.f163) .nil .nil) .nil)
 (.node 166 (fd Tryz.f166) .nil .nil)))
 (.node 172 (fd Tryz.f172) (.node 170 (fd Tryz.f170) (.node 169 (fd Tryz.f169) (.node 168 (fd Tryz.f168) .nil .nil) .nil)
 (.node 171 (fd Tryz.f171) .nil .nil))
 (.node 175 (fd Tryz.f175) (.node 174 (fd Tryz.f174) (.node 173 (fd Tryz.f173) .nil .nil) .nil)
 (.node 176 (fd Tryz.f176) .nil .nil))))))
theorem fok : FTabOk Tryz.prog F := FTabOk.of_eq (by kernel_rfl)
theorem mixed : Tryz.prog.follows .mixedOrders = true := by kernel_rfl

end Go.Proofs.YtpnghlibmpainaaGreat.Cw

/-
  Data of the program, as_ lists of cells.
-/
namespace Go.Proofs.YtpnghlibmpainaaGreat.Cw
open Go.Cw Go.Proofs
set_option linter.unusedVariables false

abbrev Str := ByteArray
def ei (n : Int) : PV := .val (.int .i64 n)
def es (s : Str) : PV := .val (.string s)
def encStrs (l : List Str) : PV := .sl 1 (l.map fun s => [es s])
def encInts (l : List Int) : PV := .sl 1 (l.map fun x => [ei x])

structure Time where
  (weeks day start len : Int)
def Time.row (t : Time) : List PV := [ei t.weeks, ei t.day, ei t.start, ei t.len]
def encTimes (l : List Time) : PV := .sl 4 (l.map Time.row)

structure Grid where
  (days slots begin_ mins : Int)
def Grid.row (g : Grid) : List PV := [ei g.days, ei g.slots, ei g.begin_, ei g.mins]

structure Room where
  (code bld : Str)
  (seats : Int)
  (feats : List Str)
  (closed : List Time)
def Room.row (r : Room) : List PV := [es r.code, es r.bld, ei r.seats, encStrs r.feats, encTimes r.closed]
def encRooms (l : List Room) : PV := .sl 5 (l.map Room.row)

structure Exam where
  (code : Str)
  (len : Int)
  (feats studs : List Str)
def Exam.row (e : Exam) : List PV := [es e.code, ei e.len, encStrs e.feats, encStrs e.studs]
structure Sitting where
  (day start len cost : Int)
def Sitting.row (s : Sitting) : List PV := [ei s.day, ei s.start, ei s.len, ei s.cost]
structure Gaps where
  (row day near days mixed : Int)
structure Exams where
  (rooms : List Room)
  (exams : List Exam)
  (sits : List Sitting)
  (gaps : Gaps)
def Exams.cells (x : Exams) : List PV := [encRooms x.rooms, .sl 4 (x.exams.map Exam.row), .sl 4 (x.sits.map Sitting.row), ei x.gaps.row, ei x.gaps.day, ei x.gaps.near, ei x.gaps.days, ei x.gaps.mixed]
/-! Registries. -/
structure Term where
  (first weeks : Int)
  (hols : List Int)
def Term.row (t : Term) : List PV := [ei t.first, ei t.weeks, encInts t.hols]
structure Travel where
  (blds : List Str)
  (slots : List (List Int))
def intsRow (l : List Int) : List PV := [encInts l]
def Travel.row (t : Travel) : List PV := [encStrs t.blds, .sl 1 (t.slots.map intsRow)]
structure Lecturer where
  (code : Str)
  (away : List Time)
def Lecturer.row (l : Lecturer) : List PV := [es l.code, encTimes l.away]
structure Start where
  (day slot : Int)
def Start.row (s : Start) : List PV := [ei s.day, ei s.slot]
structure Class where
  (code course part : Str)
  (len : Int)
  (pats : List Int)
  (seats : Int)
  (feats staff : List Str)
  (starts : List Start)
def Class.row (c : Class) : List PV := [es c.code, es c.course, es c.part, ei c.len, encInts c.pats, ei c.seats, encStrs c.feats, encStrs c.staff, .sl 2 (c.starts.map Start.row)]
structure Curri where
  (code : Str)
  (courses : List Str)
def Curri.row (c : Curri) : List PV := [es c.code, encStrs c.courses]
structure Req where
  (student course : Str)
  (prio : Int)
  (instead : List Str)
def Req.row (r : Req) : List PV := [es r.student, es r.course, ei r.prio, encStrs r.instead]
structure Reg where
  (grid : Grid)
  (term : Term)
  (rooms : List Room)
  (travel : Travel)
  (staff : List Lecturer)
  (classes : List Class)
  (curris : List Curri)
  (reqs : List Req)
def Reg.cells (r : Reg) : List PV := [ei r.grid.days, ei r.grid.slots, ei r.grid.begin_, ei r.grid.mins, ei r.term.first, ei r.term.weeks, encInts r.term.hols, encRooms r.rooms, encStrs r.travel.blds, .sl 1 (r.travel.slots.map intsRow),
  .sl 2 (r.staff.map Lecturer.row), .sl 9 (r.classes.map Class.row), .sl 2 (r.curris.map Curri.row), .sl 4 (r.reqs.map Req.row)]
abbrev ag (l : List PV) : AV := .agg (pvs l)
end Go.Proofs.YtpnghlibmpainaaGreat.Cw

/-
  Words for what functions answer.
-/
namespace Go.Proofs.YtpnghlibmpainaaGreat.Cw
open Go.Cw Go.Proofs
set_option linter.unusedVariables false

noncomputable abbrev pB (p : Prop) : Bool := @decide p (Classical.propDecidable p)
theorem pB_t {p : Prop} (h : p) : pB p = true := by simp [h]
theorem pB_f {p : Prop} (h : ¬ p) : pB p = false := by simp [h]
theorem pB_iff {p q : Prop} (h : p ↔ q) : pB p = pB q := by simp [h]
theorem pB_eq {p : Prop} {b : Bool} (h : b = true ↔ p) : b = pB p := by
  cases b <;> simp at h <;> simp [h]

/-- The first answer that is not 0. -/
def firstE (f : Nat → Int) : Nat → Int
  | 0 => 0
  | n + 1 => if firstE f n = 0 then f n else firstE f n

theorem firstE_zero {f : Nat → Int} : ∀ {n : Nat}, (∀ i, i < n → f i = 0) → firstE f n = 0
  | 0, _ => rfl
  | n + 1, h => by simp [firstE, firstE_zero (n := n) fun i hi => h i (by omega), h n (by omega)]

theorem firstE_at {f : Nat → Int} {i : Nat} (h0 : ∀ j, j < i → f j = 0) (hi : f i ≠ 0) : ∀ {n : Nat}, i < n → firstE f n = f i
  | 0, h => by omega
  | n + 1, h => by
    rcases Nat.lt_or_ge i n with h1 | h1
    · rw [firstE, firstE_at h0 hi h1, if_neg hi]
    · have : i = n := by omega
      subst this
      rw [firstE, firstE_zero h0, if_pos rfl]

theorem firstE_zero_iff {f : Nat → Int} : ∀ {n : Nat}, firstE f n = 0 ↔ ∀ i, i < n → f i = 0
  | 0 => by simp [firstE]
  | n + 1 => by
    refine ⟨fun h i hi => ?_, firstE_zero⟩
    simp only [firstE] at h
    split at h
    · rename_i h0
      rcases Nat.lt_or_ge i n with h1 | h1
      · exact firstE_zero_iff.1 h0 i h1
      · have : i = n := by omega
        subst this; exact h
    · rename_i h0; exact absurd h h0

theorem all_lt_succ {p : Nat → Prop} {i : Nat} (h : ∀ j, j < i → p j) (hi : p i) : ∀ j, j < i + 1 → p j := fun j hj => by
  rcases Nat.lt_or_ge j i with h1 | h1
  · exact h j h1
  · have : j = i := by omega
    subst this; exact hi

theorem str_at {s : Str} {i : Nat} (h : i < s.size) : ∃ b, s[i]? = some b := ⟨_, by rw [ByteArray.getElem?_lt' s _ h]⟩
theorem sEq_iff {x y : Str} : sEq x y = true ↔ x = y := by
  unfold sEq bts
  rw [beq_iff_eq, Array.toList_inj]
  exact ⟨fun h => ByteArray.ext h, fun h => by rw [h]⟩
theorem sEq_f {x y : Str} : sEq x y = false ↔ x ≠ y := by
  rw [← Bool.not_eq_true, sEq_iff]
theorem mulw {a b : Int} (ha : 0 ≤ a ∧ a ≤ 1000000) (hb : 0 ≤ b ∧ b ≤ 1000000) : 0 ≤ a * b ∧ a * b ≤ 1000000000000 :=
  ⟨Int.mul_nonneg ha.1 hb.1, Int.le_trans (Int.mul_le_mul ha.2 hb.2 hb.1 (by omega)) (by omega)⟩
theorem eqv_mul {a b : Int} {K : Int → Prop} (ha : 0 ≤ a ∧ a ≤ 1000000) (hb : 0 ≤ b ∧ b ≤ 1000000) (h : 0 ≤ a * b → a * b ≤ 1000000000000 → K (a * b)) : eqv (IntKind.i64.wrap (a * b)) K :=
  eqv_wrap (by have := mulw ha hb; omega) (by have := mulw ha hb; omega) (h (mulw ha hb).1 (mulw ha hb).2)

theorem pow2_pos (n : Nat) : (1 : Int) ≤ 2 ^ n := by
  induction n with
  | zero => simp
  | succ n ih => rw [Int.pow_succ]; omega
theorem pow2_le {n : Nat} (h : n ≤ 40) : (2 : Int) ^ n ≤ 1099511627776 := by
  have h1 : (2 : Nat) ^ n ≤ 2 ^ 40 := Nat.pow_le_pow_right (by omega) h
  have h2 : ((2 ^ n : Nat) : Int) = (2 : Int) ^ n := by simp
  have h3 : (2 : Nat) ^ 40 = 1099511627776 := by decide
  omega
theorem eqv_shl {n : Int} {K : Int → Prop} (h : 0 ≤ n ∧ n ≤ 40) (hk : K (2 ^ n.toNat)) : eqv (IntKind.i64.wrap (1 * 2 ^ (min n.toNat IntKind.i64.bits))) K := by
  have e : min n.toNat IntKind.i64.bits = n.toNat := by simp [IntKind.bits]; omega
  rw [e, Int.one_mul]
  have h1 := pow2_pos n.toNat
  have h2 := pow2_le (n := n.toNat) (by omega)
  exact eqv_wrap (by omega) (by omega) hk
theorem eqv_u64 {x : Int} {K : Int → Prop} (h1 : 0 ≤ x) (h2 : x < 18446744073709551616) (h : K x) : eqv (IntKind.u64.wrap x) K :=
  ⟨x, by simp only [IntKind.wrap, IntKind.bits, IntKind.signed]; first | omega | (simp; omega), h⟩
theorem eqv_u8 {x : Int} {K : Int → Prop} (h1 : 0 ≤ x) (h2 : x < 256) (h : K x) : eqv (IntKind.u8.wrap x) K :=
  ⟨x, by simp only [IntKind.wrap, IntKind.bits, IntKind.signed]; first | omega | (simp; omega), h⟩
/-- Where the first one is; -1: nowhere. -/
def idxB {α : Type} (p : α → Bool) (l : List α) : Int := match l.findIdx? p with
  | some i => i
  | none => -1

theorem idxB_at {α : Type} {p : α → Bool} {l : List α} {i : Nat} {x : α} (h0 : ∀ j, j < i → ∀ y, l[j]? = some y → p y = false) (hx : l[i]? = some x) (hp : p x = true) : idxB p l = i := by
  have hi := (List.getElem?_eq_some_iff.1 hx).1
  have : l.findIdx? p = some i := by
    rw [List.findIdx?_eq_some_iff_getElem]
    refine ⟨hi, ?_, fun j hj => ?_⟩
    · rw [(List.getElem?_eq_some_iff.1 hx).2]; exact hp
    · have := h0 j hj l[j] (List.getElem?_eq_getElem (by omega))
      simp [this]
  simp [idxB, this]
theorem idxB_none {α : Type} {p : α → Bool} {l : List α} (h : ∀ j, j < l.length → ∀ y, l[j]? = some y → p y = false) : idxB p l = -1 := by
  have : l.findIdx? p = none := by
    rw [List.findIdx?_eq_none_iff]
    intro x hx
    obtain ⟨i, hi, rfl⟩ := List.getElem_of_mem hx
    exact h i hi _ (List.getElem?_eq_getElem hi)
  simp [idxB, this]
theorem idxB_any {α : Type} {p : α → Bool} {l : List α} : decide (idxB p l ≥ 0) = l.any p := by
  unfold idxB
  split
  · rename_i i hi
    have := List.findIdx?_eq_some_iff_getElem.1 hi
    obtain ⟨h1, h2, _⟩ := this
    rw [List.any_eq_true.2 ⟨_, List.getElem_mem h1, h2⟩]
    simp
  · rename_i hi
    rw [List.findIdx?_eq_none_iff] at hi
    have : l.any p = false := List.any_eq_false.2 fun x hx => by simp [hi x hx]
    rw [this]; rfl
end Go.Proofs.YtpnghlibmpainaaGreat.Cw

/-
  Contracts: characters, codes.
-/
namespace Go.Proofs.YtpnghlibmpainaaGreat.Cw
open Go.Cw Go.Proofs
set_option linter.unusedVariables false
set_option maxRecDepth 100000

def digB (c : Int) : Bool := decide (48 ≤ c ∧ c ≤ 57)
def letB (c : Int) : Bool := decide ((65 ≤ c ∧ c ≤ 90) ∨ (97 ≤ c ∧ c ≤ 122))

theorem c_digit (c : Int) : PCall Tryz.prog 153 [vint .u8 c] (fun r => r = vbool (digB c)) := by
  refine acall_of tok mixed 9 rfl (fn := Tryz.f153) (c := Tryz.f153.body.getD .skip) (by kernel_rfl) (by kernel_rfl) (by kernel_rfl) rfl 0 rfl ?_
  repeat' (first | refine o1 ?_ | refine o2 ?_ | refine k1 ?_ | refine k2 ?_ | refine k7 ?_ | refine And.intro ?_ ?_ | (intro h; first | exact Bool.noConfusion h | exact nz _ h | exact nl h | (simp at h; done) | (simp at h; first | (exfalso; omega) | skip) | skip) | fail); all_goals try (change retOk _ _ _ _; refine ret_pure rfl trivial ?_)
  all_goals (refine congrArg vbool ?_; unfold digB; first | (simp; omega) | (simp_all; done) | grind)

theorem c_letter (c : Int) : PCall Tryz.prog 154 [vint .u8 c] (fun r => r = vbool (letB c)) := by
  refine acall_of tok mixed 17 rfl (fn := Tryz.f154) (c := Tryz.f154.body.getD .skip) (by kernel_rfl) (by kernel_rfl) (by kernel_rfl) rfl 0 rfl ?_
  repeat' (first | refine o1 ?_ | refine o2 ?_ | refine k1 ?_ | refine k2 ?_ | refine k7 ?_ | refine And.intro ?_ ?_ | (intro h; first | exact Bool.noConfusion h | exact nz _ h | exact nl h | (simp at h; done) | (simp at h; first | (exfalso; omega) | skip) | skip) | fail); all_goals try (change retOk _ _ _ _; refine ret_pure rfl trivial ?_)
  all_goals (refine congrArg vbool ?_; unfold letB; grind)

def chrP (i : Nat) (c : Int) : Prop := digB c = true ∨ letB c = true ∨ (0 < i ∧ (c = 95 ∨ c = 45))
/-- A code. -/
def codeP (s : Str) : Prop := 1 ≤ s.size ∧ s.size ≤ 16 ∧ ∀ i, i < s.size → ∀ b, s[i]? = some b → chrP i b.toNat

theorem codeP_next {s : Str} {i : Nat} {b : UInt8} (hall : ∀ j, j < i → ∀ b, s[j]? = some b → chrP j b.toNat) (hb : s[i]? = some b) (h : chrP i b.toNat) : ∀ j, j < i + 1 → ∀ b, s[j]? = some b → chrP j b.toNat :=
  all_lt_succ hall fun b' hb' => by rw [hb] at hb'; injection hb' with hb'; subst hb'; exact h

theorem c_code (s : Str) : PCall Tryz.prog 123 [.pv (es s)] (fun r => r = vbool (pB (codeP s))) := by
  refine acall_of tok mixed 49 rfl (fn := Tryz.f123) (c := Tryz.f123.body.getD .skip) (by kernel_rfl) (by kernel_rfl) (by kernel_rfl) rfl 0 rfl ?_
  repeat' (first | refine o1 ?_ | refine o2 ?_ | refine k1 ?_ | refine k2 ?_ | refine k3 ?_ | refine k4 ?_ | refine k6 ?_ | refine k7 ?_ | refine And.intro ?_ ?_ | (intro h; first | exact Bool.noConfusion h | exact nz _ h | exact nl h | (simp at h; done) | (simp at h; first | (exfalso; omega) | skip) | skip) | refine eqv_size ?_ | fail); all_goals try (change retOk _ _ _ _; refine ret_pure rfl trivial ?_)
  · exact congrArg vbool (pB_f fun h => by have := h.2.1; omega).symm
  · refine loop_at (fun i : Nat => [(15, vint .i64 i)]) (fun _ => []) (fun i => i ≤ s.size ∧ ∀ j, j < i → ∀ b, s[j]? = some b → chrP j b.toNat) (fun i => s.size - i) 0 ⟨by omega, fun j hj => by omega⟩ (by repeat' (first | exact trivial | exact ⟨_, rfl, ALe.refl⟩ | refine And.intro ?_ ?_)) (by repeat' (first | exact trivial)) ?_
    intro i ⟨hi, hall⟩
    rcases Nat.lt_or_ge i s.size with hlt | hge
    · obtain ⟨b, hb⟩ := str_at hlt
      repeat' (first | refine o1 ?_ | refine o2 ?_ | refine k1 ?_ | refine k2 ?_ | refine k3 ?_ | refine k4 ?_ | refine k6 ?_ | refine k7 ?_ | refine And.intro ?_ ?_ | (intro h; first | exact Bool.noConfusion h | exact nz _ h | exact nl h | (simp at h; done) | (simp at h; first | (exfalso; omega) | skip) | skip) | (change retOk _ _ _ _; refine ret_pure rfl trivial ?_) | refine eqv_wrap (by omega) (by omega) ?_ | refine ⟨_, _, (by first | rfl | assumption), (by assumption), ?_⟩ | (change vcFun _ _ _ _ _; refine call_eq rfl (by repeat' (first | trivial | refine And.intro ?_ ?_ | (show 0 + _ ≤ List.length _; simp))) ALeL.refl (c_digit _) rfl ?_) | (change vcFun _ _ _ _ _; refine call_eq rfl (by repeat' (first | trivial | refine And.intro ?_ ?_ | (show 0 + _ ≤ List.length _; simp))) ALeL.refl (c_letter _) rfl ?_) | fail)
      all_goals first
        | (exfalso; omega)
        | exact ⟨i + 1, ⟨by omega, codeP_next hall hb (by simp [chrP, *])⟩, by omega, back [] rfl rfl trivial (by repeat' (first | exact trivial | exact rfl | refine And.intro ?_ ?_))⟩
        | (refine congrArg vbool (pB_f fun h => ?_).symm; have := h.2.2 i hlt b hb; simp [chrP, *] at this; done)
    · repeat' (first | refine o1 ?_ | refine o2 ?_ | refine k1 ?_ | refine k2 ?_ | refine k3 ?_ | refine k7 ?_ | refine k8 ?_ | refine And.intro ?_ ?_ | (intro h; first | exact Bool.noConfusion h | exact nz _ h | exact nl h | (simp at h; done) | (simp at h; first | (exfalso; omega) | skip) | skip) | (change retOk _ _ _ _; refine ret_pure rfl trivial ?_) | fail)
      all_goals first
        | (exfalso; omega)
        | (refine congrArg vbool (pB_t ?_).symm; exact ⟨by omega, by omega, fun j hj => hall j (by omega)⟩)
  · exact congrArg vbool (pB_f fun h => by have := h.1; omega).symm
end Go.Proofs.YtpnghlibmpainaaGreat.Cw

/-
  Contracts: codes that ascend.
-/
namespace Go.Proofs.YtpnghlibmpainaaGreat.Cw
open Go.Cw Go.Proofs
set_option linter.unusedVariables false
set_option maxRecDepth 100000

def risP (l : List Str) : Prop := ∀ i, i + 1 < l.length → ∀ s p, l[i + 1]? = some s → l[i]? = some p → sLe s p = false
def codesP (l : List Str) : Prop := ∀ i, i < l.length → ∀ s, l[i]? = some s → codeP s
/-- Codes that ascend. -/
def ascP (l : List Str) : Prop := codesP l ∧ risP l
def ascTo (l : List Str) (i : Nat) : Prop := (∀ j, j < i → ∀ s, l[j]? = some s → codeP s) ∧ ∀ j, j + 1 < i → ∀ s p, l[j + 1]? = some s → l[j]? = some p → sLe s p = false

theorem ascTo_next {l : List Str} {i : Nat} {s : Str} (h : ascTo l i) (hs : l[i]? = some s) (h1 : codeP s) (h2 : ∀ k p, i = k + 1 → l[k]? = some p → sLe s p = false) : ascTo l (i + 1) :=
  ⟨all_lt_succ h.1 fun s' h' => by rw [hs] at h'; injection h' with h'; subst h'; exact h1, fun j hj s' p h3 h4 => by
    rcases Nat.lt_or_ge (j + 1) i with h5 | h5
    · exact h.2 j h5 s' p h3 h4
    · have : i = j + 1 := by omega
      subst this
      rw [hs] at h3; injection h3 with h3; subst h3
      exact h2 j p rfl h4⟩
theorem ascTo_all {l : List Str} {i : Nat} (h : ascTo l i) (hi : l.length ≤ i) : ascP l := ⟨fun j hj => h.1 j (by omega), fun j hj => h.2 j (by omega)⟩

theorem c_asc (l : List Str) (hl : l.length ≤ 1000) : PCall Tryz.prog 124 [.pv (encStrs l)] (fun r => r = vbool (pB (ascP l))) := by
  refine acall_of tok mixed 29 rfl (fn := Tryz.f124) (c := Tryz.f124.body.getD .skip) (by kernel_rfl) (by kernel_rfl) (by kernel_rfl) rfl 0 rfl ?_
  repeat' (first | refine o1 ?_ | refine o2 ?_ | refine k1 ?_ | refine k2 ?_ | refine k4 ?_ | refine eqv_len_map ?_ | fail)
  refine loop_at (fun i : Nat => [(7, vint .i64 i)]) (fun _ => []) (fun i => i ≤ l.length ∧ ascTo l i) (fun i => l.length - i) 0 ⟨by omega, fun j hj => by omega, fun j hj => by omega⟩ (by repeat' (first | exact trivial | exact ⟨_, rfl, ALe.refl⟩ | refine And.intro ?_ ?_)) (by repeat' (first | exact trivial)) ?_
  intro i ⟨hi, hall⟩
  rcases Nat.lt_or_ge i l.length with hlt | hge
  · obtain ⟨s, hs⟩ := getE hlt
    rcases i with _ | k
    · repeat' (first | refine o1 ?_ | refine o2 ?_ | refine k1 ?_ | refine k2 ?_ | refine k3 ?_ | refine k4 ?_ | refine k6 ?_ | refine k7 ?_ | refine k8 ?_ | refine And.intro ?_ ?_ | (intro h; first | exact Bool.noConfusion h | exact nz _ h | exact nl h | (simp at h; done) | (simp at h; first | (exfalso; omega) | skip) | skip) | (change retOk _ _ _ _; refine ret_pure rfl trivial ?_) | refine eqv_wrap (by omega) (by omega) ?_ | refine ⟨_, _, (by first | rfl | assumption), at_map (by assumption), ?_⟩ | (change vcFun _ _ _ _ _; refine call_eq rfl (by repeat' (first | trivial | refine And.intro ?_ ?_ | (show 0 + _ ≤ List.length _; simp))) ALeL.refl (c_code _) rfl ?_) | fail)
      all_goals first
        | (exfalso; simp_all; done)
        | exact ⟨1, ⟨by omega, ascTo_next hall hs (by assumption) (fun k p e => by omega)⟩, by omega, back [] rfl rfl trivial (by repeat' (first | exact trivial | exact rfl | refine And.intro ?_ ?_))⟩
        | (refine congrArg vbool (pB_f fun h => ?_).symm; have := h.1 0 hlt s hs; simp_all; done)
    · obtain ⟨p, hp⟩ := getE (show k < l.length by omega)
      repeat' (first | (refine idx_sl (k := k + 1) (at_map hs) (by omega) ?_) | (refine idx_sl (k := k) (at_map hp) (by omega) ?_) | refine o1 ?_ | refine o2 ?_ | refine k1 ?_ | refine k2 ?_ | refine k3 ?_ | refine k4 ?_ | refine k6 ?_ | refine k7 ?_ | refine And.intro ?_ ?_ | (intro h; first | exact Bool.noConfusion h | exact nz _ h | exact nl h | (simp at h; done) | (simp at h; first | (exfalso; omega) | skip) | skip) | (change retOk _ _ _ _; refine ret_pure rfl trivial ?_) | refine eqv_wrap (by omega) (by omega) ?_ | (change vcFun _ _ _ _ _; refine call_eq rfl (by repeat' (first | trivial | refine And.intro ?_ ?_ | (show 0 + _ ≤ List.length _; simp))) ALeL.refl (c_code _) rfl ?_) | fail)
      all_goals first
        | (exfalso; omega)
        | exact ⟨k + 2, ⟨by omega, ascTo_next hall hs (by assumption) (fun k' p' e h' => by cases e; rw [hp] at h'; cases h'; assumption)⟩, by omega, back [] rfl rfl trivial (by repeat' (first | exact trivial | exact rfl | refine And.intro ?_ ?_))⟩
        | (refine congrArg vbool (pB_f fun h => ?_).symm; first | exact absurd (h.1 (k + 1) hlt s hs) (by assumption) | (have := h.2 k hlt s p hs hp; simp_all; done))
  · repeat' (first | refine o1 ?_ | refine o2 ?_ | refine k1 ?_ | refine k2 ?_ | refine k3 ?_ | refine k7 ?_ | refine k8 ?_ | refine And.intro ?_ ?_ | (intro h; first | exact Bool.noConfusion h | exact nz _ h | exact nl h | (simp at h; done) | (simp at h; first | (exfalso; omega) | skip) | skip) | (change retOk _ _ _ _; refine ret_pure rfl trivial ?_) | fail)
    all_goals first
      | (exfalso; omega)
      | (exact congrArg vbool (pB_t (ascTo_all hall hge)).symm)
theorem c_asc2 (l : List Str) (hl : l.length ≤ 1000) : PCall Tryz.prog 126 [.pv (encStrs l)] (fun r => r = vbool (pB (ascP l))) := by
  refine acall_of tok mixed 29 rfl (fn := Tryz.f126) (c := Tryz.f126.body.getD .skip) (by kernel_rfl) (by kernel_rfl) (by kernel_rfl) rfl 0 rfl ?_
  repeat' (first | refine o1 ?_ | refine o2 ?_ | refine k1 ?_ | refine k2 ?_ | refine k4 ?_ | refine eqv_len_map ?_ | fail)
  refine loop_at (fun i : Nat => [(7, vint .i64 i)]) (fun _ => []) (fun i => i ≤ l.length ∧ ascTo l i) (fun i => l.length - i) 0 ⟨by omega, fun j hj => by omega, fun j hj => by omega⟩ (by repeat' (first | exact trivial | exact ⟨_, rfl, ALe.refl⟩ | refine And.intro ?_ ?_)) (by repeat' (first | exact trivial)) ?_
  intro i ⟨hi, hall⟩
  rcases Nat.lt_or_ge i l.length with hlt | hge
  · obtain ⟨s, hs⟩ := getE hlt
    rcases i with _ | k
    · repeat' (first | refine o1 ?_ | refine o2 ?_ | refine k1 ?_ | refine k2 ?_ | refine k3 ?_ | refine k4 ?_ | refine k6 ?_ | refine k7 ?_ | refine k8 ?_ | refine And.intro ?_ ?_ | (intro h; first | exact Bool.noConfusion h | exact nz _ h | exact nl h | (simp at h; done) | (simp at h; first | (exfalso; omega) | skip) | skip) | (change retOk _ _ _ _; refine ret_pure rfl trivial ?_) | refine eqv_wrap (by omega) (by omega) ?_ | refine ⟨_, _, (by first | rfl | assumption), at_map (by assumption), ?_⟩ | (change vcFun _ _ _ _ _; refine call_eq rfl (by repeat' (first | trivial | refine And.intro ?_ ?_ | (show 0 + _ ≤ List.length _; simp))) ALeL.refl (c_code _) rfl ?_) | fail)
      all_goals first
        | (exfalso; simp_all; done)
        | exact ⟨1, ⟨by omega, ascTo_next hall hs (by assumption) (fun k p e => by omega)⟩, by omega, back [] rfl rfl trivial (by repeat' (first | exact trivial | exact rfl | refine And.intro ?_ ?_))⟩
        | (refine congrArg vbool (pB_f fun h => ?_).symm; have := h.1 0 hlt s hs; simp_all; done)
    · obtain ⟨p, hp⟩ := getE (show k < l.length by omega)
      repeat' (first | (refine idx_sl (k := k + 1) (at_map hs) (by omega) ?_) | (refine idx_sl (k := k) (at_map hp) (by omega) ?_) | refine o1 ?_ | refine o2 ?_ | refine k1 ?_ | refine k2 ?_ | refine k3 ?_ | refine k4 ?_ | refine k6 ?_ | refine k7 ?_ | refine And.intro ?_ ?_ | (intro h; first | exact Bool.noConfusion h | exact nz _ h | exact nl h | (simp at h; done) | (simp at h; first | (exfalso; omega) | skip) | skip) | (change retOk _ _ _ _; refine ret_pure rfl trivial ?_) | refine eqv_wrap (by omega) (by omega) ?_ | (change vcFun _ _ _ _ _; refine call_eq rfl (by repeat' (first | trivial | refine And.intro ?_ ?_ | (show 0 + _ ≤ List.length _; simp))) ALeL.refl (c_code _) rfl ?_) | fail)
      all_goals first
        | (exfalso; omega)
        | exact ⟨k + 2, ⟨by omega, ascTo_next hall hs (by assumption) (fun k' p' e h' => by cases e; rw [hp] at h'; cases h'; assumption)⟩, by omega, back [] rfl rfl trivial (by repeat' (first | exact trivial | exact rfl | refine And.intro ?_ ?_))⟩
        | (refine congrArg vbool (pB_f fun h => ?_).symm; first | exact absurd (h.1 (k + 1) hlt s hs) (by assumption) | (have := h.2 k hlt s p hs hp; simp_all; done))
  · repeat' (first | refine o1 ?_ | refine o2 ?_ | refine k1 ?_ | refine k2 ?_ | refine k3 ?_ | refine k7 ?_ | refine k8 ?_ | refine And.intro ?_ ?_ | (intro h; first | exact Bool.noConfusion h | exact nz _ h | exact nl h | (simp at h; done) | (simp at h; first | (exfalso; omega) | skip) | skip) | (change retOk _ _ _ _; refine ret_pure rfl trivial ?_) | fail)
    all_goals first
      | (exfalso; omega)
      | (exact congrArg vbool (pB_t (ascTo_all hall hge)).symm)


/-! The reference. -/
theorem c_rdigit (c : Int) : PCall Tryz.prog 160 [vint .u8 c] (fun r => r = vbool (digB c)) := by
  refine acall_of tok mixed 9 rfl (fn := Tryz.f160) (c := Tryz.f160.body.getD .skip) (by kernel_rfl) (by kernel_rfl) (by kernel_rfl) rfl 0 rfl ?_
  repeat' (first | refine o1 ?_ | refine o2 ?_ | refine k1 ?_ | refine k2 ?_ | refine k7 ?_ | refine And.intro ?_ ?_ | (intro h; first | exact Bool.noConfusion h | exact nz _ h | exact nl h | (simp at h; done) | (simp at h; first | (exfalso; omega) | skip) | skip) | fail); all_goals try (change retOk _ _ _ _; refine ret_pure rfl trivial ?_)
  all_goals (refine congrArg vbool ?_; unfold digB; grind)
theorem c_rletter (c : Int) : PCall Tryz.prog 161 [vint .u8 c] (fun r => r = vbool (letB c)) := by
  refine acall_of tok mixed 17 rfl (fn := Tryz.f161) (c := Tryz.f161.body.getD .skip) (by kernel_rfl) (by kernel_rfl) (by kernel_rfl) rfl 0 rfl ?_
  repeat' (first | refine o1 ?_ | refine o2 ?_ | refine k1 ?_ | refine k2 ?_ | refine k7 ?_ | refine And.intro ?_ ?_ | (intro h; first | exact Bool.noConfusion h | exact nz _ h | exact nl h | (simp at h; done) | (simp at h; first | (exfalso; omega) | skip) | skip) | fail); all_goals try (change retOk _ _ _ _; refine ret_pure rfl trivial ?_)
  all_goals (refine congrArg vbool ?_; unfold letB; grind)

theorem c_rcode (s : Str) : PCall Tryz.prog 130 [.pv (es s)] (fun r => r = vbool (pB (codeP s))) := by
  refine acall_of tok mixed 52 rfl (fn := Tryz.f130) (c := Tryz.f130.body.getD .skip) (by kernel_rfl) (by kernel_rfl) (by kernel_rfl) rfl 0 rfl ?_
  rcases Nat.lt_or_ge 0 s.size with h0 | h0
  · obtain ⟨a, ha⟩ := str_at h0
    have hno : (a.toNat : Int) = 95 ∨ (a.toNat : Int) = 45 → ¬ codeP s := fun h hc => by
      rcases hc.2.2 0 h0 a ha with h1 | h1 | h1
      · simp [digB] at h1; omega
      · simp [letB] at h1; omega
      · omega
    repeat' (first | refine o1 ?_ | refine o2 ?_ | refine k1 ?_ | refine k2 ?_ | refine k3 ?_ | refine k4 ?_ | refine k6 ?_ | refine k7 ?_ | refine And.intro ?_ ?_ | (intro h; first | exact Bool.noConfusion h | exact nz _ h | exact nl h | (simp at h; done) | (simp at h; first | (exfalso; omega) | skip) | skip) | (change retOk _ _ _ _; refine ret_pure rfl trivial ?_) | refine eqv_size ?_ | refine ⟨_, _, (by first | rfl | assumption), (by assumption), ?_⟩ | fail)
    case' refine_1.refine_1.refine_1.refine_2 =>
      refine loop_at (fun i : Nat => [(3, vint .i64 i)]) (fun _ => []) (fun i => i ≤ s.size ∧ ∀ j, j < i → ∀ b, s[j]? = some b → chrP j b.toNat) (fun i => s.size - i) 0 ⟨by omega, fun j hj => by omega⟩ (by repeat' (first | exact trivial | exact ⟨_, rfl, ALe.refl⟩ | refine And.intro ?_ ?_)) (by repeat' (first | exact trivial)) ?_
      intro i ⟨hi, hall⟩
      rcases Nat.lt_or_ge i s.size with hlt | hge
      · obtain ⟨b, hb⟩ := str_at hlt
        have h00 : i = 0 → a = b := fun e => by subst e; rw [ha] at hb; injection hb
        have hpos : (b.toNat : Int) = 95 ∨ (b.toNat : Int) = 45 → 0 < i := fun h => by
          rcases Nat.eq_zero_or_pos i with h9 | h9
          · have := h00 h9; subst this; omega
          · exact h9
        repeat' (first | (refine ⟨i, b, rfl, hb, ?_⟩) | refine o1 ?_ | refine o2 ?_ | refine k1 ?_ | refine k2 ?_ | refine k3 ?_ | refine k4 ?_ | refine k6 ?_ | refine k7 ?_ | refine And.intro ?_ ?_ | (intro h; first | exact Bool.noConfusion h | exact nz _ h | exact nl h | (simp at h; done) | (simp at h; first | (exfalso; omega) | skip) | skip) | (change retOk _ _ _ _; refine ret_pure rfl trivial ?_) | refine eqv_size ?_ | refine eqv_wrap (by omega) (by omega) ?_ | (change vcFun _ _ _ _ _; refine call_eq rfl (by repeat' (first | trivial | refine And.intro ?_ ?_ | (show 0 + _ ≤ List.length _; simp))) ALeL.refl (c_rdigit _) rfl ?_) | (change vcFun _ _ _ _ _; refine call_eq rfl (by repeat' (first | trivial | refine And.intro ?_ ?_ | (show 0 + _ ≤ List.length _; simp))) ALeL.refl (c_rletter _) rfl ?_) | fail)
        all_goals first
          | exact ⟨i + 1, ⟨by omega, codeP_next hall hb (by unfold chrP; first | exact .inl (by assumption) | exact .inr (.inl (by assumption)) | exact .inr (.inr ⟨hpos (by omega), by omega⟩))⟩, by omega, back [] rfl rfl trivial (by repeat' (first | exact trivial | exact rfl | refine And.intro ?_ ?_))⟩
          | (refine congrArg vbool (pB_f fun h => ?_).symm; have := h.2.2 i hlt b hb; simp [chrP, *] at this; done)
      · repeat' (first | refine o1 ?_ | refine o2 ?_ | refine k1 ?_ | refine k2 ?_ | refine k3 ?_ | refine k7 ?_ | refine k8 ?_ | refine And.intro ?_ ?_ | (intro h; first | exact Bool.noConfusion h | exact nz _ h | exact nl h | (simp at h; done) | (simp at h; first | (exfalso; omega) | skip) | skip) | (change retOk _ _ _ _; refine ret_pure rfl trivial ?_) | refine eqv_size ?_ | fail)
        refine congrArg vbool (pB_t ?_).symm
        exact ⟨by omega, by omega, fun j hj => hall j (by omega)⟩
    all_goals first
      | exact congrArg vbool (pB_f (hno (by omega))).symm
      | exact congrArg vbool (pB_f fun h => by have := h.1; have := h.2.1; omega).symm
  · repeat' (first | refine o1 ?_ | refine o2 ?_ | refine k1 ?_ | refine k2 ?_ | refine k3 ?_ | refine k7 ?_ | refine And.intro ?_ ?_ | (intro h; first | exact Bool.noConfusion h | exact nz _ h | exact nl h | (simp at h; done) | (simp at h; first | (exfalso; omega) | skip) | skip) | (change retOk _ _ _ _; refine ret_pure rfl trivial ?_) | refine eqv_size ?_ | fail)
    all_goals exact congrArg vbool (pB_f fun h => by have := h.1; have := h.2.1; omega).symm

theorem c_ris (l : List Str) (hl : l.length ≤ 1000) : PCall Tryz.prog 162 [.pv (encStrs l)] (fun r => r = vbool (pB (risP l))) := by
  refine acall_of tok mixed 20 rfl (fn := Tryz.f162) (c := Tryz.f162.body.getD .skip) (by kernel_rfl) (by kernel_rfl) (by kernel_rfl) rfl 0 rfl ?_
  repeat' (first | refine o1 ?_ | refine o2 ?_ | refine k1 ?_ | refine k2 ?_ | refine k4 ?_ | fail)
  refine loop_at (fun i : Nat => [(3, vint .i64 (i + 1))]) (fun _ => []) (fun i => (i = 0 ∨ i + 1 ≤ l.length) ∧ ∀ j, j < i → ∀ s p, l[j + 1]? = some s → l[j]? = some p → sLe s p = false) (fun i => l.length - i) 0 ⟨by omega, fun j hj => by omega⟩ (by repeat' (first | exact trivial | exact ⟨_, rfl, ALe.refl⟩ | refine And.intro ?_ ?_)) (by repeat' (first | exact trivial)) ?_
  intro k ⟨hi, hall⟩
  rcases Nat.lt_or_ge (k + 1) l.length with hlt | hge
  · obtain ⟨s, hs⟩ := getE hlt
    obtain ⟨p, hp⟩ := getE (show k < l.length by omega)
    repeat' (first | (refine idx_sl (k := k + 1) (at_map hs) (by omega) ?_) | (refine idx_sl (k := k) (at_map hp) (by omega) ?_) | refine o1 ?_ | refine o2 ?_ | refine k1 ?_ | refine k2 ?_ | refine k3 ?_ | refine k4 ?_ | refine k6 ?_ | refine k7 ?_ | refine And.intro ?_ ?_ | refine o3 ?_ | refine o4 ?_ | (intro h; first | exact Bool.noConfusion h | exact nz _ h | exact nl h | (simp at h; done) | (simp at h; first | (exfalso; omega) | skip) | skip) | (change retOk _ _ _ _; refine ret_pure rfl trivial ?_) | exact (by kernel_rfl : drawOk _ _ = true) | refine eqv_len_map ?_ | refine eqv_wrap (by omega) (by omega) ?_ | fail)
    all_goals first
      | exact ⟨k + 1, ⟨by omega, all_lt_succ hall fun s' p' h1 h2 => by rw [hs] at h1; cases h1; rw [hp] at h2; cases h2; assumption⟩, by omega, back [] rfl rfl trivial (by repeat' (first | exact trivial | exact rfl | refine And.intro ?_ ?_))⟩
      | (refine congrArg vbool (pB_f fun h => ?_).symm; have := h k hlt s p hs hp; simp_all; done)
  · repeat' (first | refine o1 ?_ | refine o2 ?_ | refine k1 ?_ | refine k2 ?_ | refine k3 ?_ | refine k7 ?_ | refine k8 ?_ | refine And.intro ?_ ?_ | (intro h; first | exact Bool.noConfusion h | exact nz _ h | exact nl h | (simp at h; done) | (simp at h; first | (exfalso; omega) | skip) | skip) | (change retOk _ _ _ _; refine ret_pure rfl trivial ?_) | refine eqv_len_map ?_ | fail)
    exact congrArg vbool (pB_t fun j hj => hall j (by omega)).symm

theorem c_rcodes (l : List Str) (hl : l.length ≤ 1000) : PCall Tryz.prog 131 [.pv (encStrs l)] (fun r => r = vbool (pB (ascP l))) := by
  refine acall_of tok mixed 18 rfl (fn := Tryz.f131) (c := Tryz.f131.body.getD .skip) (by kernel_rfl) (by kernel_rfl) (by kernel_rfl) rfl 0 rfl ?_
  repeat' (first | refine o1 ?_ | refine o2 ?_ | refine k1 ?_ | refine k2 ?_ | refine k4 ?_ | fail)
  refine loop_at (fun i : Nat => [(3, vint .i64 i)]) (fun _ => []) (fun i => i ≤ l.length ∧ ∀ j, j < i → ∀ s, l[j]? = some s → codeP s) (fun i => l.length - i) 0 ⟨by omega, fun j hj => by omega⟩ (by repeat' (first | exact trivial | exact ⟨_, rfl, ALe.refl⟩ | refine And.intro ?_ ?_)) (by repeat' (first | exact trivial)) ?_
  intro i ⟨hi, hall⟩
  rcases Nat.lt_or_ge i l.length with hlt | hge
  · obtain ⟨s, hs⟩ := getE hlt
    repeat' (first | refine o1 ?_ | refine o2 ?_ | refine k1 ?_ | refine k2 ?_ | refine k3 ?_ | refine k4 ?_ | refine k6 ?_ | refine k7 ?_ | refine And.intro ?_ ?_ | (intro h; first | exact Bool.noConfusion h | exact nz _ h | exact nl h | (simp at h; done) | (simp at h; first | (exfalso; omega) | skip) | skip) | (change retOk _ _ _ _; refine ret_pure rfl trivial ?_) | refine eqv_len_map ?_ | refine eqv_wrap (by omega) (by omega) ?_ | refine ⟨_, _, (by first | rfl | assumption), at_map (by assumption), ?_⟩ | (change vcFun _ _ _ _ _; refine call_eq rfl (by repeat' (first | trivial | refine And.intro ?_ ?_ | (show 0 + _ ≤ List.length _; simp))) ALeL.refl (c_rcode _) rfl ?_) | fail)
    all_goals first
      | exact ⟨i + 1, ⟨by omega, all_lt_succ hall fun s' h1 => by rw [hs] at h1; cases h1; assumption⟩, by omega, back [] rfl rfl trivial (by repeat' (first | exact trivial | exact rfl | refine And.intro ?_ ?_))⟩
      | (refine congrArg vbool (pB_f fun h => ?_).symm; exact absurd (h.1 i hlt s hs) (by assumption))
  · repeat' (first | refine o1 ?_ | refine o2 ?_ | refine k1 ?_ | refine k2 ?_ | refine k3 ?_ | refine k7 ?_ | refine k8 ?_ | refine And.intro ?_ ?_ | (intro h; first | exact Bool.noConfusion h | exact nz _ h | exact nl h | (simp at h; done) | (simp at h; first | (exfalso; omega) | skip) | skip) | (change retOk _ _ _ _; refine ret_pure rfl trivial ?_) | refine eqv_len_map ?_ | (change vcFun _ _ _ _ _; refine call_eq rfl (by repeat' (first | trivial | refine And.intro ?_ ?_ | (show 0 + _ ≤ List.length _; simp))) ALeL.refl (c_ris _ hl) rfl ?_) | fail)
    exact congrArg vbool (pB_iff ⟨fun h => ⟨fun j hj => hall j (by omega), h⟩, fun h => h.2⟩)
end Go.Proofs.YtpnghlibmpainaaGreat.Cw

/-
  Contracts: the week.
-/
namespace Go.Proofs.YtpnghlibmpainaaGreat.Cw
open Go.Cw Go.Proofs
set_option linter.unusedVariables false
set_option maxRecDepth 100000

def gridP (g : Grid) : Prop := 1 ≤ g.days ∧ g.days ≤ 7 ∧ 1 ≤ g.slots ∧ g.slots ≤ 24 ∧ 0 ≤ g.begin_ ∧ g.begin_ < 1440 ∧ 5 ≤ g.mins ∧ g.mins ≤ 120 ∧ g.begin_ + g.slots * g.mins ≤ 1440
noncomputable def gridE (g : Grid) : Int := if pB (gridP g) then 0 else 3
def weekP (g : Grid) (w : Int) : Prop := gridP g ∧ 1 ≤ w ∧ w ≤ 20
def setP (s n : Int) : Prop := 1 ≤ n ∧ n ≤ 20 ∧ 1 ≤ s ∧ s < 2 ^ n.toNat
def soundP (t : Time) : Prop := setP t.weeks 20 ∧ 0 ≤ t.day ∧ t.day < 7 ∧ 0 ≤ t.start ∧ t.start < 24 ∧ 1 ≤ t.len ∧ t.len ≤ 24 - t.start
def fitP (g : Grid) (w : Int) (t : Time) : Prop := soundP t ∧ setP t.weeks w ∧ t.day < g.days ∧ t.start + t.len ≤ g.slots
noncomputable def fitE (g : Grid) (w : Int) (t : Time) : Int := if pB (weekP g w) then (if pB (fitP g w t) then 0 else 14) else 1

theorem c_grid (g : Grid) : PCall Tryz.prog 152 [ag g.row] (fun r => r = vint .i64 (gridE g)) := by
  refine acall_of tok mixed 52 rfl (fn := Tryz.f152) (c := Tryz.f152.body.getD .skip) (by kernel_rfl) (by kernel_rfl) (by kernel_rfl) rfl 0 rfl ?_
  repeat' (first | (refine eqv_mul (by omega) (by omega) (fun _ _ => ?_)) | refine o1 ?_ | refine o2 ?_ | refine k1 ?_ | refine k2 ?_ | refine k3 ?_ | refine k6 ?_ | refine k7 ?_ | refine And.intro ?_ ?_ | (intro h; first | exact Bool.noConfusion h | exact nz _ h | exact nl h | (simp at h; done) | (simp at h; first | (exfalso; omega) | skip) | skip) | (change retOk _ _ _ _; refine ret_pure rfl trivial ?_) | refine eqv_wrap (by omega) (by omega) ?_ | fail)
  all_goals (refine congrArg (vint .i64) ?_; unfold gridE)
  all_goals first
    | (rw [pB_f (fun h => ?_)]; rfl; obtain ⟨h1, h2, h3, h4, h5, h6, h7, h8, h9⟩ := h; omega)
    | (rw [pB_t ⟨by omega, by omega, by omega, by omega, by omega, by omega, by omega, by omega, by omega⟩]; rfl)
theorem c_rgrid (g : Grid) : PCall Tryz.prog 159 [ag g.row] (fun r => r = vint .i64 (gridE g)) := by
  refine acall_of tok mixed 52 rfl (fn := Tryz.f159) (c := Tryz.f159.body.getD .skip) (by kernel_rfl) (by kernel_rfl) (by kernel_rfl) rfl 0 rfl ?_
  repeat' (first | (refine eqv_mul (by omega) (by omega) (fun _ _ => ?_)) | refine o1 ?_ | refine o2 ?_ | refine k1 ?_ | refine k2 ?_ | refine k3 ?_ | refine k6 ?_ | refine k7 ?_ | refine And.intro ?_ ?_ | (intro h; first | exact Bool.noConfusion h | exact nz _ h | exact nl h | (simp at h; done) | (simp at h; first | (exfalso; omega) | skip) | skip) | (change retOk _ _ _ _; refine ret_pure rfl trivial ?_) | refine eqv_wrap (by omega) (by omega) ?_ | fail)
  all_goals (refine congrArg (vint .i64) ?_; unfold gridE)
  all_goals first
    | (rw [pB_f (fun h => ?_)]; rfl; obtain ⟨h1, h2, h3, h4, h5, h6, h7, h8, h9⟩ := h; omega)
    | (rw [pB_t ⟨by omega, by omega, by omega, by omega, by omega, by omega, by omega, by omega, by omega⟩]; rfl)

theorem gridE_iff {g : Grid} : gridE g = 0 ↔ gridP g := by
  unfold gridE
  by_cases h : gridP g <;> simp [h]

theorem c_week (g : Grid) (w : Int) : PCall Tryz.prog 122 [ag g.row, vint .i64 w] (fun r => r = vbool (pB (weekP g w))) := by
  refine acall_of tok mixed 16 rfl (fn := Tryz.f122) (c := Tryz.f122.body.getD .skip) (by kernel_rfl) (by kernel_rfl) (by kernel_rfl) rfl 0 rfl ?_
  repeat' (first | refine o1 ?_ | refine o2 ?_ | refine k1 ?_ | refine k2 ?_ | refine k7 ?_ | refine And.intro ?_ ?_ | (intro h; first | exact Bool.noConfusion h | exact nz _ h | exact nl h | (simp at h; done) | (simp at h; first | (exfalso; omega) | skip) | skip) | (change retOk _ _ _ _; refine ret_pure rfl trivial ?_) | (change vcFun _ _ _ _ _; refine call_eq rfl (by repeat' (first | trivial | refine And.intro ?_ ?_ | (show 0 + _ ≤ List.length _; simp))) ALeL.refl (c_grid g) rfl ?_) | fail)
  all_goals (refine congrArg vbool (pB_eq ?_); simp_all [weekP, gridE_iff]; try omega)
theorem c_rweek (g : Grid) (w : Int) : PCall Tryz.prog 129 [ag g.row, vint .i64 w] (fun r => r = vbool (pB (weekP g w))) := by
  refine acall_of tok mixed 16 rfl (fn := Tryz.f129) (c := Tryz.f129.body.getD .skip) (by kernel_rfl) (by kernel_rfl) (by kernel_rfl) rfl 0 rfl ?_
  repeat' (first | refine o1 ?_ | refine o2 ?_ | refine k1 ?_ | refine k2 ?_ | refine k7 ?_ | refine And.intro ?_ ?_ | (intro h; first | exact Bool.noConfusion h | exact nz _ h | exact nl h | (simp at h; done) | (simp at h; first | (exfalso; omega) | skip) | skip) | (change retOk _ _ _ _; refine ret_pure rfl trivial ?_) | (change vcFun _ _ _ _ _; refine call_eq rfl (by repeat' (first | trivial | refine And.intro ?_ ?_ | (show 0 + _ ≤ List.length _; simp))) ALeL.refl (c_rgrid g) rfl ?_) | fail)
  all_goals (refine congrArg vbool (pB_eq ?_); simp_all [weekP, gridE_iff]; try omega)

theorem c_set (s n : Int) : PCall Tryz.prog 175 [vint .i64 s, vint .i64 n] (fun r => r = vbool (pB (setP s n))) := by
  refine acall_of tok mixed 21 rfl (fn := Tryz.f175) (c := Tryz.f175.body.getD .skip) (by kernel_rfl) (by kernel_rfl) (by kernel_rfl) rfl 0 rfl ?_
  repeat' (first | (refine eqv_shl (by omega) ?_) | refine o1 ?_ | refine o2 ?_ | refine k1 ?_ | refine k2 ?_ | refine k7 ?_ | refine And.intro ?_ ?_ | (intro h; first | exact Bool.noConfusion h | exact nz _ h | exact nl h | (simp at h; done) | (simp at h; first | (exfalso; omega) | skip) | skip) | (change retOk _ _ _ _; refine ret_pure rfl trivial ?_) | (refine (?_ : (0 : Int) ≤ _); omega) | fail)
  all_goals first
    | (refine congrArg vbool (pB_f fun h => ?_).symm; obtain ⟨h1, h2, h3, h4⟩ := h; omega)
    | (refine congrArg vbool (pB_eq ?_); simp [setP, *]; done)
theorem c_rset (s n : Int) : PCall Tryz.prog 164 [vint .i64 s, vint .i64 n] (fun r => r = vbool (pB (setP s n))) := by
  refine acall_of tok mixed 22 rfl (fn := Tryz.f164) (c := Tryz.f164.body.getD .skip) (by kernel_rfl) (by kernel_rfl) (by kernel_rfl) rfl 0 rfl ?_
  repeat' (first | (refine eqv_shl (by omega) ?_) | refine o1 ?_ | refine o2 ?_ | refine k1 ?_ | refine k2 ?_ | refine k7 ?_ | refine And.intro ?_ ?_ | (intro h; first | exact Bool.noConfusion h | exact nz _ h | exact nl h | (simp at h; done) | (simp at h; first | (exfalso; omega) | skip) | skip) | (change retOk _ _ _ _; refine ret_pure rfl trivial ?_) | (refine (?_ : (0 : Int) ≤ _); omega) | refine eqv_u64 (by omega) (by omega) ?_ | fail)
  all_goals first
    | (refine congrArg vbool (pB_f fun h => ?_).symm; obtain ⟨h1, h2, h3, h4⟩ := h; omega)
    | (refine congrArg vbool (pB_eq ?_); simp [setP, *]; done)

theorem c_sound (t : Time) : PCall Tryz.prog 158 [ag t.row] (fun r => r = vbool (pB (soundP t))) := by
  refine acall_of tok mixed 41 rfl (fn := Tryz.f158) (c := Tryz.f158.body.getD .skip) (by kernel_rfl) (by kernel_rfl) (by kernel_rfl) rfl 0 rfl ?_
  repeat' (first | refine o1 ?_ | refine o2 ?_ | refine k1 ?_ | refine k2 ?_ | refine k7 ?_ | refine And.intro ?_ ?_ | (intro h; first | exact Bool.noConfusion h | exact nz _ h | exact nl h | (simp at h; done) | (simp at h; first | (exfalso; omega) | skip) | skip) | (change retOk _ _ _ _; refine ret_pure rfl trivial ?_) | refine eqv_wrap (by omega) (by omega) ?_ | (change vcFun _ _ _ _ _; refine call_eq rfl (by repeat' (first | trivial | refine And.intro ?_ ?_ | (show 0 + _ ≤ List.length _; simp))) ALeL.refl (c_set t.weeks 20) rfl ?_) | fail)
  all_goals first
    | (refine congrArg vbool (pB_f fun h => ?_).symm; obtain ⟨h1, h2, h3, h4, h5, h6, h7⟩ := h; first | omega | exact absurd h1 (by assumption))
    | (refine congrArg vbool (pB_t ?_).symm; exact ⟨by assumption, by omega, by omega, by omega, by omega, by omega, by omega⟩)
    | (refine congrArg vbool (pB_eq ?_); unfold soundP; simp_all; try omega)
theorem c_rsound (t : Time) : PCall Tryz.prog 163 [ag t.row] (fun r => r = vbool (pB (soundP t))) := by
  refine acall_of tok mixed 44 rfl (fn := Tryz.f163) (c := Tryz.f163.body.getD .skip) (by kernel_rfl) (by kernel_rfl) (by kernel_rfl) rfl 0 rfl ?_
  repeat' (first | refine o1 ?_ | refine o2 ?_ | refine k1 ?_ | refine k2 ?_ | refine k7 ?_ | refine And.intro ?_ ?_ | (intro h; first | exact Bool.noConfusion h | exact nz _ h | exact nl h | (simp at h; done) | (simp at h; first | (exfalso; omega) | skip) | skip) | (change retOk _ _ _ _; refine ret_pure rfl trivial ?_) | refine eqv_wrap (by omega) (by omega) ?_ | (change vcFun _ _ _ _ _; refine call_eq rfl (by repeat' (first | trivial | refine And.intro ?_ ?_ | (show 0 + _ ≤ List.length _; simp))) ALeL.refl (c_rset t.weeks 20) rfl ?_) | fail)
  all_goals first
    | (refine congrArg vbool (pB_f fun h => ?_).symm; obtain ⟨h1, h2, h3, h4, h5, h6, h7⟩ := h; first | omega | exact absurd h1 (by assumption))
    | (refine congrArg vbool (pB_t ?_).symm; exact ⟨by assumption, by omega, by omega, by omega, by omega, by omega, by omega⟩)
    | (refine congrArg vbool (pB_eq ?_); unfold soundP; simp_all; try omega)

theorem c_fits (g : Grid) (w : Int) (t : Time) : PCall Tryz.prog 157 [ag g.row, vint .i64 w, ag t.row] (fun r => r = vint .i64 (fitE g w t)) := by
  refine acall_of tok mixed 40 rfl (fn := Tryz.f157) (c := Tryz.f157.body.getD .skip) (by kernel_rfl) (by kernel_rfl) (by kernel_rfl) rfl 0 rfl ?_
  have hs : soundP t → 0 ≤ t.start ∧ t.start < 24 ∧ 1 ≤ t.len ∧ t.len ≤ 24 := fun ⟨h1, h2, h3, h4, h5, h6, h7⟩ => ⟨by omega, by omega, by omega, by omega⟩
  repeat' (first | (refine eqv_wrap (by have := hs (by assumption); omega) (by have := hs (by assumption); omega) ?_) | refine o1 ?_ | refine o2 ?_ | refine k1 ?_ | refine k2 ?_ | refine k3 ?_ | refine k4 ?_ | refine k6 ?_ | refine k7 ?_ | refine And.intro ?_ ?_ | (intro h; first | exact Bool.noConfusion h | exact nz _ h | exact nl h | (simp at h; done) | (simp at h; first | (exfalso; omega) | skip) | skip) | (change retOk _ _ _ _; refine ret_pure rfl trivial ?_) | (change vcFun _ _ _ _ _; refine call_eq rfl (by repeat' (first | trivial | refine And.intro ?_ ?_ | (show 0 + _ ≤ List.length _; simp))) ALeL.refl (c_week g w) rfl ?_) | (change vcFun _ _ _ _ _; refine call_eq rfl (by repeat' (first | trivial | refine And.intro ?_ ?_ | (show 0 + _ ≤ List.length _; simp))) ALeL.refl (c_sound t) rfl ?_) | (change vcFun _ _ _ _ _; refine call_eq rfl (by repeat' (first | trivial | refine And.intro ?_ ?_ | (show 0 + _ ≤ List.length _; simp))) ALeL.refl (c_set t.weeks w) rfl ?_) | fail)
  all_goals (refine congrArg (vint .i64) ?_; unfold fitE)
  all_goals first
    | (rw [pB_f (by assumption)]; rfl)
    | (rw [pB_t (by assumption), pB_f (fun h => ?_)]; rfl; obtain ⟨h1, h2, h3, h4⟩ := h; first | omega | (exact absurd h1 (by assumption)) | (exact absurd h2 (by assumption)))
    | (rw [pB_t (by assumption), pB_t ⟨by assumption, by assumption, by omega, by omega⟩]; rfl)
theorem c_rfits (g : Grid) (w : Int) (t : Time) : PCall Tryz.prog 132 [ag g.row, vint .i64 w, ag t.row] (fun r => r = vint .i64 (fitE g w t)) := by
  refine acall_of tok mixed 38 rfl (fn := Tryz.f132) (c := Tryz.f132.body.getD .skip) (by kernel_rfl) (by kernel_rfl) (by kernel_rfl) rfl 0 rfl ?_
  have hs : soundP t → 0 ≤ t.start ∧ t.start < 24 ∧ 1 ≤ t.len ∧ t.len ≤ 24 := fun ⟨h1, h2, h3, h4, h5, h6, h7⟩ => ⟨by omega, by omega, by omega, by omega⟩
  repeat' (first | (refine eqv_wrap (by have := hs (by assumption); omega) (by have := hs (by assumption); omega) ?_) | refine o1 ?_ | refine o2 ?_ | refine k1 ?_ | refine k2 ?_ | refine k3 ?_ | refine k6 ?_ | refine k7 ?_ | refine And.intro ?_ ?_ | (intro h; first | exact Bool.noConfusion h | exact nz _ h | exact nl h | (simp at h; done) | (simp at h; first | (exfalso; omega) | skip) | skip) | (change retOk _ _ _ _; refine ret_pure rfl trivial ?_) | (change vcFun _ _ _ _ _; refine call_eq rfl (by repeat' (first | trivial | refine And.intro ?_ ?_ | (show 0 + _ ≤ List.length _; simp))) ALeL.refl (c_rweek g w) rfl ?_) | (change vcFun _ _ _ _ _; refine call_eq rfl (by repeat' (first | trivial | refine And.intro ?_ ?_ | (show 0 + _ ≤ List.length _; simp))) ALeL.refl (c_rsound t) rfl ?_) | (change vcFun _ _ _ _ _; refine call_eq rfl (by repeat' (first | trivial | refine And.intro ?_ ?_ | (show 0 + _ ≤ List.length _; simp))) ALeL.refl (c_rset t.weeks w) rfl ?_) | fail)
  all_goals (refine congrArg (vint .i64) ?_; unfold fitE)
  all_goals first
    | (rw [pB_f (by assumption)]; rfl)
    | (rw [pB_t (by assumption), pB_f (fun h => ?_)]; rfl; obtain ⟨h1, h2, h3, h4⟩ := h; first | omega | (exact absurd h1 (by assumption)) | (exact absurd h2 (by assumption)))
    | (rw [pB_t (by assumption), pB_t ⟨by assumption, by assumption, by omega, by omega⟩]; rfl)
end Go.Proofs.YtpnghlibmpainaaGreat.Cw

/-
  Contracts: searching lists with functions; times that fit.
-/
namespace Go.Proofs.YtpnghlibmpainaaGreat.Cw
open Go.Cw Go.Proofs
set_option linter.unusedVariables false
set_option maxRecDepth 100000

def esRow (s : Str) : List PV := [es s]
theorem c_index_time (l : List Time) (f : FuncId) (caps : List PV) (p : Time → Bool) (hl : l.length ≤ 100000) (hf : ∀ x ∈ l, PCall Tryz.prog f (ag (Time.row x) :: pvs caps) (fun r => r = vbool (p x))) :
    PCall Tryz.prog 174 [.pv (.sl 4 (l.map Time.row)), .pv (.fn f caps)] (fun r => r = vint .i64 (idxB p l)) := by
  refine acall_of tok mixed 19 rfl (fn := Tryz.f174) (c := Tryz.f174.body.getD .skip) (by kernel_rfl) (by kernel_rfl) (by kernel_rfl) rfl 0 rfl ?_
  repeat' (first | refine o1 ?_ | refine o2 ?_ | refine k1 ?_ | refine k2 ?_ | refine k4 ?_ | refine eqv_len_map ?_ | fail)
  refine loop_at (fun i : Nat => [(8, vint .i64 i)]) (fun _ => []) (fun i => i ≤ l.length ∧ ∀ j, j < i → ∀ y, l[j]? = some y → p y = false) (fun i => l.length - i) 0 ⟨by omega, fun j hj => by omega⟩ (by repeat' (first | exact trivial | exact ⟨_, rfl, ALe.refl⟩ | refine And.intro ?_ ?_)) (by repeat' (first | exact trivial)) ?_
  intro i ⟨hi, hall⟩
  rcases Nat.lt_or_ge i l.length with hlt | hge
  · obtain ⟨x, hx⟩ := getE hlt
    have hm := List.mem_of_getElem? hx
    repeat' (first | refine o1 ?_ | refine o2 ?_ | refine k1 ?_ | refine k2 ?_ | refine k3 ?_ | refine k4 ?_ | refine k6 ?_ | refine k7 ?_ | refine And.intro ?_ ?_ | (intro h; first | exact Bool.noConfusion h | exact nz _ h | exact nl h | (simp at h; done) | (simp at h; first | (exfalso; omega) | skip) | skip) | (change retOk _ _ _ _; refine ret_pure rfl trivial ?_) | refine eqv_wrap (by omega) (by omega) ?_ | refine ⟨_, _, (by first | rfl | assumption), at_map (by assumption), ?_⟩ | (change vcFun _ _ (_ ++ pvs _) _ _; refine call_cap rfl (by repeat' (first | trivial | refine And.intro ?_ ?_ | (show 0 + _ ≤ List.length _; simp))) (hf x hm) rfl ?_) | fail)
    all_goals first
      | exact ⟨i + 1, ⟨by omega, all_lt_succ hall fun y hy => by rw [hx] at hy; cases hy; assumption⟩, by omega, back [] rfl rfl trivial (by repeat' (first | exact trivial | exact rfl | refine And.intro ?_ ?_))⟩
      | exact congrArg (vint .i64) (idxB_at hall hx (by assumption)).symm
  · repeat' (first | refine o1 ?_ | refine o2 ?_ | refine k1 ?_ | refine k2 ?_ | refine k3 ?_ | refine k7 ?_ | refine k8 ?_ | refine And.intro ?_ ?_ | (intro h; first | exact Bool.noConfusion h | exact nz _ h | exact nl h | (simp at h; done) | (simp at h; first | (exfalso; omega) | skip) | skip) | (change retOk _ _ _ _; refine ret_pure rfl trivial ?_) | fail)
    exact congrArg (vint .i64) (idxB_none fun j hj => hall j (by omega)).symm
theorem c_index_exam (l : List Exam) (f : FuncId) (caps : List PV) (p : Exam → Bool) (hl : l.length ≤ 100000) (hf : ∀ x ∈ l, PCall Tryz.prog f (ag (Exam.row x) :: pvs caps) (fun r => r = vbool (p x))) :
    PCall Tryz.prog 127 [.pv (.sl 4 (l.map Exam.row)), .pv (.fn f caps)] (fun r => r = vint .i64 (idxB p l)) := by
  refine acall_of tok mixed 19 rfl (fn := Tryz.f127) (c := Tryz.f127.body.getD .skip) (by kernel_rfl) (by kernel_rfl) (by kernel_rfl) rfl 0 rfl ?_
  repeat' (first | refine o1 ?_ | refine o2 ?_ | refine k1 ?_ | refine k2 ?_ | refine k4 ?_ | refine eqv_len_map ?_ | fail)
  refine loop_at (fun i : Nat => [(8, vint .i64 i)]) (fun _ => []) (fun i => i ≤ l.length ∧ ∀ j, j < i → ∀ y, l[j]? = some y → p y = false) (fun i => l.length - i) 0 ⟨by omega, fun j hj => by omega⟩ (by repeat' (first | exact trivial | exact ⟨_, rfl, ALe.refl⟩ | refine And.intro ?_ ?_)) (by repeat' (first | exact trivial)) ?_
  intro i ⟨hi, hall⟩
  rcases Nat.lt_or_ge i l.length with hlt | hge
  · obtain ⟨x, hx⟩ := getE hlt
    have hm := List.mem_of_getElem? hx
    repeat' (first | refine o1 ?_ | refine o2 ?_ | refine k1 ?_ | refine k2 ?_ | refine k3 ?_ | refine k4 ?_ | refine k6 ?_ | refine k7 ?_ | refine And.intro ?_ ?_ | (intro h; first | exact Bool.noConfusion h | exact nz _ h | exact nl h | (simp at h; done) | (simp at h; first | (exfalso; omega) | skip) | skip) | (change retOk _ _ _ _; refine ret_pure rfl trivial ?_) | refine eqv_wrap (by omega) (by omega) ?_ | refine ⟨_, _, (by first | rfl | assumption), at_map (by assumption), ?_⟩ | (change vcFun _ _ (_ ++ pvs _) _ _; refine call_cap rfl (by repeat' (first | trivial | refine And.intro ?_ ?_ | (show 0 + _ ≤ List.length _; simp))) (hf x hm) rfl ?_) | fail)
    all_goals first
      | exact ⟨i + 1, ⟨by omega, all_lt_succ hall fun y hy => by rw [hx] at hy; cases hy; assumption⟩, by omega, back [] rfl rfl trivial (by repeat' (first | exact trivial | exact rfl | refine And.intro ?_ ?_))⟩
      | exact congrArg (vint .i64) (idxB_at hall hx (by assumption)).symm
  · repeat' (first | refine o1 ?_ | refine o2 ?_ | refine k1 ?_ | refine k2 ?_ | refine k3 ?_ | refine k7 ?_ | refine k8 ?_ | refine And.intro ?_ ?_ | (intro h; first | exact Bool.noConfusion h | exact nz _ h | exact nl h | (simp at h; done) | (simp at h; first | (exfalso; omega) | skip) | skip) | (change retOk _ _ _ _; refine ret_pure rfl trivial ?_) | fail)
    exact congrArg (vint .i64) (idxB_none fun j hj => hall j (by omega)).symm
theorem c_any_time (l : List Time) (f : FuncId) (caps : List PV) (p : Time → Bool) (hl : l.length ≤ 100000) (hf : ∀ x ∈ l, PCall Tryz.prog f (ag (Time.row x) :: pvs caps) (fun r => r = vbool (p x))) :
    PCall Tryz.prog 155 [.pv (.sl 4 (l.map Time.row)), .pv (.fn f caps)] (fun r => r = vbool (l.any p)) := by
  refine acall_of tok mixed 9 rfl (fn := Tryz.f155) (c := Tryz.f155.body.getD .skip) (by kernel_rfl) (by kernel_rfl) (by kernel_rfl) rfl 0 rfl ?_
  repeat' (first | refine o1 ?_ | refine o2 ?_ | refine k1 ?_ | refine k2 ?_ | refine k7 ?_ | (change retOk _ _ _ _; refine ret_pure rfl trivial ?_) | (change vcFun _ _ _ _ _; refine call_eq rfl (by repeat' (first | trivial | refine And.intro ?_ ?_ | (show 0 + _ ≤ List.length _; simp))) ALeL.refl (c_index_time l f caps p hl hf) rfl ?_) | fail)
  exact congrArg vbool idxB_any
theorem c_any_exam (l : List Exam) (f : FuncId) (caps : List PV) (p : Exam → Bool) (hl : l.length ≤ 100000) (hf : ∀ x ∈ l, PCall Tryz.prog f (ag (Exam.row x) :: pvs caps) (fun r => r = vbool (p x))) :
    PCall Tryz.prog 79 [.pv (.sl 4 (l.map Exam.row)), .pv (.fn f caps)] (fun r => r = vbool (l.any p)) := by
  refine acall_of tok mixed 9 rfl (fn := Tryz.f79) (c := Tryz.f79.body.getD .skip) (by kernel_rfl) (by kernel_rfl) (by kernel_rfl) rfl 0 rfl ?_
  repeat' (first | refine o1 ?_ | refine o2 ?_ | refine k1 ?_ | refine k2 ?_ | refine k7 ?_ | (change retOk _ _ _ _; refine ret_pure rfl trivial ?_) | (change vcFun _ _ _ _ _; refine call_eq rfl (by repeat' (first | trivial | refine And.intro ?_ ?_ | (show 0 + _ ≤ List.length _; simp))) ALeL.refl (c_index_exam l f caps p hl hf) rfl ?_) | fail)
  exact congrArg vbool idxB_any
theorem c_fit1 (t : Time) (g : Grid) (w : Int) : PCall Tryz.prog 156 [ag t.row, .pv (.ia g.row), .pv (.ia [ei w])] (fun r => r = vbool (pB (fitE g w t ≠ 0))) := by
  refine acall_of tok mixed 10 rfl (fn := Tryz.f156) (c := Tryz.f156.body.getD .skip) (by kernel_rfl) (by kernel_rfl) (by kernel_rfl) rfl 0 rfl ?_
  repeat' (first | refine o1 ?_ | refine o2 ?_ | refine k1 ?_ | refine k2 ?_ | refine k7 ?_ | (change retOk _ _ _ _; refine ret_pure rfl trivial ?_) | (change vcFun _ _ _ _ _; refine call_eq rfl (by repeat' (first | trivial | refine And.intro ?_ ?_ | (show 0 + _ ≤ List.length _; simp))) ALeL.refl (c_fits g w t) rfl ?_) | fail)
  exact congrArg vbool (pB_eq (by simp))

theorem c_fit (l : List Time) (g : Grid) (w : Int) (hl : l.length ≤ 100000) : PCall Tryz.prog 125 [.pv (encTimes l), ag g.row, vint .i64 w] (fun r => r = vbool (pB (∀ t ∈ l, fitE g w t = 0))) := by
  refine acall_of tok mixed 11 rfl (fn := Tryz.f125) (c := Tryz.f125.body.getD .skip) (by kernel_rfl) (by kernel_rfl) (by kernel_rfl) rfl 0 rfl ?_
  repeat' (first | refine o1 ?_ | refine o2 ?_ | refine k1 ?_ | refine k2 ?_ | refine k7 ?_ | (change retOk _ _ _ _; refine ret_pure rfl trivial ?_) | (change vcFun _ _ _ _ _; refine call_eq rfl (by repeat' (first | trivial | refine And.intro ?_ ?_ | (show 0 + _ ≤ List.length _; simp))) ALeL.refl (c_any_time l 156 [.ia g.row, .ia [ei w]] (fun t => pB (fitE g w t ≠ 0)) hl (fun t ht => c_fit1 t g w)) rfl ?_) | fail)
  exact congrArg vbool (pB_eq (by simp))
end Go.Proofs.YtpnghlibmpainaaGreat.Cw

/-
  Contracts: rooms.
-/
namespace Go.Proofs.YtpnghlibmpainaaGreat.Cw
open Go.Cw Go.Proofs
set_option linter.unusedVariables false
set_option maxRecDepth 100000

/-- What is wrong with a room. -/
noncomputable def roomE (l : List Room) (g : Grid) (w : Int) (i : Nat) : Int := match l[i]? with
  | none => 0
  | some r => if pB (¬ codeP r.code ∨ ¬ codeP r.bld) then 10 else if r.seats < 1 ∨ 9999 < r.seats then 3 else if 8 < r.feats.length ∨ 24 < r.closed.length then 2 else
    if pB (ascP r.feats) then (if pB (∀ t ∈ r.closed, fitE g w t = 0) then (if pB (∃ j, j < i ∧ ∃ q, l[j]? = some q ∧ q.code = r.code) then 11 else 0) else 14) else 10
noncomputable def roomsE (l : List Room) (g : Grid) (w : Int) : Int := if pB (weekP g w) then (if 16 < l.length then 2 else firstE (roomE l g w) l.length) else 1

theorem roomsE_at {l : List Room} {g : Grid} {w : Int} {i : Nat} (hw : weekP g w) (hn : l.length ≤ 16) (h0 : ∀ j, j < i → roomE l g w j = 0) (hi : i < l.length) (h : roomE l g w i ≠ 0) : roomsE l g w = roomE l g w i := by
  unfold roomsE
  rw [pB_t hw, if_pos rfl, if_neg (by omega), firstE_at h0 h hi]

theorem roomE_eq {l : List Room} {g : Grid} {w : Int} {i : Nat} {r : Room} (hr : l[i]? = some r) : roomE l g w i = if pB (¬ codeP r.code ∨ ¬ codeP r.bld) then 10 else if r.seats < 1 ∨ 9999 < r.seats then 3 else if 8 < r.feats.length ∨ 24 < r.closed.length then 2 else
    if pB (ascP r.feats) then (if pB (∀ t ∈ r.closed, fitE g w t = 0) then (if pB (∃ j, j < i ∧ ∃ q, l[j]? = some q ∧ q.code = r.code) then 11 else 0) else 14) else 10 := by unfold roomE; rw [hr]

section
variable {l : List Room} {g : Grid} {w : Int} {i : Nat} {r : Room} (hr : l[i]? = some r)
include hr
theorem rE1 (h : ¬ codeP r.code ∨ ¬ codeP r.bld) : roomE l g w i = 10 := by rw [roomE_eq hr, if_pos (pB_t h)]
theorem rE2 (h1 : codeP r.code) (h2 : codeP r.bld) (h : r.seats < 1 ∨ 9999 < r.seats) : roomE l g w i = 3 := by rw [roomE_eq hr, if_neg (by simp [h1, h2]), if_pos h]
theorem rE3 (h1 : codeP r.code) (h2 : codeP r.bld) (h3 : 1 ≤ r.seats ∧ r.seats ≤ 9999) (h : 8 < r.feats.length ∨ 24 < r.closed.length) : roomE l g w i = 2 := by rw [roomE_eq hr, if_neg (by simp [h1, h2]), if_neg (by omega), if_pos h]
theorem rE4 (h1 : codeP r.code) (h2 : codeP r.bld) (h3 : 1 ≤ r.seats ∧ r.seats ≤ 9999) (h4 : r.feats.length ≤ 8 ∧ r.closed.length ≤ 24) (h : ¬ ascP r.feats) : roomE l g w i = 10 := by rw [roomE_eq hr, if_neg (by simp [h1, h2]), if_neg (by omega), if_neg (by omega), if_neg (by simp [h])]
theorem rE5 (h1 : codeP r.code) (h2 : codeP r.bld) (h3 : 1 ≤ r.seats ∧ r.seats ≤ 9999) (h4 : r.feats.length ≤ 8 ∧ r.closed.length ≤ 24) (h5 : ascP r.feats) (h : ¬ ∀ t ∈ r.closed, fitE g w t = 0) : roomE l g w i = 14 := by rw [roomE_eq hr, if_neg (by simp [h1, h2]), if_neg (by omega), if_neg (by omega), if_pos (pB_t h5), if_neg (by rw [pB_f h]; simp)]
theorem rE6 (h1 : codeP r.code) (h2 : codeP r.bld) (h3 : 1 ≤ r.seats ∧ r.seats ≤ 9999) (h4 : r.feats.length ≤ 8 ∧ r.closed.length ≤ 24) (h5 : ascP r.feats) (h6 : ∀ t ∈ r.closed, fitE g w t = 0) (h : ∃ j, j < i ∧ ∃ q, l[j]? = some q ∧ q.code = r.code) : roomE l g w i = 11 := by rw [roomE_eq hr, if_neg (by simp [h1, h2]), if_neg (by omega), if_neg (by omega), if_pos (pB_t h5), if_pos (pB_t h6), if_pos (pB_t h)]
theorem rE7 (h1 : codeP r.code) (h2 : codeP r.bld) (h3 : 1 ≤ r.seats ∧ r.seats ≤ 9999) (h4 : r.feats.length ≤ 8 ∧ r.closed.length ≤ 24) (h5 : ascP r.feats) (h6 : ∀ t ∈ r.closed, fitE g w t = 0) (h : ¬ ∃ j, j < i ∧ ∃ q, l[j]? = some q ∧ q.code = r.code) : roomE l g w i = 0 := by rw [roomE_eq hr, if_neg (by simp [h1, h2]), if_neg (by omega), if_neg (by omega), if_pos (pB_t h5), if_pos (pB_t h6), if_neg (by rw [pB_f h]; simp)]
end
theorem room_fin {l : List Room} {g : Grid} {w : Int} {i : Nat} {k : Int} (hw : weekP g w) (hn : l.length ≤ 16) (h0 : ∀ j, j < i → roomE l g w j = 0) (hi : i < l.length) (hk : k ≠ 0) (h : roomE l g w i = k) : AV.pv (.val (.int .i64 k)) = vint .i64 (roomsE l g w) :=
  congrArg (vint .i64) (by rw [roomsE_at hw hn h0 hi (by rw [h]; exact hk), h])

def metP (l : List Room) (i : Nat) (es : List (Value × Nat × AV)) : Prop := (strM es ∧ pureM es) ∧ ∀ c : Str, ((∃ j, j < i ∧ ∃ q, l[j]? = some q ∧ q.code = c) → getM (.string c) es = some (vbool true)) ∧ (¬ (∃ j, j < i ∧ ∃ q, l[j]? = some q ∧ q.code = c) → getM (.string c) es = none)

theorem metP_next {l : List Room} {i : Nat} {es : List (Value × Nat × AV)} {r : Room} {ck : Nat} (h : metP l i es) (hr : l[i]? = some r) : metP l (i + 1) (putM (.string r.code) (vbool true) ck es) := by
  refine ⟨⟨strM_put h.1.1, pureM_put h.1.2⟩, fun c => ?_⟩
  have hp := get_put_str (a := c) (b := r.code) (v := vbool true) (ck := ck) h.1.1
  by_cases e : c = r.code
  · exact ⟨fun _ => hp.1 e, fun hn => absurd ⟨i, by omega, r, hr, e.symm⟩ hn⟩
  · rw [hp.2 e]
    refine ⟨fun ⟨j, hj, q, hq, hc⟩ => (h.2 c).1 ⟨j, ?_, q, hq, hc⟩, fun hn => (h.2 c).2 fun ⟨j, hj, q, hq, hc⟩ => hn ⟨j, by omega, q, hq, hc⟩⟩
    rcases Nat.lt_or_ge j i with h1 | h1
    · exact h1
    · have : j = i := by omega
      subst this
      rw [hr] at hq; injection hq with hq; subst hq
      exact absurd hc.symm e

theorem c_rooms (l : List Room) (g : Grid) (w : Int) : PCall Tryz.prog 77 [.pv (encRooms l), ag g.row, vint .i64 w] (fun r => r = vint .i64 (roomsE l g w)) := by
  refine acall_of tok mixed 78 rfl (fn := Tryz.f77) (c := Tryz.f77.body.getD .skip) (by kernel_rfl) (by kernel_rfl) (by kernel_rfl) rfl 0 rfl ?_
  repeat' (first | refine o1 ?_ | refine o2 ?_ | refine k1 ?_ | refine k2 ?_ | refine k3 ?_ | refine k4 ?_ | refine k6 ?_ | refine k7 ?_ | refine And.intro ?_ ?_ | (intro h; first | exact Bool.noConfusion h | exact nz _ h | exact nl h | (simp at h; done) | (simp at h; first | (exfalso; omega) | skip) | skip) | (change retOk _ _ _ _; refine ret_pure rfl trivial ?_) | refine eqv_len_map ?_ | (change vcFun _ _ _ _ _; refine call_eq rfl (by repeat' (first | trivial | refine And.intro ?_ ?_ | (show 0 + _ ≤ List.length _; simp))) ALeL.refl (c_week g w) rfl ?_) | fail)
  · exact congrArg (vint .i64) (by simp [roomsE, *])
  · exact congrArg (vint .i64) (by simp [roomsE, *]; omega)
  · have hw : weekP g w := by assumption
    have hn : l.length ≤ 16 := by omega
    refine loop_at (fun x : Nat × List (Value × Nat × AV) × Nat => [(22, vint .i64 x.1)]) (fun x => [(1, some (.mp true .i64 x.2.1 x.2.2))]) (fun x => x.1 ≤ l.length ∧ metP l x.1 x.2.1 ∧ ∀ j, j < x.1 → roomE l g w j = 0) (fun x => l.length - x.1) (0, [], 0)
      ⟨by simp, ⟨⟨fun e he => by simp at he, fun e he => by simp at he⟩, fun c => ⟨fun ⟨j, hj, _⟩ => by simp at hj, fun _ => rfl⟩⟩, fun j hj => by simp at hj⟩ (by repeat' (first | exact trivial | exact ⟨_, rfl, ALe.refl⟩ | refine And.intro ?_ ?_)) (by repeat' (first | exact trivial | exact rfl | refine And.intro ?_ ?_)) ?_
    rintro ⟨i, es', ck⟩ ⟨hi, hmet, hall⟩
    dsimp only at hi hmet hall
    rcases Nat.lt_or_ge i l.length with hlt | hge
    · obtain ⟨r, hr⟩ := getE hlt
      by_cases hd : ∃ j, j < i ∧ ∃ q, l[j]? = some q ∧ q.code = r.code
      · have hg := (hmet.2 r.code).1 hd
        repeat' (first | (refine eqv_to _ hg ?_) | refine o1 ?_ | refine o2 ?_ | refine k1 ?_ | refine k2 ?_ | refine k3 ?_ | refine k4 ?_ | refine k6 ?_ | refine k7 ?_ | refine And.intro ?_ ?_ | (intro h; first | exact Bool.noConfusion h | exact nz _ h | exact nl h | (simp at h; done) | (simp at h; first | (exfalso; omega) | skip) | skip) | (change retOk _ _ _ _; refine ret_pure rfl trivial ?_) | exact (by kernel_rfl : drawOk _ _ = true) | refine eqv_len_map ?_ | refine ⟨_, _, (by first | rfl | assumption), at_map (by assumption), ?_⟩ | (change vcFun _ _ _ _ _; refine call_eq rfl (by repeat' (first | trivial | refine And.intro ?_ ?_ | (show 0 + _ ≤ List.length _; simp))) ALeL.refl (c_code r.code) rfl ?_) | (change vcFun _ _ _ _ _; refine call_eq rfl (by repeat' (first | trivial | refine And.intro ?_ ?_ | (show 0 + _ ≤ List.length _; simp))) ALeL.refl (c_code r.bld) rfl ?_) | (change vcFun _ _ _ _ _; refine call_eq rfl (by repeat' (first | trivial | refine And.intro ?_ ?_ | (show 0 + _ ≤ List.length _; simp))) ALeL.refl (c_asc r.feats (by omega)) rfl ?_) | (change vcFun _ _ _ _ _; refine call_eq rfl (by repeat' (first | trivial | refine And.intro ?_ ?_ | (show 0 + _ ≤ List.length _; simp))) ALeL.refl (c_fit r.closed g w (by omega)) rfl ?_) | fail)
        all_goals first
          | exact room_fin hw hn hall hlt (by decide) (rE1 hr (by first | exact .inl (by assumption) | exact .inr (by assumption)))
          | exact room_fin hw hn hall hlt (by decide) (rE2 hr (by assumption) (by assumption) (by omega))
          | exact room_fin hw hn hall hlt (by decide) (rE3 hr (by assumption) (by assumption) (by omega) (by omega))
          | exact room_fin hw hn hall hlt (by decide) (rE4 hr (by assumption) (by assumption) (by omega) (by omega) (by assumption))
          | exact room_fin hw hn hall hlt (by decide) (rE5 hr (by assumption) (by assumption) (by omega) (by omega) (by assumption) (by first | assumption | simpa using ‹_›))
          | exact room_fin hw hn hall hlt (by decide) (rE6 hr (by assumption) (by assumption) (by omega) (by omega) (by assumption) (by assumption) hd)
      · have hg := (hmet.2 r.code).2 hd
        repeat' (first | (refine eqv_to _ hg ?_) | refine o1 ?_ | refine o2 ?_ | refine k1 ?_ | refine k2 ?_ | refine k3 ?_ | refine k4 ?_ | refine k6 ?_ | refine k7 ?_ | refine And.intro ?_ ?_ | (intro h; first | exact Bool.noConfusion h | exact nz _ h | exact nl h | (simp at h; done) | (simp at h; first | (exfalso; omega) | skip) | skip) | (change retOk _ _ _ _; refine ret_pure rfl trivial ?_) | exact (by kernel_rfl : drawOk _ _ = true) | refine eqv_len_map ?_ | refine eqv_put (eqv_ck ?_) | refine eqv_wrap (by omega) (by omega) ?_ | refine ⟨_, _, (by first | rfl | assumption), at_map (by assumption), ?_⟩ | (change vcFun _ _ _ _ _; refine call_eq rfl (by repeat' (first | trivial | refine And.intro ?_ ?_ | (show 0 + _ ≤ List.length _; simp))) ALeL.refl (c_code r.code) rfl ?_) | (change vcFun _ _ _ _ _; refine call_eq rfl (by repeat' (first | trivial | refine And.intro ?_ ?_ | (show 0 + _ ≤ List.length _; simp))) ALeL.refl (c_code r.bld) rfl ?_) | (change vcFun _ _ _ _ _; refine call_eq rfl (by repeat' (first | trivial | refine And.intro ?_ ?_ | (show 0 + _ ≤ List.length _; simp))) ALeL.refl (c_asc r.feats (by omega)) rfl ?_) | (change vcFun _ _ _ _ _; refine call_eq rfl (by repeat' (first | trivial | refine And.intro ?_ ?_ | (show 0 + _ ≤ List.length _; simp))) ALeL.refl (c_fit r.closed g w (by omega)) rfl ?_) | fail)
        all_goals first
          | exact room_fin hw hn hall hlt (by decide) (rE1 hr (by first | exact .inl (by assumption) | exact .inr (by assumption)))
          | exact room_fin hw hn hall hlt (by decide) (rE2 hr (by assumption) (by assumption) (by omega))
          | exact room_fin hw hn hall hlt (by decide) (rE3 hr (by assumption) (by assumption) (by omega) (by omega))
          | exact room_fin hw hn hall hlt (by decide) (rE4 hr (by assumption) (by assumption) (by omega) (by omega) (by assumption))
          | exact room_fin hw hn hall hlt (by decide) (rE5 hr (by assumption) (by assumption) (by omega) (by omega) (by assumption) (by first | assumption | simpa using ‹_›))
          | exact room_fin hw hn hall hlt (by decide) (rE6 hr (by assumption) (by assumption) (by omega) (by omega) (by assumption) (by assumption) hd)
          | exact ⟨(i + 1, _, _), ⟨hlt, metP_next hmet hr, all_lt_succ hall (rE7 hr (by assumption) (by assumption) (by omega) (by omega) (by assumption) (by assumption) hd)⟩, by dsimp only; omega, back [0, 1] rfl rfl ⟨rfl, (congrArg (fun o => some (some o)) (ren_mp (pureM_put (p := .val (.bool true)) (k := .string r.code) (ck := ck) hmet.1.2)).symm), trivial⟩ (by repeat' (first | exact trivial | exact rfl | refine And.intro ?_ ?_))⟩
    · repeat' (first | refine o1 ?_ | refine o2 ?_ | refine k1 ?_ | refine k2 ?_ | refine k3 ?_ | refine k7 ?_ | refine k8 ?_ | refine And.intro ?_ ?_ | (intro h; first | exact Bool.noConfusion h | exact nz _ h | exact nl h | (simp at h; done) | (simp at h; first | (exfalso; omega) | skip) | skip) | (change retOk _ _ _ _; refine ret_pure rfl trivial ?_) | fail)
      exact congrArg (vint .i64) (by rw [roomsE, pB_t hw, if_pos rfl, if_neg (by omega), firstE_zero fun j hj => hall j (by omega)])
end Go.Proofs.YtpnghlibmpainaaGreat.Cw

/-
  Contracts: rooms, the reference.
-/
namespace Go.Proofs.YtpnghlibmpainaaGreat.Cw
open Go.Cw Go.Proofs
set_option linter.unusedVariables false
set_option maxRecDepth 100000

theorem c_rrooms (l : List Room) (g : Grid) (w : Int) : PCall Tryz.prog 83 [.pv (encRooms l), ag g.row, vint .i64 w] (fun r => r = vint .i64 (roomsE l g w)) := by
  refine acall_of tok mixed 89 rfl (fn := Tryz.f83) (c := Tryz.f83.body.getD .skip) (by kernel_rfl) (by kernel_rfl) (by kernel_rfl) rfl 0 rfl ?_
  repeat' (first | refine o1 ?_ | refine o2 ?_ | refine k1 ?_ | refine k2 ?_ | refine k3 ?_ | refine k4 ?_ | refine k6 ?_ | refine k7 ?_ | refine And.intro ?_ ?_ | (intro h; first | exact Bool.noConfusion h | exact nz _ h | exact nl h | (simp at h; done) | (simp at h; first | (exfalso; omega) | skip) | skip) | (change retOk _ _ _ _; refine ret_pure rfl trivial ?_) | refine eqv_len_map ?_ | (change vcFun _ _ _ _ _; refine call_eq rfl (by repeat' (first | trivial | refine And.intro ?_ ?_ | (show 0 + _ ≤ List.length _; simp))) ALeL.refl (c_rweek g w) rfl ?_) | fail)
  · exact congrArg (vint .i64) (by simp [roomsE, *])
  · exact congrArg (vint .i64) (by simp [roomsE, *]; omega)
  · have hw : weekP g w := by assumption
    have hn : l.length ≤ 16 := by omega
    refine loop_at (fun i : Nat => [(7, vint .i64 i)]) (fun x => []) (fun i => i ≤ l.length ∧ ∀ j, j < i → roomE l g w j = 0) (fun i => l.length - i) 0
      ⟨by omega, fun j hj => by omega⟩ (by repeat' (first | exact trivial | exact ⟨_, rfl, ALe.refl⟩ | refine And.intro ?_ ?_)) (by repeat' (first | exact trivial | exact rfl | refine And.intro ?_ ?_)) ?_
    intro i ⟨hi, hall⟩
    rcases Nat.lt_or_ge i l.length with hlt | hge
    · obtain ⟨r, hr⟩ := getE hlt
      repeat' (first | refine o1 ?_ | refine o2 ?_ | refine k1 ?_ | refine k2 ?_ | refine k3 ?_ | refine k4 ?_ | refine k6 ?_ | refine k7 ?_ | refine And.intro ?_ ?_ | (intro h; first | exact Bool.noConfusion h | exact nz _ h | exact nl h | (simp at h; done) | (simp at h; first | (exfalso; omega) | skip) | skip) | (change retOk _ _ _ _; refine ret_pure rfl trivial ?_) | exact (by kernel_rfl : drawOk _ _ = true) | refine eqv_len_map ?_ | refine ⟨_, _, (by first | rfl | assumption), at_map (by assumption), ?_⟩ | (change vcFun _ _ _ _ _; refine call_eq rfl (by repeat' (first | trivial | refine And.intro ?_ ?_ | (show 0 + _ ≤ List.length _; simp))) ALeL.refl (c_rcode r.code) rfl ?_) | (change vcFun _ _ _ _ _; refine call_eq rfl (by repeat' (first | trivial | refine And.intro ?_ ?_ | (show 0 + _ ≤ List.length _; simp))) ALeL.refl (c_rcode r.bld) rfl ?_) | (change vcFun _ _ _ _ _; refine call_eq rfl (by repeat' (first | trivial | refine And.intro ?_ ?_ | (show 0 + _ ≤ List.length _; simp))) ALeL.refl (c_rcodes r.feats (by omega)) rfl ?_) | fail)
      all_goals first
        | exact room_fin hw hn hall hlt (by decide) (rE1 hr (by first | exact .inl (by assumption) | exact .inr (by assumption)))
        | exact room_fin hw hn hall hlt (by decide) (rE2 hr (by assumption) (by assumption) (by omega))
        | exact room_fin hw hn hall hlt (by decide) (rE3 hr (by assumption) (by assumption) (by omega) (by omega))
        | exact room_fin hw hn hall hlt (by decide) (rE4 hr (by assumption) (by assumption) (by omega) (by omega) (by assumption))
        | skip
      refine loop_at (fun k : Nat => [(9, vint .i64 k)]) (fun _ => []) (fun k => k ≤ r.closed.length ∧ ∀ j, j < k → ∀ t, r.closed[j]? = some t → fitE g w t = 0) (fun k => r.closed.length - k) 0 ⟨by omega, fun j hj => by omega⟩ (by repeat' (first | exact trivial | exact ⟨_, rfl, ALe.refl⟩ | refine And.intro ?_ ?_)) (by repeat' (first | exact trivial | exact rfl | refine And.intro ?_ ?_)) ?_
      intro k ⟨hk, hfit⟩
      rcases Nat.lt_or_ge k r.closed.length with hlk | hgk
      · obtain ⟨t, ht⟩ := getE hlk
        repeat' (first | refine o1 ?_ | refine o2 ?_ | refine k1 ?_ | refine k2 ?_ | refine k3 ?_ | refine k4 ?_ | refine k6 ?_ | refine k7 ?_ | refine And.intro ?_ ?_ | refine o3 ?_ | refine o4 ?_ | (intro h; first | exact Bool.noConfusion h | exact nz _ h | exact nl h | (simp at h; done) | (simp at h; first | (exfalso; omega) | skip) | skip) | (change retOk _ _ _ _; refine ret_pure rfl trivial ?_) | exact (by kernel_rfl : drawOk _ _ = true) | refine eqv_len_map ?_ | refine eqv_wrap (by omega) (by omega) ?_ | refine ⟨_, _, (by first | rfl | assumption), at_map (by assumption), ?_⟩ | (change vcFunD _ _ _ _ _; refine callD_eq rfl (by repeat' (first | trivial | refine And.intro ?_ ?_ | (show 0 + _ ≤ List.length _; simp))) ALeL.refl (c_rfits g w t) rfl ?_) | fail)
        all_goals first
          | exact room_fin hw hn hall hlt (by decide) (rE5 hr (by assumption) (by assumption) (by omega) (by omega) (by assumption) (fun h => absurd (h t (List.mem_of_getElem? ht)) (by assumption)))
          | exact ⟨k + 1, ⟨by omega, all_lt_succ hfit fun t' h' => by rw [ht] at h'; cases h'; assumption⟩, by omega, back [0, 1] rfl rfl ⟨rfl, rfl, trivial⟩ (by repeat' (first | exact trivial | exact rfl | refine And.intro ?_ ?_))⟩
      · have hfits : ∀ t ∈ r.closed, fitE g w t = 0 := fun t ht => by
          obtain ⟨j, hj, rfl⟩ := List.getElem_of_mem ht
          exact hfit j (by omega) _ (List.getElem?_eq_getElem hj)
        repeat' (first | refine o1 ?_ | refine o2 ?_ | refine k1 ?_ | refine k2 ?_ | refine k3 ?_ | refine k4 ?_ | refine k8 ?_ | refine And.intro ?_ ?_ | (intro h; first | exact Bool.noConfusion h | exact nz _ h | exact nl h | (simp at h; done) | (simp at h; first | (exfalso; omega) | skip) | skip) | refine eqv_len_map ?_ | fail)
        refine loop_at (fun k : Nat => [(10, vint .i64 k)]) (fun _ => []) (fun k => k ≤ i ∧ ∀ j, j < k → ∀ q, l[j]? = some q → q.code ≠ r.code) (fun k => i - k) 0 ⟨by omega, fun j hj => by omega⟩ (by repeat' (first | exact trivial | exact ⟨_, rfl, ALe.refl⟩ | refine And.intro ?_ ?_)) (by repeat' (first | exact trivial | exact rfl | refine And.intro ?_ ?_)) ?_
        intro kk ⟨hkk, hdup⟩
        rcases Nat.lt_or_ge kk i with hlk2 | hgk2
        · obtain ⟨q, hq⟩ := getE (show kk < l.length by omega)
          repeat' (first | refine o1 ?_ | refine o2 ?_ | refine k1 ?_ | refine k2 ?_ | refine k3 ?_ | refine k4 ?_ | refine k6 ?_ | refine k7 ?_ | refine And.intro ?_ ?_ | refine o3 ?_ | refine o4 ?_ | (intro h; first | exact Bool.noConfusion h | exact nz _ h | exact nl h | (simp at h; done) | (simp at h; first | (exfalso; omega) | skip) | skip) | (change retOk _ _ _ _; refine ret_pure rfl trivial ?_) | exact (by kernel_rfl : drawOk _ _ = true) | refine eqv_wrap (by omega) (by omega) ?_ | refine ⟨_, _, (by first | rfl | assumption), at_map (by assumption), ?_⟩ | fail)
          all_goals first
            | exact room_fin hw hn hall hlt (by decide) (rE6 hr (by assumption) (by assumption) (by omega) (by omega) (by assumption) hfits ⟨kk, hlk2, q, hq, sEq_iff.1 (by assumption)⟩)
            | exact ⟨kk + 1, ⟨by omega, all_lt_succ hdup fun q' h' => by rw [hq] at h'; cases h'; exact sEq_f.1 (by assumption)⟩, by omega, back [0, 1] rfl rfl ⟨rfl, rfl, trivial⟩ (by repeat' (first | exact trivial | exact rfl | refine And.intro ?_ ?_))⟩
        · repeat' (first | refine o1 ?_ | refine o2 ?_ | refine k1 ?_ | refine k2 ?_ | refine k3 ?_ | refine k8 ?_ | refine And.intro ?_ ?_ | (intro h; first | exact Bool.noConfusion h | exact nz _ h | exact nl h | (simp at h; done) | (simp at h; first | (exfalso; omega) | skip) | skip) | refine eqv_wrap (by omega) (by omega) ?_ | fail)
          exact ⟨i + 1, ⟨by omega, all_lt_succ hall (rE7 hr (by assumption) (by assumption) (by omega) (by omega) (by assumption) hfits (fun ⟨j, hj, q, hq, hc⟩ => hdup j (by omega) q hq hc))⟩, by omega, back [0] rfl rfl ⟨rfl, trivial⟩ (by repeat' (first | exact trivial | exact rfl | refine And.intro ?_ ?_))⟩
    · repeat' (first | refine o1 ?_ | refine o2 ?_ | refine k1 ?_ | refine k2 ?_ | refine k3 ?_ | refine k7 ?_ | refine k8 ?_ | refine And.intro ?_ ?_ | (intro h; first | exact Bool.noConfusion h | exact nz _ h | exact nl h | (simp at h; done) | (simp at h; first | (exfalso; omega) | skip) | skip) | (change retOk _ _ _ _; refine ret_pure rfl trivial ?_) | refine eqv_len_map ?_ | fail)
      exact congrArg (vint .i64) (by rw [roomsE, pB_t hw, if_pos rfl, if_neg (by omega), firstE_zero fun j hj => hall j (by omega)])
end Go.Proofs.YtpnghlibmpainaaGreat.Cw

/-
  Contracts: comparisons of numbers; sittings.
-/
namespace Go.Proofs.YtpnghlibmpainaaGreat.Cw
open Go.Cw Go.Proofs
set_option linter.unusedVariables false
set_option maxRecDepth 100000

def cmpI (a b : Int) : Int := if a < b then -1 else if a > b then 1 else 0
def orI : List Int → Int
  | [] => 0
  | x :: l => if x = 0 then orI l else x

theorem orI_at : ∀ {l : List Int} {i : Nat} {x : Int}, (∀ j, j < i → ∀ y, l[j]? = some y → y = 0) → l[i]? = some x → x ≠ 0 → orI l = x
  | [], i, x, _, h, _ => by simp at h
  | y :: l, 0, x, _, h, hx => by simp at h; subst h; simp [orI, hx]
  | y :: l, i + 1, x, h0, h, hx => by
    have := h0 0 (by omega) y rfl
    subst this
    simp only [orI, if_true]
    exact orI_at (i := i) (fun j hj z hz => h0 (j + 1) (by omega) z (by simpa using hz)) (by simpa using h) hx
theorem orI_zero : ∀ {l : List Int}, (∀ j, j < l.length → ∀ y, l[j]? = some y → y = 0) → orI l = 0
  | [], _ => rfl
  | y :: l, h0 => by
    have := h0 0 (by simp) y rfl
    subst this
    simp only [orI, if_true]
    exact orI_zero fun j hj z hz => h0 (j + 1) (by simpa using hj) z (by simpa using hz)

theorem c_isNaN (a : Int) : PCall Tryz.prog 139 [vint .i64 a] (fun r => r = vbool false) := by
  refine acall_of tok mixed 6 rfl (fn := Tryz.f139) (c := Tryz.f139.body.getD .skip) (by kernel_rfl) (by kernel_rfl) (by kernel_rfl) rfl 0 rfl ?_
  repeat' (first | refine o1 ?_ | refine o2 ?_ | refine k1 ?_ | refine k2 ?_ | refine k7 ?_ | (change retOk _ _ _ _; refine ret_pure rfl trivial ?_) | fail)
  exact congrArg vbool (by simp)

theorem c_cmp (a b : Int) : PCall Tryz.prog 102 [vint .i64 a, vint .i64 b] (fun r => r = vint .i64 (cmpI a b)) := by
  refine acall_of tok mixed 20 rfl (fn := Tryz.f102) (c := Tryz.f102.body.getD .skip) (by kernel_rfl) (by kernel_rfl) (by kernel_rfl) rfl 0 rfl ?_
  repeat' (first | refine o1 ?_ | refine o2 ?_ | refine k1 ?_ | refine k2 ?_ | refine k3 ?_ | refine k6 ?_ | refine k7 ?_ | refine And.intro ?_ ?_ | (intro h; first | exact Bool.noConfusion h | exact nz _ h | exact nl h | (simp at h; done) | (simp at h; first | (exfalso; omega) | skip) | skip) | (change retOk _ _ _ _; refine ret_pure rfl trivial ?_) | (change vcFun _ _ _ _ _; refine call_eq rfl (by repeat' (first | trivial | refine And.intro ?_ ?_ | (show 0 + _ ≤ List.length _; simp))) ALeL.refl (c_isNaN _) rfl ?_) | fail)
  all_goals exact congrArg (vint .i64) (by unfold cmpI; split <;> first | omega | (split <;> omega))

theorem c_or (l : List Int) (hl : l.length ≤ 1000) : PCall Tryz.prog 101 [.pv (encInts l)] (fun r => r = vint .i64 (orI l)) := by
  refine acall_of tok mixed 18 rfl (fn := Tryz.f101) (c := Tryz.f101.body.getD .skip) (by kernel_rfl) (by kernel_rfl) (by kernel_rfl) rfl 0 rfl ?_
  repeat' (first | refine o1 ?_ | refine o2 ?_ | refine k1 ?_ | refine k2 ?_ | refine k4 ?_ | refine eqv_len_map ?_ | fail)
  refine loop_at (fun i : Nat => [(8, vint .i64 i)]) (fun _ => []) (fun i => i ≤ l.length ∧ ∀ j, j < i → ∀ y, l[j]? = some y → y = 0) (fun i => l.length - i) 0 ⟨by omega, fun j hj => by omega⟩ (by repeat' (first | exact trivial | exact ⟨_, rfl, ALe.refl⟩ | refine And.intro ?_ ?_)) (by repeat' (first | exact trivial)) ?_
  intro i ⟨hi, hall⟩
  rcases Nat.lt_or_ge i l.length with hlt | hge
  · obtain ⟨x, hx⟩ := getE hlt
    repeat' (first | refine o1 ?_ | refine o2 ?_ | refine k1 ?_ | refine k2 ?_ | refine k3 ?_ | refine k4 ?_ | refine k6 ?_ | refine k7 ?_ | refine And.intro ?_ ?_ | (intro h; first | exact Bool.noConfusion h | exact nz _ h | exact nl h | (simp at h; done) | (simp at h; first | (exfalso; omega) | skip) | skip) | (change retOk _ _ _ _; refine ret_pure rfl trivial ?_) | refine eqv_wrap (by omega) (by omega) ?_ | refine ⟨_, _, (by first | rfl | assumption), at_map (by assumption), ?_⟩ | fail)
    all_goals first
      | exact ⟨i + 1, ⟨by omega, all_lt_succ hall fun y hy => by rw [hx] at hy; cases hy; assumption⟩, by omega, back [] rfl rfl trivial (by repeat' (first | exact trivial | exact rfl | refine And.intro ?_ ?_))⟩
      | exact congrArg (vint .i64) (orI_at hall hx (by assumption)).symm
  · repeat' (first | refine o1 ?_ | refine o2 ?_ | refine k1 ?_ | refine k2 ?_ | refine k3 ?_ | refine k7 ?_ | refine k8 ?_ | refine And.intro ?_ ?_ | (intro h; first | exact Bool.noConfusion h | exact nz _ h | exact nl h | (simp at h; done) | (simp at h; first | (exfalso; omega) | skip) | skip) | (change retOk _ _ _ _; refine ret_pure rfl trivial ?_) | fail)
    exact congrArg (vint .i64) (orI_zero fun j hj => hall j (by omega)).symm
end Go.Proofs.YtpnghlibmpainaaGreat.Cw

/-
  Contracts: comparisons of numbers; sittings.
-/
namespace Go.Proofs.YtpnghlibmpainaaGreat.Cw
open Go.Cw Go.Proofs
set_option linter.unusedVariables false
set_option maxRecDepth 100000

def timedP (s : Sitting) : Prop := 0 ≤ s.day ∧ s.day < 140 ∧ 0 ≤ s.start ∧ s.start < 24 ∧ 1 ≤ s.len ∧ s.len ≤ 24 - s.start
def lexP (p s : Sitting) : Prop := p.day < s.day ∨ (p.day = s.day ∧ p.start < s.start)
theorem lex_cmp {p s : Sitting} : orI [cmpI p.day s.day, cmpI p.start s.start] < 0 ↔ lexP p s := by
  simp only [orI, cmpI, lexP]
  grind

theorem c_timed (s : Sitting) : PCall Tryz.prog 38 [ag s.row] (fun r => r = vbool (pB (timedP s))) := by
  refine acall_of tok mixed 32 rfl (fn := Tryz.f38) (c := Tryz.f38.body.getD .skip) (by kernel_rfl) (by kernel_rfl) (by kernel_rfl) rfl 0 rfl ?_
  repeat' (first | refine o1 ?_ | refine o2 ?_ | refine k1 ?_ | refine k2 ?_ | refine k3 ?_ | refine k6 ?_ | refine k7 ?_ | refine And.intro ?_ ?_ | (intro h; first | exact Bool.noConfusion h | exact nz _ h | exact nl h | (simp at h; done) | (simp at h; first | (exfalso; omega) | skip) | skip) | (change retOk _ _ _ _; refine ret_pure rfl trivial ?_) | refine eqv_wrap (by omega) (by omega) ?_ | fail)
  all_goals first
    | (refine congrArg vbool (pB_f fun h => ?_).symm; obtain ⟨h1, h2, h3, h4, h5, h6⟩ := h; omega)
    | (refine congrArg vbool (pB_t ?_).symm; exact ⟨by omega, by omega, by omega, by omega, by omega, by omega⟩)
    | (refine congrArg vbool (pB_eq ?_); unfold timedP; simp; omega)
theorem c_rtimed (s : Sitting) : PCall Tryz.prog 39 [ag s.row] (fun r => r = vbool (pB (timedP s))) := by
  refine acall_of tok mixed 34 rfl (fn := Tryz.f39) (c := Tryz.f39.body.getD .skip) (by kernel_rfl) (by kernel_rfl) (by kernel_rfl) rfl 0 rfl ?_
  repeat' (first | refine o1 ?_ | refine o2 ?_ | refine k1 ?_ | refine k2 ?_ | refine k7 ?_ | refine And.intro ?_ ?_ | (intro h; first | exact Bool.noConfusion h | exact nz _ h | exact nl h | (simp at h; done) | (simp at h; first | (exfalso; omega) | skip) | skip) | (change retOk _ _ _ _; refine ret_pure rfl trivial ?_) | refine eqv_wrap (by omega) (by omega) ?_ | fail)
  all_goals first
    | (refine congrArg vbool (pB_f fun h => ?_).symm; obtain ⟨h1, h2, h3, h4, h5, h6⟩ := h; omega)
    | (refine congrArg vbool (pB_t ?_).symm; exact ⟨by omega, by omega, by omega, by omega, by omega, by omega⟩)
    | (refine congrArg vbool (pB_eq ?_); unfold timedP; simp; omega)

/-- What is wrong with a sitting. -/
noncomputable def sitE (l : List Sitting) (i : Nat) : Int := match l[i]? with
  | none => 0
  | some s => if pB (timedP s) then (if s.cost < 0 ∨ 1000 < s.cost then 3 else if pB (∃ k p, i = k + 1 ∧ l[k]? = some p ∧ ¬ lexP p s) then 63 else 0) else 14
noncomputable def sitsE (l : List Sitting) : Int := if 24 < l.length then 2 else firstE (sitE l) l.length

section
variable {l : List Sitting} {i : Nat} {s : Sitting} (hr : l[i]? = some s)
include hr
theorem sE1 (h : ¬ timedP s) : sitE l i = 14 := by unfold sitE; rw [hr]; simp [h]
theorem sE2 (h1 : timedP s) (h : s.cost < 0 ∨ 1000 < s.cost) : sitE l i = 3 := by unfold sitE; rw [hr]; dsimp only; rw [if_pos (pB_t h1), if_pos h]
theorem sE3 (h1 : timedP s) (h2 : 0 ≤ s.cost ∧ s.cost ≤ 1000) (h : ∃ k p, i = k + 1 ∧ l[k]? = some p ∧ ¬ lexP p s) : sitE l i = 63 := by unfold sitE; rw [hr]; dsimp only; rw [if_pos (pB_t h1), if_neg (by omega), if_pos (pB_t h)]
theorem sE4 (h1 : timedP s) (h2 : 0 ≤ s.cost ∧ s.cost ≤ 1000) (h : ¬ ∃ k p, i = k + 1 ∧ l[k]? = some p ∧ ¬ lexP p s) : sitE l i = 0 := by unfold sitE; rw [hr]; dsimp only; rw [if_pos (pB_t h1), if_neg (by omega), if_neg (by rw [pB_f h]; simp)]
end
theorem sit_fin {l : List Sitting} {i : Nat} {k : Int} (hn : l.length ≤ 24) (h0 : ∀ j, j < i → sitE l j = 0) (hi : i < l.length) (hk : k ≠ 0) (h : sitE l i = k) : AV.pv (.val (.int .i64 k)) = vint .i64 (sitsE l) :=
  congrArg (vint .i64) (by rw [sitsE, if_neg (by omega), firstE_at h0 (by rw [h]; exact hk) hi, h])

theorem c_sits (l : List Sitting) : PCall Tryz.prog 81 [.pv (.sl 4 (l.map Sitting.row))] (fun r => r = vint .i64 (sitsE l)) := by
  refine acall_of tok mixed 55 rfl (fn := Tryz.f81) (c := Tryz.f81.body.getD .skip) (by kernel_rfl) (by kernel_rfl) (by kernel_rfl) rfl 0 rfl ?_
  repeat' (first | refine o1 ?_ | refine o2 ?_ | refine k1 ?_ | refine k2 ?_ | refine k3 ?_ | refine k4 ?_ | refine k6 ?_ | refine k7 ?_ | refine And.intro ?_ ?_ | (intro h; first | exact Bool.noConfusion h | exact nz _ h | exact nl h | (simp at h; done) | (simp at h; first | (exfalso; omega) | skip) | skip) | (change retOk _ _ _ _; refine ret_pure rfl trivial ?_) | refine eqv_len_map ?_ | fail)
  · exact congrArg (vint .i64) (by rw [sitsE, if_pos (by omega)])
  · refine loop_at (fun i : Nat => [(10, vint .i64 i)]) (fun _ => []) (fun i => i ≤ l.length ∧ ∀ j, j < i → sitE l j = 0) (fun i => l.length - i) 0 ⟨by omega, fun j hj => by omega⟩ (by repeat' (first | exact trivial | exact ⟨_, rfl, ALe.refl⟩ | refine And.intro ?_ ?_)) (by repeat' (first | exact trivial)) ?_
    intro i ⟨hi, hall⟩
    rcases Nat.lt_or_ge i l.length with hlt | hge
    · obtain ⟨s, hs⟩ := getE hlt
      rcases i with _ | k
      · repeat' (first | refine o1 ?_ | refine o2 ?_ | refine k1 ?_ | refine k2 ?_ | refine k3 ?_ | refine k4 ?_ | refine k6 ?_ | refine k7 ?_ | refine k8 ?_ | refine And.intro ?_ ?_ | refine o3 ?_ | refine o4 ?_ | (intro h; first | exact Bool.noConfusion h | exact nz _ h | exact nl h | (simp at h; done) | (simp at h; first | (exfalso; omega) | skip) | skip) | (change retOk _ _ _ _; refine ret_pure rfl trivial ?_) | exact (by kernel_rfl : drawOk _ _ = true) | refine eqv_wrap (by omega) (by omega) ?_ | refine ⟨_, _, (by first | rfl | assumption), at_map (by assumption), ?_⟩ | (change vcFun _ _ _ _ _; refine call_eq rfl (by repeat' (first | trivial | refine And.intro ?_ ?_ | (show 0 + _ ≤ List.length _; simp))) ALeL.refl (c_timed s) rfl ?_) | fail)
        all_goals first
          | (exfalso; simp_all; done)
          | exact sit_fin (by omega) hall hlt (by decide) (sE1 hs (by assumption))
          | exact sit_fin (by omega) hall hlt (by decide) (sE2 hs (by assumption) (by omega))
          | exact ⟨1, ⟨by omega, all_lt_succ hall (sE4 hs (by assumption) (by omega) (fun ⟨k, p, e, _⟩ => by omega))⟩, by omega, back [] rfl rfl trivial (by repeat' (first | exact trivial | exact rfl | refine And.intro ?_ ?_))⟩
      · obtain ⟨p, hp⟩ := getE (show k < l.length by omega)
        have hlx := @lex_cmp p s
        repeat' (first | (refine idx_sl (k := k + 1) (at_map hs) (by omega) ?_) | (refine idx_sl (k := k) (at_map hp) (by omega) ?_) | refine o1 ?_ | refine o2 ?_ | refine k1 ?_ | refine k2 ?_ | refine k3 ?_ | refine k4 ?_ | refine k6 ?_ | refine k7 ?_ | refine And.intro ?_ ?_ | refine o3 ?_ | refine o4 ?_ | (intro h; first | exact Bool.noConfusion h | exact nz _ h | exact nl h | (simp at h; done) | (simp at h; first | (exfalso; omega) | skip) | skip) | (change retOk _ _ _ _; refine ret_pure rfl trivial ?_) | exact (by kernel_rfl : drawOk _ _ = true) | refine eqv_wrap (by omega) (by omega) ?_ | (change vcFunD _ _ _ _ _; refine callD_eq rfl (by repeat' (first | trivial | refine And.intro ?_ ?_ | (show 0 + _ ≤ List.length _; simp))) ALeL.refl (c_cmp _ _) rfl ?_) | (change vcFunD _ _ _ _ _; refine callD_eq rfl (by repeat' (first | trivial | refine And.intro ?_ ?_ | (show 0 + _ ≤ List.length _; simp))) ALeL.refl (c_or [cmpI p.day s.day, cmpI p.start s.start] (Nat.le_of_ble_eq_true rfl)) rfl ?_) | (change vcFun _ _ _ _ _; refine call_eq rfl (by repeat' (first | trivial | refine And.intro ?_ ?_ | (show 0 + _ ≤ List.length _; simp))) ALeL.refl (c_timed s) rfl ?_) | fail)
        all_goals first
          | exact sit_fin (by omega) hall hlt (by decide) (sE1 hs (by assumption))
          | exact sit_fin (by omega) hall hlt (by decide) (sE2 hs (by assumption) (by omega))
          | exact sit_fin (by omega) hall hlt (by decide) (sE3 hs (by assumption) (by omega) ⟨k, p, rfl, hp, fun h => by have := hlx.2 h; omega⟩)
          | exact ⟨k + 2, ⟨by omega, all_lt_succ hall (sE4 hs (by assumption) (by omega) (fun ⟨k', p', e, h1, h2⟩ => h2 (by cases e; rw [hp] at h1; cases h1; exact hlx.1 (by omega))))⟩, by omega, back [] rfl rfl trivial (by repeat' (first | exact trivial | exact rfl | refine And.intro ?_ ?_))⟩
    · repeat' (first | refine o1 ?_ | refine o2 ?_ | refine k1 ?_ | refine k2 ?_ | refine k3 ?_ | refine k7 ?_ | refine k8 ?_ | refine And.intro ?_ ?_ | (intro h; first | exact Bool.noConfusion h | exact nz _ h | exact nl h | (simp at h; done) | (simp at h; first | (exfalso; omega) | skip) | skip) | (change retOk _ _ _ _; refine ret_pure rfl trivial ?_) | fail)
      exact congrArg (vint .i64) (by rw [sitsE, if_neg (by omega), firstE_zero fun j hj => hall j (by omega)])
end Go.Proofs.YtpnghlibmpainaaGreat.Cw

/-
  Contracts: exams by themselves.
-/
namespace Go.Proofs.YtpnghlibmpainaaGreat.Cw
open Go.Cw Go.Proofs
set_option linter.unusedVariables false
set_option maxRecDepth 100000
set_option maxHeartbeats 800000

/-- What is wrong with an exam. -/
noncomputable def examE (e : Exam) : Int :=
  if pB (codeP e.code) then
    if e.len < 1 ∨ 24 < e.len then 3
    else if 8 < e.feats.length ∨ 64 < e.studs.length then 2
    else if e.studs = [] then 16
    else if pB (ascP e.feats ∧ ascP e.studs) then 0 else 10
  else 10
section
variable {e : Exam}
theorem xE1 (h : ¬ codeP e.code) : examE e = 10 := by unfold examE; rw [if_neg (by rw [pB_f h]; simp)]
variable (hc : codeP e.code)
include hc
theorem xE2 (h : e.len < 1 ∨ 24 < e.len) : examE e = 3 := by unfold examE; rw [if_pos (pB_t hc), if_pos h]
variable (h1 : 1 ≤ e.len ∧ e.len ≤ 24)
include h1
theorem xE3 (h : 8 < e.feats.length ∨ 64 < e.studs.length) : examE e = 2 := by unfold examE; rw [if_pos (pB_t hc), if_neg (by omega), if_pos h]
variable (h2 : e.feats.length ≤ 8 ∧ e.studs.length ≤ 64)
include h2
theorem xE4 (h : e.studs = []) : examE e = 16 := by unfold examE; rw [if_pos (pB_t hc), if_neg (by omega), if_neg (by omega), if_pos h]
variable (h3 : ¬ e.studs = [])
include h3
theorem xE5 (h : ¬ (ascP e.feats ∧ ascP e.studs)) : examE e = 10 := by unfold examE; rw [if_pos (pB_t hc), if_neg (by omega), if_neg (by omega), if_neg h3, if_neg (by rw [pB_f h]; simp)]
theorem xE6 (h : ascP e.feats ∧ ascP e.studs) : examE e = 0 := by unfold examE; rw [if_pos (pB_t hc), if_neg (by omega), if_neg (by omega), if_neg h3, if_pos (pB_t h)]
end

theorem c_exam (e : Exam) : PCall Tryz.prog 78 [ag e.row] (fun r => r = vint .i64 (examE e)) := by
  refine acall_of tok mixed 44 rfl (fn := Tryz.f78) (c := Tryz.f78.body.getD .skip) (by kernel_rfl) (by kernel_rfl) (by kernel_rfl) rfl 0 rfl ?_
  repeat' (first | refine o1 ?_ | refine o2 ?_ | refine k1 ?_ | refine k2 ?_ | refine k3 ?_ | refine k4 ?_ | refine k6 ?_ | refine k7 ?_ | refine And.intro ?_ ?_ | (intro h; first | exact Bool.noConfusion h | exact nz _ h | exact nl h | (simp at h; done) | (simp at h; first | (exfalso; omega) | skip) | skip) | (change retOk _ _ _ _; refine ret_pure rfl trivial ?_) | refine eqv_len_map ?_ | (change vcFun _ _ _ _ _; refine call_eq rfl (by repeat' (first | trivial | refine And.intro ?_ ?_ | (show 0 + _ ≤ List.length _; simp))) ALeL.refl (c_code e.code) rfl ?_) | (change vcFun _ _ _ _ _; refine call_eq rfl (by repeat' (first | trivial | refine And.intro ?_ ?_ | (show 0 + _ ≤ List.length _; simp))) ALeL.refl (c_asc2 e.feats (by omega)) rfl ?_) | (change vcFun _ _ _ _ _; refine call_eq rfl (by repeat' (first | trivial | refine And.intro ?_ ?_ | (show 0 + _ ≤ List.length _; simp))) ALeL.refl (c_asc2 e.studs (by omega)) rfl ?_) | fail)
  all_goals first
    | exact congrArg (vint .i64) (xE1 (by assumption)).symm
    | exact congrArg (vint .i64) (xE2 (by assumption) (by omega)).symm
    | exact congrArg (vint .i64) (xE3 (by assumption) (by omega) (by omega)).symm
    | exact congrArg (vint .i64) (xE4 (by assumption) (by omega) (by omega) (by assumption)).symm
    | exact congrArg (vint .i64) (xE6 (by assumption) (by omega) (by omega) (by assumption) ⟨by assumption, by assumption⟩).symm
    | exact congrArg (vint .i64) (xE5 (by assumption) (by omega) (by omega) (by assumption) (fun h => by have h1 := h.1; have h2 := h.2; contradiction)).symm

theorem c_rweigh (a : Int) : PCall Tryz.prog 86 [vint .i64 a] (fun r => r = vbool (pB (0 ≤ a ∧ a ≤ 1000))) := by
  refine acall_of tok mixed 9 rfl (fn := Tryz.f86) (c := Tryz.f86.body.getD .skip) (by kernel_rfl) (by kernel_rfl) (by kernel_rfl) rfl 0 rfl ?_
  repeat' (first | refine o1 ?_ | refine o2 ?_ | refine k1 ?_ | refine k2 ?_ | refine k7 ?_ | refine And.intro ?_ ?_ | (intro h; first | exact Bool.noConfusion h | exact nz _ h | exact nl h | (simp at h; done) | (simp at h; first | (exfalso; omega) | skip) | skip) | (change retOk _ _ _ _; refine ret_pure rfl trivial ?_) | fail)
  all_goals (refine congrArg vbool (pB_eq ?_); simp; omega)

theorem c_dup1 (e : Exam) (a : Exam) : PCall Tryz.prog 80 [ag e.row, .pv (.ia a.row)] (fun r => r = vbool (pB (e.code = a.code))) := by
  refine acall_of tok mixed 9 rfl (fn := Tryz.f80) (c := Tryz.f80.body.getD .skip) (by kernel_rfl) (by kernel_rfl) (by kernel_rfl) rfl 0 rfl ?_
  repeat' (first | refine o1 ?_ | refine o2 ?_ | refine k1 ?_ | refine k2 ?_ | refine k7 ?_ | (change retOk _ _ _ _; refine ret_pure rfl trivial ?_) | fail)
  exact congrArg vbool (pB_eq (by rw [sEq_iff]; exact eq_comm))

theorem c_rwide : PCall Tryz.prog 84 [] (fun r => r = ag (Grid.row ⟨7, 24, 0, 60⟩)) := by
  refine acall_of tok mixed 2 rfl (fn := Tryz.f84) (c := Tryz.f84.body.getD .skip) (by kernel_rfl) (by kernel_rfl) (by kernel_rfl) rfl 0 rfl ?_
  repeat' (first | refine o1 ?_ | refine o2 ?_ | refine k1 ?_ | refine k2 ?_ | refine k7 ?_ | refine And.intro ?_ ?_ | (change retOk _ _ _ _; refine ret_pure rfl trivial ?_) | exact (by kernel_rfl : drawOk _ _ = true) | fail)
  exact rfl

/-- The reference's exam: its two loops, step by step. -/
theorem ascTo_bad {l : List Str} {i : Nat} {s : Str} (hi : i < l.length) (hs : l[i]? = some s) (h : ¬ codeP s) : ¬ ascP l := fun ha => h (ha.1 i hi s hs)
theorem ascTo_low {l : List Str} {k : Nat} {s p : Str} (hi : k + 1 < l.length) (hs : l[k + 1]? = some s) (hp : l[k]? = some p) (h : sLe s p = true) : ¬ ascP l := fun ha => by
  have := ha.2 k hi s p hs hp
  rw [h] at this; cases this

theorem c_rexam (e : Exam) : PCall Tryz.prog 85 [ag e.row] (fun r => r = vint .i64 (examE e)) := by
  refine acall_of tok mixed 95 rfl (fn := Tryz.f85) (c := Tryz.f85.body.getD .skip) (by kernel_rfl) (by kernel_rfl) (by kernel_rfl) rfl 0 rfl ?_
  repeat' (first | refine o1 ?_ | refine o2 ?_ | refine k1 ?_ | refine k2 ?_ | refine k3 ?_ | refine k4 ?_ | refine k6 ?_ | refine k7 ?_ | refine And.intro ?_ ?_ | (intro h; first | exact Bool.noConfusion h | exact nz _ h | exact nl h | (simp at h; done) | (simp at h; first | (exfalso; omega) | skip) | skip) | (change retOk _ _ _ _; refine ret_pure rfl trivial ?_) | refine eqv_len_map ?_ | (change vcFun _ _ _ _ _; refine call_eq rfl (by repeat' (first | trivial | refine And.intro ?_ ?_ | (show 0 + _ ≤ List.length _; simp))) ALeL.refl (c_rcode e.code) rfl ?_) | fail)
  all_goals first
    | exact congrArg (vint .i64) (xE1 (by assumption)).symm
    | exact congrArg (vint .i64) (xE2 (by assumption) (by omega)).symm
    | exact congrArg (vint .i64) (xE3 (by assumption) (by omega) (by omega)).symm
    | exact congrArg (vint .i64) (xE4 (by assumption) (by omega) (by omega) (by assumption)).symm
    | skip
  have hc : codeP e.code := by assumption
  have h1 : 1 ≤ e.len ∧ e.len ≤ 24 := by omega
  have h2 : e.feats.length ≤ 8 ∧ e.studs.length ≤ 64 := by omega
  have h3 : ¬ e.studs = [] := by assumption
  refine loop_at (fun i : Nat => [(3, vint .i64 i)]) (fun _ => []) (fun i => i ≤ e.feats.length ∧ ascTo e.feats i) (fun i => e.feats.length - i) 0 ⟨by omega, fun j hj => by omega, fun j hj => by omega⟩ (by repeat' (first | exact trivial | exact ⟨_, rfl, ALe.refl⟩ | refine And.intro ?_ ?_)) (by repeat' (first | exact trivial | exact rfl | refine And.intro ?_ ?_)) ?_
  intro i ⟨hi, hall⟩
  rcases Nat.lt_or_ge i e.feats.length with hlt | hge
  · obtain ⟨s, hs⟩ := getE hlt
    have hne : ¬ e.feats = [] := fun h0 => by rw [h0] at hlt; exact absurd hlt (by simp)
    rcases i with _ | k
    · repeat' (first | refine o1 ?_ | refine o2 ?_ | refine k1 ?_ | refine k2 ?_ | refine k3 ?_ | refine k4 ?_ | refine k6 ?_ | refine k7 ?_ | refine k8 ?_ | refine And.intro ?_ ?_ | refine o3 ?_ | refine o4 ?_ | (intro h; first | exact Bool.noConfusion h | exact nz _ h | exact nl h | (simp at h; done) | (simp at h; first | (exfalso; omega) | skip) | skip) | (change retOk _ _ _ _; refine ret_pure rfl trivial ?_) | exact (by kernel_rfl : drawOk _ _ = true) | refine eqv_len_map ?_ | refine eqv_wrap (by omega) (by omega) ?_ | refine ⟨_, _, (by first | rfl | assumption), at_map (by assumption), ?_⟩ | (change vcFunD _ _ _ _ _; refine callD_eq rfl (by repeat' (first | trivial | refine And.intro ?_ ?_ | (show 0 + _ ≤ List.length _; simp))) ALeL.refl (c_rcode s) rfl ?_) | fail)
      all_goals first
        | contradiction
        | exact congrArg (vint .i64) (xE5 hc h1 h2 h3 (fun h => ascTo_bad hlt hs (by assumption) h.1)).symm
        | exact ⟨1, ⟨by omega, ascTo_next hall hs (by assumption) (fun k p e => by omega)⟩, by omega, back [0] rfl rfl ⟨rfl, trivial⟩ (by repeat' (first | exact trivial | exact rfl | refine And.intro ?_ ?_))⟩
    · obtain ⟨p, hp⟩ := getE (show k < e.feats.length by omega)
      repeat' (first | (refine idx_sl (k := k + 1) (at_map hs) (by omega) ?_) | (refine idx_sl (k := k) (at_map hp) (by omega) ?_) | refine o1 ?_ | refine o2 ?_ | refine k1 ?_ | refine k2 ?_ | refine k3 ?_ | refine k4 ?_ | refine k6 ?_ | refine k7 ?_ | refine And.intro ?_ ?_ | refine o3 ?_ | refine o4 ?_ | (intro h; first | exact Bool.noConfusion h | exact nz _ h | exact nl h | (simp at h; done) | (simp at h; first | (exfalso; omega) | skip) | skip) | (change retOk _ _ _ _; refine ret_pure rfl trivial ?_) | exact (by kernel_rfl : drawOk _ _ = true) | refine eqv_len_map ?_ | refine eqv_wrap (by omega) (by omega) ?_ | (change vcFunD _ _ _ _ _; refine callD_eq rfl (by repeat' (first | trivial | refine And.intro ?_ ?_ | (show 0 + _ ≤ List.length _; simp))) ALeL.refl (c_rcode s) rfl ?_) | fail)
      all_goals first
        | contradiction
        | exact congrArg (vint .i64) (xE5 hc h1 h2 h3 (fun h => ascTo_bad hlt hs (by assumption) h.1)).symm
        | exact congrArg (vint .i64) (xE5 hc h1 h2 h3 (fun h => ascTo_low hlt hs hp (by assumption) h.1)).symm
        | exact ⟨k + 2, ⟨by omega, ascTo_next hall hs (by assumption) (fun k' p' e h' => by cases e; rw [hp] at h'; cases h'; assumption)⟩, by omega, back [0] rfl rfl ⟨rfl, trivial⟩ (by repeat' (first | exact trivial | exact rfl | refine And.intro ?_ ?_))⟩
  · have hf := ascTo_all hall hge
    repeat' (first | refine o1 ?_ | refine o2 ?_ | refine k1 ?_ | refine k2 ?_ | refine k3 ?_ | refine k4 ?_ | refine k8 ?_ | refine And.intro ?_ ?_ | (intro h; first | exact Bool.noConfusion h | exact nz _ h | exact nl h | (simp at h; done) | (simp at h; first | (exfalso; omega) | skip) | skip) | refine eqv_len_map ?_ | fail)
    refine loop_at (fun i : Nat => [(4, vint .i64 i)]) (fun _ => []) (fun i => i ≤ e.studs.length ∧ ascTo e.studs i) (fun i => e.studs.length - i) 0 ⟨by omega, fun j hj => by omega, fun j hj => by omega⟩ (by repeat' (first | exact trivial | exact ⟨_, rfl, ALe.refl⟩ | refine And.intro ?_ ?_)) (by repeat' (first | exact trivial | exact rfl | refine And.intro ?_ ?_)) ?_
    intro i ⟨hi, hall⟩
    rcases Nat.lt_or_ge i e.studs.length with hlt | hge
    · obtain ⟨s, hs⟩ := getE hlt
      have hne : ¬ e.studs = [] := fun h0 => by rw [h0] at hlt; exact absurd hlt (by simp)
      rcases i with _ | k
      · repeat' (first | refine o1 ?_ | refine o2 ?_ | refine k1 ?_ | refine k2 ?_ | refine k3 ?_ | refine k4 ?_ | refine k6 ?_ | refine k7 ?_ | refine k8 ?_ | refine And.intro ?_ ?_ | refine o3 ?_ | refine o4 ?_ | (intro h; first | exact Bool.noConfusion h | exact nz _ h | exact nl h | (simp at h; done) | (simp at h; first | (exfalso; omega) | skip) | skip) | (change retOk _ _ _ _; refine ret_pure rfl trivial ?_) | exact (by kernel_rfl : drawOk _ _ = true) | refine eqv_len_map ?_ | refine eqv_wrap (by omega) (by omega) ?_ | refine ⟨_, _, (by first | rfl | assumption), at_map (by assumption), ?_⟩ | (change vcFunD _ _ _ _ _; refine callD_eq rfl (by repeat' (first | trivial | refine And.intro ?_ ?_ | (show 0 + _ ≤ List.length _; simp))) ALeL.refl (c_rcode s) rfl ?_) | fail)
        all_goals first
          | contradiction
          | exact congrArg (vint .i64) (xE5 hc h1 h2 h3 (fun h => ascTo_bad hlt hs (by assumption) h.2)).symm
          | exact ⟨1, ⟨by omega, ascTo_next hall hs (by assumption) (fun k p e => by omega)⟩, by omega, back [0] rfl rfl ⟨rfl, trivial⟩ (by repeat' (first | exact trivial | exact rfl | refine And.intro ?_ ?_))⟩
      · obtain ⟨p, hp⟩ := getE (show k < e.studs.length by omega)
        repeat' (first | (refine idx_sl (k := k + 1) (at_map hs) (by omega) ?_) | (refine idx_sl (k := k) (at_map hp) (by omega) ?_) | refine o1 ?_ | refine o2 ?_ | refine k1 ?_ | refine k2 ?_ | refine k3 ?_ | refine k4 ?_ | refine k6 ?_ | refine k7 ?_ | refine And.intro ?_ ?_ | refine o3 ?_ | refine o4 ?_ | (intro h; first | exact Bool.noConfusion h | exact nz _ h | exact nl h | (simp at h; done) | (simp at h; first | (exfalso; omega) | skip) | skip) | (change retOk _ _ _ _; refine ret_pure rfl trivial ?_) | exact (by kernel_rfl : drawOk _ _ = true) | refine eqv_len_map ?_ | refine eqv_wrap (by omega) (by omega) ?_ | (change vcFunD _ _ _ _ _; refine callD_eq rfl (by repeat' (first | trivial | refine And.intro ?_ ?_ | (show 0 + _ ≤ List.length _; simp))) ALeL.refl (c_rcode s) rfl ?_) | fail)
        all_goals first
          | contradiction
          | exact congrArg (vint .i64) (xE5 hc h1 h2 h3 (fun h => ascTo_bad hlt hs (by assumption) h.2)).symm
          | exact congrArg (vint .i64) (xE5 hc h1 h2 h3 (fun h => ascTo_low hlt hs hp (by assumption) h.2)).symm
          | exact ⟨k + 2, ⟨by omega, ascTo_next hall hs (by assumption) (fun k' p' e h' => by cases e; rw [hp] at h'; cases h'; assumption)⟩, by omega, back [0] rfl rfl ⟨rfl, trivial⟩ (by repeat' (first | exact trivial | exact rfl | refine And.intro ?_ ?_))⟩
    · repeat' (first | refine o1 ?_ | refine o2 ?_ | refine k1 ?_ | refine k2 ?_ | refine k3 ?_ | refine k7 ?_ | refine k8 ?_ | refine And.intro ?_ ?_ | (intro h; first | exact Bool.noConfusion h | exact nz _ h | exact nl h | (simp at h; done) | (simp at h; first | (exfalso; omega) | skip) | skip) | (change retOk _ _ _ _; refine ret_pure rfl trivial ?_) | refine eqv_len_map ?_ | fail)
      exact congrArg (vint .i64) (xE6 hc h1 h2 h3 ⟨hf, ascTo_all hall hge⟩).symm
end Go.Proofs.YtpnghlibmpainaaGreat.Cw

/-
  Contracts: Valid of examinations.
-/
namespace Go.Proofs.YtpnghlibmpainaaGreat.Cw
open Go.Cw Go.Proofs
set_option linter.unusedVariables false
set_option maxRecDepth 100000
set_option maxHeartbeats 800000

def g20 : Grid := ⟨7, 24, 0, 60⟩
noncomputable def dupB (l : List Exam) (e : Exam) : Bool := l.any (fun q => pB (q.code = e.code))
noncomputable def exE (l : List Exam) (i : Nat) : Int := match l[i]? with
  | none => 0
  | some e => if examE e ≠ 0 then examE e else if dupB (l.take i) e then 11 else 0
def gapsE (g : Gaps) : Int := if (0 ≤ g.row ∧ g.row ≤ 1000) ∧ (0 ≤ g.day ∧ g.day ≤ 1000) ∧ (0 ≤ g.near ∧ g.near ≤ 1000) ∧ (0 ≤ g.mixed ∧ g.mixed ≤ 1000) ∧ (0 ≤ g.days ∧ g.days ≤ 140) then 0 else 3
/-- What is wrong with examinations. -/
noncomputable def examsE (x : Exams) : Int :=
  if roomsE x.rooms g20 20 ≠ 0 then roomsE x.rooms g20 20
  else if 24 < x.exams.length then 2
  else if firstE (exE x.exams) x.exams.length ≠ 0 then firstE (exE x.exams) x.exams.length
  else if sitsE x.sits ≠ 0 then sitsE x.sits
  else gapsE x.gaps

section
variable {x : Exams}
theorem vE1 (h : ¬ roomsE x.rooms g20 20 = 0) : examsE x = roomsE x.rooms g20 20 := by unfold examsE; rw [if_pos h]
variable (h0 : roomsE x.rooms g20 20 = 0)
include h0
theorem vE2 (h : 24 < x.exams.length) : examsE x = 2 := by unfold examsE; rw [if_neg (by simp [h0]), if_pos h]
variable (h1 : x.exams.length ≤ 24)
include h1
theorem vE3 {i : Nat} (hall : ∀ j, j < i → exE x.exams j = 0) (hi : i < x.exams.length) (h : exE x.exams i ≠ 0) : examsE x = exE x.exams i := by
  unfold examsE
  rw [if_neg (by simp [h0]), if_neg (by omega), firstE_at hall h hi, if_pos h]
variable (h2 : ∀ j, j < x.exams.length → exE x.exams j = 0)
include h2
theorem vE4 (h : ¬ sitsE x.sits = 0) : examsE x = sitsE x.sits := by
  unfold examsE
  rw [if_neg (by simp [h0]), if_neg (by omega), firstE_zero h2, if_neg (by simp), if_pos h]
theorem vE5 (h : sitsE x.sits = 0) : examsE x = gapsE x.gaps := by
  unfold examsE
  rw [if_neg (by simp [h0]), if_neg (by omega), firstE_zero h2, if_neg (by simp), if_neg (by simp [h])]
end
theorem yE1 {l : List Exam} {i : Nat} {e : Exam} (he : l[i]? = some e) (h : ¬ examE e = 0) : exE l i = examE e := by unfold exE; rw [he]; dsimp only; rw [if_pos h]
theorem yE2 {l : List Exam} {i : Nat} {e : Exam} (he : l[i]? = some e) (h0 : examE e = 0) (h : dupB (l.take i) e = true) : exE l i = 11 := by unfold exE; rw [he]; dsimp only; rw [if_neg (by simp [h0]), if_pos h]
theorem yE3 {l : List Exam} {i : Nat} {e : Exam} (he : l[i]? = some e) (h0 : examE e = 0) (h : dupB (l.take i) e = false) : exE l i = 0 := by unfold exE; rw [he]; dsimp only; rw [if_neg (by simp [h0]), if_neg (by simp [h])]

theorem gE3 {g : Gaps} (h : ¬ ((0 ≤ g.row ∧ g.row ≤ 1000) ∧ (0 ≤ g.day ∧ g.day ≤ 1000) ∧ (0 ≤ g.near ∧ g.near ≤ 1000) ∧ (0 ≤ g.mixed ∧ g.mixed ≤ 1000) ∧ (0 ≤ g.days ∧ g.days ≤ 140))) : gapsE g = 3 := if_neg h
theorem gE0 {g : Gaps} (h : (0 ≤ g.row ∧ g.row ≤ 1000) ∧ (0 ≤ g.day ∧ g.day ≤ 1000) ∧ (0 ≤ g.near ∧ g.near ≤ 1000) ∧ (0 ≤ g.mixed ∧ g.mixed ≤ 1000) ∧ (0 ≤ g.days ∧ g.days ≤ 140)) : gapsE g = 0 := if_pos h
theorem slice_to {α : Type} {i : Nat} {f : α → List PV} {xs : List α} {K : List (List PV) → Prop} (hi : i ≤ xs.length) (hk : K ((xs.take i).map f)) :
    ∃ l h, loIs none l ∧ hiIs (some (vint .i64 (i : Int))) (xs.map f).length h ∧ l ≤ h ∧ h ≤ (xs.map f).length ∧ eqv (List.drop l (List.take h (xs.map f))) K :=
  ⟨0, i, rfl, rfl, Nat.zero_le _, by simpa using hi, _, by simp [List.map_take], hk⟩

theorem c_dup (l : List Exam) (e : Exam) (hl : l.length ≤ 100000) : PCall Tryz.prog 79 [.pv (.sl 4 (l.map Exam.row)), .pv (.fn 80 [.ia e.row])] (fun r => r = vbool (dupB l e)) :=
  c_any_exam l 80 [.ia e.row] (fun q => pB (q.code = e.code)) hl (fun q _ => c_dup1 q e)

theorem c_exams (x : Exams) : PCall Tryz.prog 40 [ag x.cells] (fun r => r = vint .i64 (examsE x)) := by
  refine acall_of tok mixed 84 rfl (fn := Tryz.f40) (c := Tryz.f40.body.getD .skip) (by kernel_rfl) (by kernel_rfl) (by kernel_rfl) rfl 0 rfl ?_
  repeat' (first | refine o1 ?_ | refine o2 ?_ | refine k1 ?_ | refine k2 ?_ | refine k3 ?_ | refine k4 ?_ | refine k6 ?_ | refine k7 ?_ | refine And.intro ?_ ?_ | (intro h; first | exact Bool.noConfusion h | exact nz _ h | exact nl h | (simp at h; done) | (simp at h; first | (exfalso; omega) | skip) | skip) | (change retOk _ _ _ _; refine ret_pure rfl trivial ?_) | exact (by kernel_rfl : drawOk _ _ = true) | refine eqv_len_map ?_ | (change vcFun _ _ _ _ _; refine call_eq rfl (by repeat' (first | trivial | refine And.intro ?_ ?_ | (show 0 + _ ≤ List.length _; simp))) ALeL.refl (c_rooms x.rooms g20 20) rfl ?_) | fail)
  all_goals first
    | exact congrArg (vint .i64) (vE1 (by assumption)).symm
    | exact congrArg (vint .i64) (vE2 (by assumption) (by omega)).symm
    | skip
  have h0 : roomsE x.rooms g20 20 = 0 := by assumption
  have h1 : x.exams.length ≤ 24 := by omega
  refine loop_at (fun i : Nat => [(26, vint .i64 i)]) (fun _ => []) (fun i => i ≤ x.exams.length ∧ ∀ j, j < i → exE x.exams j = 0) (fun i => x.exams.length - i) 0 ⟨by omega, fun j hj => by omega⟩ (by repeat' (first | exact trivial | exact ⟨_, rfl, ALe.refl⟩ | refine And.intro ?_ ?_)) (by repeat' (first | exact trivial | exact rfl | refine And.intro ?_ ?_)) ?_
  intro i ⟨hi, hall⟩
  rcases Nat.lt_or_ge i x.exams.length with hlt | hge
  · obtain ⟨e, he⟩ := getE hlt
    repeat' (first | (refine slice_to hi ?_) | refine o1 ?_ | refine o2 ?_ | refine k1 ?_ | refine k2 ?_ | refine k3 ?_ | refine k4 ?_ | refine k6 ?_ | refine k7 ?_ | refine And.intro ?_ ?_ | (intro h; first | exact Bool.noConfusion h | exact nz _ h | exact nl h | (simp at h; done) | (simp at h; first | (exfalso; omega) | skip) | skip) | (change retOk _ _ _ _; refine ret_pure rfl trivial ?_) | exact (by kernel_rfl : drawOk _ _ = true) | refine eqv_wrap (by omega) (by omega) ?_ | refine ⟨_, _, (by first | rfl | assumption), at_map (by assumption), ?_⟩ | (change vcFun _ _ _ _ _; refine call_eq rfl (by repeat' (first | trivial | refine And.intro ?_ ?_ | (show 0 + _ ≤ List.length _; simp))) ALeL.refl (c_exam e) rfl ?_) | (change vcFun _ _ _ _ _; refine call_eq rfl (by repeat' (first | trivial | refine And.intro ?_ ?_ | (show 0 + _ ≤ List.length _; simp))) ALeL.refl (c_dup (x.exams.take i) e (by rw [List.length_take]; omega)) rfl ?_) | fail)
    all_goals first
      | exact congrArg (vint .i64) ((vE3 h0 h1 hall hlt (by rw [yE1 he (by assumption)]; assumption)).trans (yE1 he (by assumption))).symm
      | exact congrArg (vint .i64) ((vE3 h0 h1 hall hlt (by rw [yE2 he (by assumption) (by assumption)]; decide)).trans (yE2 he (by assumption) (by assumption))).symm
      | exact ⟨i + 1, ⟨by omega, all_lt_succ hall (yE3 he (by assumption) (by assumption))⟩, by omega, back [0, 1] rfl rfl ⟨rfl, rfl, trivial⟩ (by repeat' (first | exact trivial | exact rfl | refine And.intro ?_ ?_))⟩
  · have h2 : ∀ j, j < x.exams.length → exE x.exams j = 0 := fun j hj => hall j (by omega)
    repeat' (first | refine o1 ?_ | refine o2 ?_ | refine k1 ?_ | refine k2 ?_ | refine k3 ?_ | refine k4 ?_ | refine k6 ?_ | refine k7 ?_ | refine k8 ?_ | refine And.intro ?_ ?_ | (intro h; first | exact Bool.noConfusion h | exact nz _ h | exact nl h | (simp at h; done) | (simp at h; first | (exfalso; omega) | skip) | skip) | (change retOk _ _ _ _; refine ret_pure rfl trivial ?_) | (change vcFun _ _ _ _ _; refine call_eq rfl (by repeat' (first | trivial | refine And.intro ?_ ?_ | (show 0 + _ ≤ List.length _; simp))) ALeL.refl (c_sits x.sits) rfl ?_) | fail)
    all_goals first
      | exact congrArg (vint .i64) (vE4 h0 h1 h2 (by assumption)).symm
      | skip
    have h3 : sitsE x.sits = 0 := by assumption
    refine loop_at (fun i : Nat => [(63, vint .i64 i)]) (fun _ => []) (fun i => i ≤ 4 ∧ (0 < i → 0 ≤ x.gaps.row ∧ x.gaps.row ≤ 1000) ∧ (1 < i → 0 ≤ x.gaps.day ∧ x.gaps.day ≤ 1000) ∧ (2 < i → 0 ≤ x.gaps.near ∧ x.gaps.near ≤ 1000) ∧ (3 < i → 0 ≤ x.gaps.mixed ∧ x.gaps.mixed ≤ 1000)) (fun i => 4 - i) 0 (by omega) (by repeat' (first | exact trivial | exact ⟨_, rfl, ALe.refl⟩ | refine And.intro ?_ ?_)) (by repeat' (first | exact trivial | exact rfl | refine And.intro ?_ ?_)) ?_
    intro i ⟨hi, g1, g2, g3, g4⟩
    have hv := vE5 h0 h1 h2 h3
    rcases i with _ | _ | _ | _ | _ | i
    · repeat' (first | (refine ⟨_, rfl, ?_⟩) | refine o1 ?_ | refine o2 ?_ | refine k1 ?_ | refine k2 ?_ | refine k3 ?_ | refine k4 ?_ | refine k6 ?_ | refine k7 ?_ | refine And.intro ?_ ?_ | (intro h; first | exact Bool.noConfusion h | exact nz _ h | exact nl h | (simp at h; done) | (simp at h; first | (exfalso; omega) | skip) | skip) | (change retOk _ _ _ _; refine ret_pure rfl trivial ?_) | exact Nat.le_of_ble_eq_true rfl | fail)
      all_goals first
        | exact congrArg (vint .i64) (hv.trans (gE3 (by omega))).symm
        | exact ⟨1, by omega, by omega, back [0, 1, 2] rfl rfl ⟨rfl, rfl, rfl, trivial⟩ (by repeat' (first | exact trivial | exact rfl | refine And.intro ?_ ?_))⟩
    · repeat' (first | (refine ⟨_, rfl, ?_⟩) | refine o1 ?_ | refine o2 ?_ | refine k1 ?_ | refine k2 ?_ | refine k3 ?_ | refine k4 ?_ | refine k6 ?_ | refine k7 ?_ | refine And.intro ?_ ?_ | (intro h; first | exact Bool.noConfusion h | exact nz _ h | exact nl h | (simp at h; done) | (simp at h; first | (exfalso; omega) | skip) | skip) | (change retOk _ _ _ _; refine ret_pure rfl trivial ?_) | exact Nat.le_of_ble_eq_true rfl | fail)
      all_goals first
        | exact congrArg (vint .i64) (hv.trans (gE3 (by omega))).symm
        | exact ⟨2, by omega, by omega, back [0, 1, 2] rfl rfl ⟨rfl, rfl, rfl, trivial⟩ (by repeat' (first | exact trivial | exact rfl | refine And.intro ?_ ?_))⟩
    · repeat' (first | (refine ⟨_, rfl, ?_⟩) | refine o1 ?_ | refine o2 ?_ | refine k1 ?_ | refine k2 ?_ | refine k3 ?_ | refine k4 ?_ | refine k6 ?_ | refine k7 ?_ | refine And.intro ?_ ?_ | (intro h; first | exact Bool.noConfusion h | exact nz _ h | exact nl h | (simp at h; done) | (simp at h; first | (exfalso; omega) | skip) | skip) | (change retOk _ _ _ _; refine ret_pure rfl trivial ?_) | exact Nat.le_of_ble_eq_true rfl | fail)
      all_goals first
        | exact congrArg (vint .i64) (hv.trans (gE3 (by omega))).symm
        | exact ⟨3, by omega, by omega, back [0, 1, 2] rfl rfl ⟨rfl, rfl, rfl, trivial⟩ (by repeat' (first | exact trivial | exact rfl | refine And.intro ?_ ?_))⟩
    · repeat' (first | (refine ⟨_, rfl, ?_⟩) | refine o1 ?_ | refine o2 ?_ | refine k1 ?_ | refine k2 ?_ | refine k3 ?_ | refine k4 ?_ | refine k6 ?_ | refine k7 ?_ | refine And.intro ?_ ?_ | (intro h; first | exact Bool.noConfusion h | exact nz _ h | exact nl h | (simp at h; done) | (simp at h; first | (exfalso; omega) | skip) | skip) | (change retOk _ _ _ _; refine ret_pure rfl trivial ?_) | exact Nat.le_of_ble_eq_true rfl | fail)
      all_goals first
        | exact congrArg (vint .i64) (hv.trans (gE3 (by omega))).symm
        | exact ⟨4, by omega, by omega, back [0, 1, 2] rfl rfl ⟨rfl, rfl, rfl, trivial⟩ (by repeat' (first | exact trivial | exact rfl | refine And.intro ?_ ?_))⟩
    · repeat' (first | refine o1 ?_ | refine o2 ?_ | refine k1 ?_ | refine k2 ?_ | refine k3 ?_ | refine k6 ?_ | refine k7 ?_ | refine k8 ?_ | refine And.intro ?_ ?_ | (intro h; first | exact Bool.noConfusion h | exact nz _ h | exact nl h | (simp at h; done) | (simp at h; first | (exfalso; omega) | skip) | skip) | (change retOk _ _ _ _; refine ret_pure rfl trivial ?_) | fail)
      all_goals first
        | exact congrArg (vint .i64) (hv.trans (gE3 (by omega))).symm
        | exact congrArg (vint .i64) (hv.trans (gE0 (by omega))).symm
    · omega

theorem dupB_t {l : List Exam} {i k : Nat} {e q : Exam} (hk : k < i) (hq : l[k]? = some q) (h : q.code = e.code) : dupB (l.take i) e = true :=
  List.any_eq_true.2 ⟨q, List.mem_of_getElem? (by rw [List.getElem?_take, if_pos hk]; exact hq), by simpa using h⟩
theorem dupB_f {l : List Exam} {i : Nat} {e : Exam} (h : ∀ j, j < i → ∀ q, l[j]? = some q → q.code ≠ e.code) : dupB (l.take i) e = false :=
  List.any_eq_false.2 fun q hq => by
    obtain ⟨j, hj⟩ := List.getElem?_of_mem hq
    rw [List.getElem?_take] at hj
    split at hj
    · simpa using h j (by assumption) q hj
    · cases hj
theorem sitsE_at {l : List Sitting} {i : Nat} {k : Int} (hn : l.length ≤ 24) (h0 : ∀ j, j < i → sitE l j = 0) (hi : i < l.length) (hk : k ≠ 0) (h : sitE l i = k) : sitsE l = k := by
  rw [sitsE, if_neg (by omega), firstE_at h0 (by rw [h]; exact hk) hi, h]

theorem c_rexams (x : Exams) : PCall Tryz.prog 42 [ag x.cells] (fun r => r = vint .i64 (examsE x)) := by
  refine acall_of tok mixed 140 rfl (fn := Tryz.f42) (c := Tryz.f42.body.getD .skip) (by kernel_rfl) (by kernel_rfl) (by kernel_rfl) rfl 0 rfl ?_
  repeat' (first | refine o1 ?_ | refine o2 ?_ | refine k1 ?_ | refine k2 ?_ | refine k3 ?_ | refine k4 ?_ | refine k6 ?_ | refine k7 ?_ | refine And.intro ?_ ?_ | refine o3 ?_ | refine o4 ?_ | (intro h; first | exact Bool.noConfusion h | exact nz _ h | exact nl h | (simp at h; done) | (simp at h; first | (exfalso; omega) | skip) | skip) | (change retOk _ _ _ _; refine ret_pure rfl trivial ?_) | exact (by kernel_rfl : drawOk _ _ = true) | refine eqv_len_map ?_ | (change vcFunD _ _ _ _ _; refine callD_eq rfl (by repeat' (first | trivial | refine And.intro ?_ ?_ | (show 0 + _ ≤ List.length _; simp))) ALeL.refl (c_rwide) rfl ?_) | (change vcFunD _ _ _ _ _; refine callD_eq rfl (by repeat' (first | trivial | refine And.intro ?_ ?_ | (show 0 + _ ≤ List.length _; simp))) ALeL.refl (c_rrooms x.rooms g20 20) rfl ?_) | fail)
  all_goals first
    | exact congrArg (vint .i64) (vE1 (by assumption)).symm
    | exact congrArg (vint .i64) (vE2 (by assumption) (by omega)).symm
    | skip
  have h0 : roomsE x.rooms g20 20 = 0 := by assumption
  have h1 : x.exams.length ≤ 24 := by omega
  refine loop_at (fun i : Nat => [(4, vint .i64 i)]) (fun _ => []) (fun i => i ≤ x.exams.length ∧ ∀ j, j < i → exE x.exams j = 0) (fun i => x.exams.length - i) 0 ⟨by omega, fun j hj => by omega⟩ (by repeat' (first | exact trivial | exact ⟨_, rfl, ALe.refl⟩ | refine And.intro ?_ ?_)) (by repeat' (first | exact trivial | exact rfl | refine And.intro ?_ ?_)) ?_
  intro i ⟨hi, hall⟩
  rcases Nat.lt_or_ge i x.exams.length with hlt | hge
  · obtain ⟨e, he⟩ := getE hlt
    repeat' (first | refine o1 ?_ | refine o2 ?_ | refine k1 ?_ | refine k2 ?_ | refine k3 ?_ | refine k4 ?_ | refine k6 ?_ | refine k7 ?_ | refine And.intro ?_ ?_ | (intro h; first | exact Bool.noConfusion h | exact nz _ h | exact nl h | (simp at h; done) | (simp at h; first | (exfalso; omega) | skip) | skip) | (change retOk _ _ _ _; refine ret_pure rfl trivial ?_) | refine eqv_len_map ?_ | refine ⟨_, _, (by first | rfl | assumption), at_map (by assumption), ?_⟩ | (change vcFun _ _ _ _ _; refine call_eq rfl (by repeat' (first | trivial | refine And.intro ?_ ?_ | (show 0 + _ ≤ List.length _; simp))) ALeL.refl (c_rexam e) rfl ?_) | fail)
    all_goals first
      | exact congrArg (vint .i64) ((vE3 h0 h1 hall hlt (by rw [yE1 he (by assumption)]; assumption)).trans (yE1 he (by assumption))).symm
      | skip
    refine loop_at (fun i : Nat => [(6, vint .i64 i)]) (fun _ => []) (fun k => k ≤ i ∧ ∀ j, j < k → ∀ q, x.exams[j]? = some q → q.code ≠ e.code) (fun k => i - k) 0 ⟨by omega, fun j hj => by omega⟩ (by repeat' (first | exact trivial | exact ⟨_, rfl, ALe.refl⟩ | refine And.intro ?_ ?_)) (by repeat' (first | exact trivial | exact rfl | refine And.intro ?_ ?_)) ?_
    intro k ⟨hk, hdup⟩
    rcases Nat.lt_or_ge k i with hlk | hgk
    · obtain ⟨q, hq⟩ := getE (show k < x.exams.length by omega)
      repeat' (first | refine o1 ?_ | refine o2 ?_ | refine k1 ?_ | refine k2 ?_ | refine k3 ?_ | refine k4 ?_ | refine k6 ?_ | refine k7 ?_ | refine And.intro ?_ ?_ | refine o3 ?_ | refine o4 ?_ | (intro h; first | exact Bool.noConfusion h | exact nz _ h | exact nl h | (simp at h; done) | (simp at h; first | (exfalso; omega) | skip) | skip) | (change retOk _ _ _ _; refine ret_pure rfl trivial ?_) | exact (by kernel_rfl : drawOk _ _ = true) | refine eqv_wrap (by omega) (by omega) ?_ | refine ⟨_, _, (by first | rfl | assumption), at_map (by assumption), ?_⟩ | fail)
      all_goals first
        | exact congrArg (vint .i64) ((vE3 h0 h1 hall hlt (by rw [yE2 he (by assumption) (dupB_t hlk hq (sEq_iff.1 (by assumption)))]; decide)).trans (yE2 he (by assumption) (dupB_t hlk hq (sEq_iff.1 (by assumption))))).symm
        | exact ⟨k + 1, ⟨by omega, all_lt_succ hdup fun q' h' => by rw [hq] at h'; cases h'; exact sEq_f.1 (by assumption)⟩, by omega, back [0] rfl rfl ⟨rfl, trivial⟩ (by repeat' (first | exact trivial | exact rfl | refine And.intro ?_ ?_))⟩
    · repeat' (first | refine o1 ?_ | refine o2 ?_ | refine k1 ?_ | refine k2 ?_ | refine k3 ?_ | refine k8 ?_ | refine And.intro ?_ ?_ | (intro h; first | exact Bool.noConfusion h | exact nz _ h | exact nl h | (simp at h; done) | (simp at h; first | (exfalso; omega) | skip) | skip) | refine eqv_wrap (by omega) (by omega) ?_ | fail)
      all_goals first
        | exact ⟨i + 1, ⟨by omega, all_lt_succ hall (yE3 he (by assumption) (dupB_f fun j hj => hdup j (by omega)))⟩, by omega, back [0] rfl rfl ⟨rfl, trivial⟩ (by repeat' (first | exact trivial | exact rfl | refine And.intro ?_ ?_))⟩
  · have h2 : ∀ j, j < x.exams.length → exE x.exams j = 0 := fun j hj => hall j (by omega)
    have sit {k : Int} (hk : k ≠ 0) (h : sitsE x.sits = k) : AV.pv (.val (.int .i64 k)) = vint .i64 (examsE x) :=
      congrArg (vint .i64) ((vE4 h0 h1 h2 (by rw [h]; exact hk)).trans h).symm
    repeat' (first | refine o1 ?_ | refine o2 ?_ | refine k1 ?_ | refine k2 ?_ | refine k3 ?_ | refine k4 ?_ | refine k6 ?_ | refine k7 ?_ | refine k8 ?_ | refine And.intro ?_ ?_ | (intro h; first | exact Bool.noConfusion h | exact nz _ h | exact nl h | (simp at h; done) | (simp at h; first | (exfalso; omega) | skip) | skip) | (change retOk _ _ _ _; refine ret_pure rfl trivial ?_) | refine eqv_len_map ?_ | fail)
    all_goals first
      | exact sit (by decide) (if_pos (by omega))
      | skip
    have hn : x.sits.length ≤ 24 := by omega
    refine loop_at (fun i : Nat => [(7, vint .i64 i)]) (fun _ => []) (fun i => i ≤ x.sits.length ∧ ∀ j, j < i → sitE x.sits j = 0) (fun i => x.sits.length - i) 0 ⟨by omega, fun j hj => by omega⟩ (by repeat' (first | exact trivial | exact ⟨_, rfl, ALe.refl⟩ | refine And.intro ?_ ?_)) (by repeat' (first | exact trivial | exact rfl | refine And.intro ?_ ?_)) ?_
    intro i ⟨hi, hall⟩
    rcases Nat.lt_or_ge i x.sits.length with hlt | hge
    · obtain ⟨s, hs⟩ := getE hlt
      have hne : ¬ x.sits = [] := fun h0 => by rw [h0] at hlt; exact absurd hlt (by simp)
      rcases i with _ | k
      · repeat' (first | (refine idx_sl (k := 0) (at_map hs) (by omega) ?_) | refine o1 ?_ | refine o2 ?_ | refine k1 ?_ | refine k2 ?_ | refine k3 ?_ | refine k4 ?_ | refine k6 ?_ | refine k7 ?_ | refine k8 ?_ | refine And.intro ?_ ?_ | (intro h; first | exact Bool.noConfusion h | exact nz _ h | exact nl h | (simp at h; done) | (simp at h; first | (exfalso; omega) | skip) | skip) | (change retOk _ _ _ _; refine ret_pure rfl trivial ?_) | exact (by kernel_rfl : drawOk _ _ = true) | refine eqv_len_map ?_ | refine eqv_wrap (by omega) (by omega) ?_ | (change vcFun _ _ _ _ _; refine call_eq rfl (by repeat' (first | trivial | refine And.intro ?_ ?_ | (show 0 + _ ≤ List.length _; simp))) ALeL.refl (c_rtimed s) rfl ?_) | (change vcFun _ _ _ _ _; refine call_eq rfl (by repeat' (first | trivial | refine And.intro ?_ ?_ | (show 0 + _ ≤ List.length _; simp))) ALeL.refl (c_rweigh s.cost) rfl ?_) | fail)
        all_goals first
          | contradiction
          | exact sit (by decide) (sitsE_at hn hall hlt (by decide) (sE1 hs (by assumption)))
          | exact sit (by decide) (sitsE_at hn hall hlt (by decide) (sE2 hs (by assumption) (by omega)))
          | exact ⟨1, ⟨by omega, all_lt_succ hall (sE4 hs (by assumption) (by omega) (fun ⟨k, p, e, _⟩ => by omega))⟩, by omega, back [0] rfl rfl ⟨rfl, trivial⟩ (by repeat' (first | exact trivial | exact rfl | refine And.intro ?_ ?_))⟩
      · obtain ⟨p, hp⟩ := getE (show k < x.sits.length by omega)
        repeat' (first | (refine idx_sl (k := k + 1) (at_map hs) (by omega) ?_) | (refine idx_sl (k := k) (at_map hp) (by omega) ?_) | refine o1 ?_ | refine o2 ?_ | refine k1 ?_ | refine k2 ?_ | refine k3 ?_ | refine k4 ?_ | refine k6 ?_ | refine k7 ?_ | refine And.intro ?_ ?_ | (intro h; first | exact Bool.noConfusion h | exact nz _ h | exact nl h | (simp at h; done) | (simp at h; first | (exfalso; omega) | skip) | skip) | (change retOk _ _ _ _; refine ret_pure rfl trivial ?_) | exact (by kernel_rfl : drawOk _ _ = true) | refine eqv_len_map ?_ | refine eqv_wrap (by omega) (by omega) ?_ | (change vcFun _ _ _ _ _; refine call_eq rfl (by repeat' (first | trivial | refine And.intro ?_ ?_ | (show 0 + _ ≤ List.length _; simp))) ALeL.refl (c_rtimed s) rfl ?_) | (change vcFun _ _ _ _ _; refine call_eq rfl (by repeat' (first | trivial | refine And.intro ?_ ?_ | (show 0 + _ ≤ List.length _; simp))) ALeL.refl (c_rweigh s.cost) rfl ?_) | fail)
        all_goals first
          | exact sit (by decide) (sitsE_at hn hall hlt (by decide) (sE1 hs (by assumption)))
          | exact sit (by decide) (sitsE_at hn hall hlt (by decide) (sE2 hs (by assumption) (by omega)))
          | exact sit (by decide) (sitsE_at hn hall hlt (by decide) (sE3 hs (by assumption) (by omega) ⟨k, p, rfl, hp, fun h => by unfold lexP at h; omega⟩))
          | exact ⟨k + 2, ⟨by omega, all_lt_succ hall (sE4 hs (by assumption) (by omega) (fun ⟨k', p', e, h1, h2⟩ => h2 (by cases e; rw [hp] at h1; cases h1; unfold lexP; omega)))⟩, by omega, back [0] rfl rfl ⟨rfl, trivial⟩ (by repeat' (first | exact trivial | exact rfl | refine And.intro ?_ ?_))⟩
    · have h3 : sitsE x.sits = 0 := by rw [sitsE, if_neg (by omega), firstE_zero fun j hj => hall j (by omega)]
      have hv := vE5 h0 h1 h2 h3
      repeat' (first | refine o1 ?_ | refine o2 ?_ | refine k1 ?_ | refine k2 ?_ | refine k3 ?_ | refine k6 ?_ | refine k7 ?_ | refine k8 ?_ | refine And.intro ?_ ?_ | (intro h; first | exact Bool.noConfusion h | exact nz _ h | exact nl h | (simp at h; done) | (simp at h; first | (exfalso; omega) | skip) | skip) | (change retOk _ _ _ _; refine ret_pure rfl trivial ?_) | exact (by kernel_rfl : drawOk _ _ = true) | refine eqv_len_map ?_ | (change vcFun _ _ _ _ _; refine call_eq rfl (by repeat' (first | trivial | refine And.intro ?_ ?_ | (show 0 + _ ≤ List.length _; simp))) ALeL.refl (c_rweigh _) rfl ?_) | fail)
      all_goals first
        | exact congrArg (vint .i64) (hv.trans (gE3 (by omega))).symm
        | exact congrArg (vint .i64) (hv.trans (gE0 (by omega))).symm
end Go.Proofs.YtpnghlibmpainaaGreat.Cw

/-
  Contracts: times that overlap.
-/
namespace Go.Proofs.YtpnghlibmpainaaGreat.Cw
open Go.Cw Go.Proofs
set_option linter.unusedVariables false
set_option maxRecDepth 100000
set_option maxHeartbeats 800000

def meetP (a b : Time) : Prop := soundP a ∧ soundP b ∧ bits .and .i64 a.weeks b.weeks ≠ 0 ∧ a.day = b.day
noncomputable def btw (a b : Time) : Int := if pB (meetP a b) then max (-1) (max (b.start - a.start - a.len) (a.start - b.start - b.len)) else 0
def ovP (a b : Time) : Prop := meetP a b ∧ b.start < a.start + a.len ∧ a.start < b.start + b.len
theorem ov_btw {a b : Time} : pB (ovP a b) = (pB (meetP a b) && decide (btw a b < 0)) := by
  by_cases h : meetP a b
  · rw [pB_t h, Bool.true_and]
    unfold btw
    rw [pB_t h, if_pos rfl]
    by_cases h2 : b.start < a.start + a.len ∧ a.start < b.start + b.len
    · rw [pB_t (show ovP a b from ⟨h, h2⟩)]
      symm; simp only [decide_eq_true_eq]; omega
    · rw [pB_f (fun h3 : ovP a b => h2 h3.2)]
      symm; simp only [decide_eq_false_iff_not]; omega
  · rw [pB_f h, pB_f (fun h3 : ovP a b => h h3.1)]; rfl
theorem sound_b {t : Time} (h : soundP t) : 0 ≤ t.day ∧ t.day < 7 ∧ 0 ≤ t.start ∧ t.start < 24 ∧ 1 ≤ t.len ∧ t.len ≤ 24 := by
  obtain ⟨h1, h2, h3, h4, h5, h6, h7⟩ := h
  exact ⟨by omega, by omega, by omega, by omega, by omega, by omega⟩

theorem c_rmeet (a b : Time) : PCall Tryz.prog 165 [ag a.row, ag b.row] (fun r => r = vbool (pB (meetP a b))) := by
  refine acall_of tok mixed 26 rfl (fn := Tryz.f165) (c := Tryz.f165.body.getD .skip) (by kernel_rfl) (by kernel_rfl) (by kernel_rfl) rfl 0 rfl ?_
  repeat' (first | (refine (eqv_rfl ?_ : eqv (bits _ _ _ _) _)) | refine o1 ?_ | refine o2 ?_ | refine k1 ?_ | refine k2 ?_ | refine k7 ?_ | refine And.intro ?_ ?_ | (intro h; first | exact Bool.noConfusion h | exact nz _ h | exact nl h | (simp at h; done) | (simp at h; first | (exfalso; omega) | skip) | skip) | (change retOk _ _ _ _; refine ret_pure rfl trivial ?_) | (change vcFun _ _ _ _ _; refine call_eq rfl (by repeat' (first | trivial | refine And.intro ?_ ?_ | (show 0 + _ ≤ List.length _; simp))) ALeL.refl (c_rsound a) rfl ?_) | (change vcFun _ _ _ _ _; refine call_eq rfl (by repeat' (first | trivial | refine And.intro ?_ ?_ | (show 0 + _ ≤ List.length _; simp))) ALeL.refl (c_rsound b) rfl ?_) | fail)
  all_goals first
    | exact congrArg vbool (pB_f fun h => by obtain ⟨h1, h2, h3, h4⟩ := h; simp_all).symm
    | exact congrArg vbool (pB_eq (by unfold meetP; simp_all)).symm
    | exact congrArg vbool (pB_eq (by unfold meetP; simp_all))
theorem btw_t {a b : Time} (h : meetP a b) : btw a b = max (-1) (max (b.start - a.start - a.len) (a.start - b.start - b.len)) := by unfold btw; rw [pB_t h, if_pos rfl]
theorem btw_f {a b : Time} (h : ¬ meetP a b) : btw a b = 0 := by unfold btw; rw [pB_f h]; rfl
theorem tup2 {n m : Int} {b c : Bool} (h1 : n = m) (h2 : b = c) : AV.tup [vint .i64 n, vbool b] = AV.tup [vint .i64 m, vbool c] := by rw [h1, h2]

theorem c_between (a b : Time) : PCall Tryz.prog 128 [ag a.row, ag b.row] (fun r => r = .tup [vint .i64 (btw a b), vbool (pB (meetP a b))]) := by
  refine acall_of tok mixed 46 rfl (fn := Tryz.f128) (c := Tryz.f128.body.getD .skip) (by kernel_rfl) (by kernel_rfl) (by kernel_rfl) rfl 0 rfl ?_
  repeat' (first | (refine (eqv_rfl ?_ : eqv (bits _ _ _ _) _)) | (refine eqv_wrap (by have h1 := sound_b (t := a) (by first | assumption | exact (And.left ‹meetP a b›)); have h2 := sound_b (t := b) (by first | assumption | exact (And.left (And.right ‹meetP a b›))); (try dsimp only [cond]); omega) (by have h1 := sound_b (t := a) (by first | assumption | exact (And.left ‹meetP a b›)); have h2 := sound_b (t := b) (by first | assumption | exact (And.left (And.right ‹meetP a b›))); (try dsimp only [cond]); omega) ?_) | refine o1 ?_ | refine o2 ?_ | refine k1 ?_ | refine k2 ?_ | refine k3 ?_ | refine k6 ?_ | refine k7 ?_ | refine And.intro ?_ ?_ | (intro h; first | exact Bool.noConfusion h | exact nz _ h | exact nl h | (simp at h; done) | (simp at h; first | (exfalso; omega) | skip) | skip) | (change retOk _ _ _ _; refine ret_pure rfl trivial ?_) | (change vcFun _ _ _ _ _; refine call_eq rfl (by repeat' (first | trivial | refine And.intro ?_ ?_ | (show 0 + _ ≤ List.length _; simp))) ALeL.refl (c_sound a) rfl ?_) | (change vcFun _ _ _ _ _; refine call_eq rfl (by repeat' (first | trivial | refine And.intro ?_ ?_ | (show 0 + _ ≤ List.length _; simp))) ALeL.refl (c_sound b) rfl ?_) | fail)
  all_goals first
    | exact tup2 (btw_f (by first | assumption | (unfold meetP; simp_all))).symm (pB_f (by first | assumption | (unfold meetP; simp_all))).symm
    | (have hm : meetP a b := by first | assumption | exact ⟨by assumption, by assumption, by assumption, by assumption⟩
       refine tup2 ?_ (pB_t hm).symm
       rw [btw_t hm]
       have h1 := sound_b hm.1
       have h2 := sound_b hm.2.1
       simp only [mm, cond_true, cond_false]
       repeat' split
       all_goals omega)
theorem c_overlap (a b : Time) : PCall Tryz.prog 82 [ag a.row, ag b.row] (fun r => r = vbool (pB (ovP a b))) := by
  refine acall_of tok mixed 18 rfl (fn := Tryz.f82) (c := Tryz.f82.body.getD .skip) (by kernel_rfl) (by kernel_rfl) (by kernel_rfl) rfl 0 rfl ?_
  rw [ov_btw]
  repeat' (first | refine o1 ?_ | refine o2 ?_ | refine k1 ?_ | refine k2 ?_ | refine k7 ?_ | refine And.intro ?_ ?_ | (intro h; first | exact Bool.noConfusion h | exact nz _ h | exact nl h | (simp at h; done) | (simp at h; first | (exfalso; omega) | skip) | skip) | (change retOk _ _ _ _; refine ret_pure rfl trivial ?_) | (change vcFun _ _ _ _ _; refine call_eq rfl (by repeat' (first | trivial | refine And.intro ?_ ?_ | (show 0 + _ ≤ List.length _; simp))) ALeL.refl (c_between a b) rfl ?_) | fail)
  all_goals first
    | (rw [pB_t (by assumption), Bool.true_and]; done)
    | (rw [pB_t (by assumption), Bool.true_and]; rfl)
    | (rw [pB_f (by assumption)]; rfl)
theorem c_rbetween (a b : Time) : PCall Tryz.prog 133 [ag a.row, ag b.row] (fun r => r = .tup [vint .i64 (btw a b), vbool (pB (meetP a b))]) := by
  refine acall_of tok mixed 30 rfl (fn := Tryz.f133) (c := Tryz.f133.body.getD .skip) (by kernel_rfl) (by kernel_rfl) (by kernel_rfl) rfl 0 rfl ?_
  repeat' (first | (refine eqv_wrap (by have h1 := sound_b (t := a) (by first | assumption | exact (And.left ‹meetP a b›)); have h2 := sound_b (t := b) (by first | assumption | exact (And.left (And.right ‹meetP a b›))); (try dsimp only [cond]); omega) (by have h1 := sound_b (t := a) (by first | assumption | exact (And.left ‹meetP a b›)); have h2 := sound_b (t := b) (by first | assumption | exact (And.left (And.right ‹meetP a b›))); (try dsimp only [cond]); omega) ?_) | refine o1 ?_ | refine o2 ?_ | refine k1 ?_ | refine k2 ?_ | refine k3 ?_ | refine k6 ?_ | refine k7 ?_ | refine And.intro ?_ ?_ | (intro h; first | exact Bool.noConfusion h | exact nz _ h | exact nl h | (simp at h; done) | (simp at h; first | (exfalso; omega) | skip) | skip) | (change retOk _ _ _ _; refine ret_pure rfl trivial ?_) | (change vcFun _ _ _ _ _; refine call_eq rfl (by repeat' (first | trivial | refine And.intro ?_ ?_ | (show 0 + _ ≤ List.length _; simp))) ALeL.refl (c_rmeet a b) rfl ?_) | fail)
  all_goals first
    | exact tup2 (btw_f (by first | assumption | (unfold meetP; simp_all))).symm (pB_f (by first | assumption | (unfold meetP; simp_all))).symm
    | (have hm : meetP a b := by first | assumption | exact ⟨by assumption, by assumption, by assumption, by assumption⟩
       refine tup2 ?_ (pB_t hm).symm
       rw [btw_t hm]
       have h1 := sound_b hm.1
       have h2 := sound_b hm.2.1
       simp only [mm, cond_true, cond_false]
       repeat' split
       all_goals omega)
theorem c_roverlap (a b : Time) : PCall Tryz.prog 87 [ag a.row, ag b.row] (fun r => r = vbool (pB (ovP a b))) := by
  refine acall_of tok mixed 18 rfl (fn := Tryz.f87) (c := Tryz.f87.body.getD .skip) (by kernel_rfl) (by kernel_rfl) (by kernel_rfl) rfl 0 rfl ?_
  rw [ov_btw]
  repeat' (first | refine o1 ?_ | refine o2 ?_ | refine k1 ?_ | refine k2 ?_ | refine k7 ?_ | refine And.intro ?_ ?_ | (intro h; first | exact Bool.noConfusion h | exact nz _ h | exact nl h | (simp at h; done) | (simp at h; first | (exfalso; omega) | skip) | skip) | (change retOk _ _ _ _; refine ret_pure rfl trivial ?_) | (change vcFun _ _ _ _ _; refine call_eq rfl (by repeat' (first | trivial | refine And.intro ?_ ?_ | (show 0 + _ ≤ List.length _; simp))) ALeL.refl (c_rbetween a b) rfl ?_) | fail)
  all_goals first
    | (rw [pB_t (by assumption), Bool.true_and]; done)
    | (rw [pB_t (by assumption), Bool.true_and]; rfl)
    | (rw [pB_f (by assumption)]; rfl)

end Go.Proofs.YtpnghlibmpainaaGreat.Cw

/-
  Contracts: lists that contain.
-/
namespace Go.Proofs.YtpnghlibmpainaaGreat.Cw
open Go.Cw Go.Proofs
set_option linter.unusedVariables false
set_option maxRecDepth 100000
set_option maxHeartbeats 800000

theorem has_f {l : List Str} {s : Str} (h : ∀ j, j < l.length → ∀ q, l[j]? = some q → q ≠ s) : ¬ s ∈ l := fun hs => by
  obtain ⟨j, hj⟩ := List.getElem?_of_mem hs
  exact h j (List.getElem?_eq_some_iff.1 hj).1 s hj rfl
theorem c_has (l : List Str) (s : Str) (hl : l.length ≤ 100000) : PCall Tryz.prog 68 [.pv (encStrs l), .pv (es s)] (fun r => r = vbool (pB (s ∈ l))) := by
  refine acall_of tok mixed 18 rfl (fn := Tryz.f68) (c := Tryz.f68.body.getD .skip) (by kernel_rfl) (by kernel_rfl) (by kernel_rfl) rfl 0 rfl ?_
  repeat' (first | refine o1 ?_ | refine o2 ?_ | refine k1 ?_ | refine k2 ?_ | refine k4 ?_ | fail)
  refine loop_at (fun i : Nat => [(5, vint .i64 i)]) (fun _ => []) (fun i => i ≤ l.length ∧ ∀ j, j < i → ∀ q, l[j]? = some q → q ≠ s) (fun i => l.length - i) 0 ⟨by omega, fun j hj => by omega⟩ (by repeat' (first | exact trivial | exact ⟨_, rfl, ALe.refl⟩ | refine And.intro ?_ ?_)) (by repeat' (first | exact trivial)) ?_
  intro i ⟨hi, hall⟩
  rcases Nat.lt_or_ge i l.length with hlt | hge
  · obtain ⟨q, hq⟩ := getE hlt
    repeat' (first | refine o1 ?_ | refine o2 ?_ | refine k1 ?_ | refine k2 ?_ | refine k3 ?_ | refine k4 ?_ | refine k6 ?_ | refine k7 ?_ | refine And.intro ?_ ?_ | (intro h; first | exact Bool.noConfusion h | exact nz _ h | exact nl h | (simp at h; done) | (simp at h; first | (exfalso; omega) | skip) | skip) | (change retOk _ _ _ _; refine ret_pure rfl trivial ?_) | refine eqv_len_map ?_ | refine eqv_wrap (by omega) (by omega) ?_ | refine ⟨_, _, (by first | rfl | assumption), at_map (by assumption), ?_⟩ | fail)
    all_goals first
      | exact congrArg vbool (pB_t (by rw [← sEq_iff.1 (by assumption : sEq q s = true)]; exact List.mem_of_getElem? hq)).symm
      | exact ⟨i + 1, ⟨by omega, all_lt_succ hall fun q' h' => by rw [hq] at h'; cases h'; exact sEq_f.1 (by assumption)⟩, by omega, back [] rfl rfl trivial (by repeat' (first | exact trivial | exact rfl | refine And.intro ?_ ?_))⟩
  · repeat' (first | refine o1 ?_ | refine o2 ?_ | refine k1 ?_ | refine k2 ?_ | refine k3 ?_ | refine k7 ?_ | refine k8 ?_ | refine And.intro ?_ ?_ | (intro h; first | exact Bool.noConfusion h | exact nz _ h | exact nl h | (simp at h; done) | (simp at h; first | (exfalso; omega) | skip) | skip) | (change retOk _ _ _ _; refine ret_pure rfl trivial ?_) | refine eqv_len_map ?_ | fail)
    exact congrArg vbool (pB_f (has_f fun j hj => hall j (by omega))).symm
noncomputable def idxS (l : List Str) (s : Str) : Int := idxB (fun q => pB (q = s)) l
theorem idxS_has {l : List Str} {s : Str} : decide (idxS l s ≥ 0) = pB (s ∈ l) := by
  unfold idxS
  rw [idxB_any]
  by_cases h : s ∈ l
  · rw [pB_t h]; exact List.any_eq_true.2 ⟨s, h, pB_t rfl⟩
  · rw [pB_f h]; exact List.any_eq_false.2 fun q hq => by rw [pB_f (fun e : q = s => h (e ▸ hq))]; simp
theorem c_index (l : List Str) (s : Str) (hl : l.length ≤ 100000) : PCall Tryz.prog 134 [.pv (encStrs l), .pv (es s)] (fun r => r = vint .i64 (idxS l s)) := by
  refine acall_of tok mixed 19 rfl (fn := Tryz.f134) (c := Tryz.f134.body.getD .skip) (by kernel_rfl) (by kernel_rfl) (by kernel_rfl) rfl 0 rfl ?_
  repeat' (first | refine o1 ?_ | refine o2 ?_ | refine k1 ?_ | refine k2 ?_ | refine k4 ?_ | refine eqv_len_map ?_ | fail)
  refine loop_at (fun i : Nat => [(8, vint .i64 i)]) (fun _ => []) (fun i => i ≤ l.length ∧ ∀ j, j < i → ∀ q, l[j]? = some q → pB (q = s) = false) (fun i => l.length - i) 0 ⟨by omega, fun j hj => by omega⟩ (by repeat' (first | exact trivial | exact ⟨_, rfl, ALe.refl⟩ | refine And.intro ?_ ?_)) (by repeat' (first | exact trivial)) ?_
  intro i ⟨hi, hall⟩
  rcases Nat.lt_or_ge i l.length with hlt | hge
  · obtain ⟨q, hq⟩ := getE hlt
    repeat' (first | refine o1 ?_ | refine o2 ?_ | refine k1 ?_ | refine k2 ?_ | refine k3 ?_ | refine k4 ?_ | refine k6 ?_ | refine k7 ?_ | refine And.intro ?_ ?_ | (intro h; first | exact Bool.noConfusion h | exact nz _ h | exact nl h | (simp at h; done) | (simp at h; first | (exfalso; omega) | skip) | skip) | (change retOk _ _ _ _; refine ret_pure rfl trivial ?_) | refine eqv_wrap (by omega) (by omega) ?_ | refine ⟨_, _, (by first | rfl | assumption), at_map (by assumption), ?_⟩ | fail)
    all_goals first
      | exact congrArg (vint .i64) (idxB_at hall hq (pB_t (sEq_iff.1 (by assumption)).symm)).symm
      | exact ⟨i + 1, ⟨by omega, all_lt_succ hall fun q' h' => by rw [hq] at h'; cases h'; exact pB_f fun e => sEq_f.1 (by assumption) e.symm⟩, by omega, back [] rfl rfl trivial (by repeat' (first | exact trivial | exact rfl | refine And.intro ?_ ?_))⟩
  · repeat' (first | refine o1 ?_ | refine o2 ?_ | refine k1 ?_ | refine k2 ?_ | refine k3 ?_ | refine k7 ?_ | refine k8 ?_ | refine And.intro ?_ ?_ | (intro h; first | exact Bool.noConfusion h | exact nz _ h | exact nl h | (simp at h; done) | (simp at h; first | (exfalso; omega) | skip) | skip) | (change retOk _ _ _ _; refine ret_pure rfl trivial ?_) | fail)
    all_goals first
      | exact congrArg (vint .i64) (idxB_none fun j hj => hall j (by omega)).symm
theorem c_contains (l : List Str) (s : Str) (hl : l.length ≤ 100000) : PCall Tryz.prog 88 [.pv (encStrs l), .pv (es s)] (fun r => r = vbool (pB (s ∈ l))) := by
  refine acall_of tok mixed 9 rfl (fn := Tryz.f88) (c := Tryz.f88.body.getD .skip) (by kernel_rfl) (by kernel_rfl) (by kernel_rfl) rfl 0 rfl ?_
  repeat' (first | refine o1 ?_ | refine o2 ?_ | refine k1 ?_ | refine k2 ?_ | refine k7 ?_ | (change retOk _ _ _ _; refine ret_pure rfl trivial ?_) | (change vcFun _ _ _ _ _; refine call_eq rfl (by repeat' (first | trivial | refine And.intro ?_ ?_ | (show 0 + _ ≤ List.length _; simp))) ALeL.refl (c_index l s hl) rfl ?_) | fail)
  exact congrArg vbool idxS_has
noncomputable def idxN (l : List Int) (s : Int) : Int := idxB (fun q => pB (q = s)) l
end Go.Proofs.YtpnghlibmpainaaGreat.Cw

/-
  Contracts: times of sittings.
-/
namespace Go.Proofs.YtpnghlibmpainaaGreat.Cw
open Go.Cw Go.Proofs
set_option linter.unusedVariables false
set_option maxRecDepth 100000
set_option maxHeartbeats 800000

noncomputable def timeOf (s : Sitting) : Time := if pB (timedP s) then ⟨2 ^ (s.day / 7).toNat, s.day % 7, s.start, s.len⟩ else ⟨0, 0, 0, 0⟩
theorem timeOf_t {s : Sitting} (h : timedP s) : timeOf s = ⟨2 ^ (s.day / 7).toNat, s.day % 7, s.start, s.len⟩ := by unfold timeOf; rw [pB_t h, if_pos rfl]
theorem timeOf_f {s : Sitting} (h : ¬ timedP s) : timeOf s = ⟨0, 0, 0, 0⟩ := by unfold timeOf; rw [pB_f h]; rfl
theorem tdiv7 {d : Int} (h : 0 ≤ d) : d.tdiv 7 = d / 7 := Int.tdiv_eq_ediv_of_nonneg h
theorem tmod7 {d : Int} (h : 0 ≤ d) : d.tmod 7 = d % 7 := Int.tmod_eq_emod_of_nonneg h
theorem timed_b {s : Sitting} (h : timedP s) : 0 ≤ s.day ∧ s.day < 140 := ⟨h.1, h.2.1⟩
theorem eqv_quo7 {d : Int} {K : Int → Prop} (h : 0 ≤ d ∧ d < 140) (hk : K (d / 7)) : eqv (IntKind.i64.wrap (d.tdiv 7)) K := by
  rw [tdiv7 h.1]; exact eqv_wrap (by omega) (by omega) hk
theorem eqv_rem7 {d : Int} {K : Int → Prop} (h : 0 ≤ d ∧ d < 140) (hk : K (d % 7)) : eqv (d.tmod 7) K := by
  rw [tmod7 h.1]; exact ⟨_, rfl, hk⟩
theorem c_time (s : Sitting) : PCall Tryz.prog 12 [ag s.row] (fun r => r = ag (timeOf s).row) := by
  refine acall_of tok mixed 19 rfl (fn := Tryz.f12) (c := Tryz.f12.body.getD .skip) (by kernel_rfl) (by kernel_rfl) (by kernel_rfl) rfl 0 rfl ?_
  repeat' (first | (refine eqv_quo7 (timed_b (by assumption)) ?_) | (refine eqv_rem7 (timed_b (by assumption)) ?_) | (refine eqv_u64 (by have := timed_b (s := s) (by assumption); omega) (by have := timed_b (s := s) (by assumption); omega) ?_) | (refine eqv_shl (by have := timed_b (s := s) (by assumption); omega) ?_) | refine o1 ?_ | refine o2 ?_ | refine k1 ?_ | refine k2 ?_ | refine k3 ?_ | refine k4 ?_ | refine k6 ?_ | refine k7 ?_ | refine k8 ?_ | refine And.intro ?_ ?_ | exact trivial | refine o3 ?_ | refine o4 ?_ | refine o5 ?_ | refine o6 ?_ | refine k5 ?_ | (intro h; first | exact Bool.noConfusion h | exact nz _ h | exact nl h | (simp at h; done) | (simp at h; first | (exfalso; omega) | skip) | skip) | (change retOk _ _ _ _; refine ret_pure rfl trivial ?_) | exact (rfl : allOne _ = true) | (refine (?_ : (0 : Int) ≤ _); omega) | (refine (?_ : _ ≠ _); omega) | (refine (?_ : srcLen _ = rowsLen _); rfl) | exact Nat.le_of_ble_eq_true rfl | exact (by kernel_rfl : drawOk _ _ = true) | refine eqv_len_map ?_ | refine eqv_size ?_ | refine eqv_put (eqv_ck ?_) | refine eqv_zero ?_ | refine eqv_wrap (by omega) (by omega) ?_ | refine eqv_u64 (by omega) (by omega) ?_ | refine eqv_u8 (by omega) (by omega) ?_ | refine eqv_to _ (set_map rfl rfl) ?_ | refine ⟨_, _, (by first | rfl | assumption), at_map (by assumption), ?_⟩ | refine ⟨_, _, (by first | rfl | assumption), (by assumption), ?_⟩ | refine ⟨_, at_map (by assumption), (by decide), ?_⟩ | refine ⟨_, at_map (by assumption), ?_⟩ | (refine (?_ : _ ≤ 140737488355328); simp [rowsLen] <;> omega) | (refine (?_ : _ ≤ 9223372036854775807); simp [rowsLen] <;> omega) | (refine (?_ : _ = rowsLen _); simp [rowsLen] <;> omega) | refine eqv_to _ (app_row rfl) (eqv_to _ app_len ?_) | refine eqv_to _ (app_first rfl) (eqv_to 1 rfl ?_) | refine idx_sl (at_map (by assumption)) (by omega) ?_ | refine idx_ms _ (by first | rfl | assumption) (by first | assumption | omega) ?_ | (change vcFun _ _ _ _ _; refine call_eq rfl (by repeat' (first | trivial | refine And.intro ?_ ?_ | (show 0 + _ ≤ List.length _; simp))) ALeL.refl (c_timed s) rfl ?_) | fail)
  all_goals first
    | (rw [timeOf_f (by assumption)]; rfl)
    | (rw [timeOf_t (by assumption)]; rfl)
    | (show (0 : Int) ≤ s.day / 7; have := timed_b (s := s) (by assumption); omega)
theorem c_rtime (s : Sitting) : PCall Tryz.prog 13 [ag s.row] (fun r => r = ag (timeOf s).row) := by
  refine acall_of tok mixed 20 rfl (fn := Tryz.f13) (c := Tryz.f13.body.getD .skip) (by kernel_rfl) (by kernel_rfl) (by kernel_rfl) rfl 0 rfl ?_
  repeat' (first | (refine eqv_quo7 (timed_b (by assumption)) ?_) | (refine eqv_rem7 (timed_b (by assumption)) ?_) | (refine eqv_u64 (by have := timed_b (s := s) (by assumption); omega) (by have := timed_b (s := s) (by assumption); omega) ?_) | (refine eqv_shl (by have := timed_b (s := s) (by assumption); omega) ?_) | refine o1 ?_ | refine o2 ?_ | refine k1 ?_ | refine k2 ?_ | refine k3 ?_ | refine k4 ?_ | refine k6 ?_ | refine k7 ?_ | refine k8 ?_ | refine And.intro ?_ ?_ | exact trivial | refine o3 ?_ | refine o4 ?_ | refine o5 ?_ | refine o6 ?_ | refine k5 ?_ | (intro h; first | exact Bool.noConfusion h | exact nz _ h | exact nl h | (simp at h; done) | (simp at h; first | (exfalso; omega) | skip) | skip) | (change retOk _ _ _ _; refine ret_pure rfl trivial ?_) | exact (rfl : allOne _ = true) | (refine (?_ : (0 : Int) ≤ _); omega) | (refine (?_ : _ ≠ _); omega) | (refine (?_ : srcLen _ = rowsLen _); rfl) | exact Nat.le_of_ble_eq_true rfl | exact (by kernel_rfl : drawOk _ _ = true) | refine eqv_len_map ?_ | refine eqv_size ?_ | refine eqv_put (eqv_ck ?_) | refine eqv_zero ?_ | refine eqv_wrap (by omega) (by omega) ?_ | refine eqv_u64 (by omega) (by omega) ?_ | refine eqv_u8 (by omega) (by omega) ?_ | refine eqv_to _ (set_map rfl rfl) ?_ | refine ⟨_, _, (by first | rfl | assumption), at_map (by assumption), ?_⟩ | refine ⟨_, _, (by first | rfl | assumption), (by assumption), ?_⟩ | refine ⟨_, at_map (by assumption), (by decide), ?_⟩ | refine ⟨_, at_map (by assumption), ?_⟩ | (refine (?_ : _ ≤ 140737488355328); simp [rowsLen] <;> omega) | (refine (?_ : _ ≤ 9223372036854775807); simp [rowsLen] <;> omega) | (refine (?_ : _ = rowsLen _); simp [rowsLen] <;> omega) | refine eqv_to _ (app_row rfl) (eqv_to _ app_len ?_) | refine eqv_to _ (app_first rfl) (eqv_to 1 rfl ?_) | refine idx_sl (at_map (by assumption)) (by omega) ?_ | refine idx_ms _ (by first | rfl | assumption) (by first | assumption | omega) ?_ | (change vcFun _ _ _ _ _; refine call_eq rfl (by repeat' (first | trivial | refine And.intro ?_ ?_ | (show 0 + _ ≤ List.length _; simp))) ALeL.refl (c_rtimed s) rfl ?_) | fail)
  all_goals first
    | (rw [timeOf_f (by assumption)]; rfl)
    | (rw [timeOf_t (by assumption)]; rfl)
    | (show (0 : Int) ≤ s.day / 7; have := timed_b (s := s) (by assumption); omega)
end Go.Proofs.YtpnghlibmpainaaGreat.Cw

/-
  Plain laws: what valid examinations are; lists without duplicates.
-/
namespace Go.Proofs.YtpnghlibmpainaaGreat.Cw
open Go.Cw Go.Proofs
set_option linter.unusedVariables false
set_option maxRecDepth 100000

theorem bl_trans : ∀ {x y z : List UInt8}, Op.bytesLess x y = true → Op.bytesLess y z = true → Op.bytesLess x z = true
  | _, _, [], _, h => by cases ‹List UInt8› <;> simp [Op.bytesLess] at h
  | [], _, _ :: _, _, _ => by simp [Op.bytesLess]
  | _ :: _, [], _ :: _, h, _ => by simp [Op.bytesLess] at h
  | a :: x, b :: y, c :: z, h1, h2 => by
    simp only [Op.bytesLess, Bool.or_eq_true, decide_eq_true_eq, Bool.and_eq_true, beq_iff_eq] at h1 h2 ⊢
    rcases h1 with h1 | ⟨rfl, h1⟩
    · rcases h2 with h2 | ⟨rfl, h2⟩
      · exact .inl (UInt8.lt_trans h1 h2)
      · exact .inl h1
    · rcases h2 with h2 | ⟨rfl, h2⟩
      · exact .inl h2
      · exact .inr ⟨rfl, bl_trans h1 h2⟩
theorem bl_irr : ∀ {x : List UInt8}, Op.bytesLess x x = false
  | [] => rfl
  | a :: x => by simp [Op.bytesLess, bl_irr (x := x), UInt8.lt_irrefl]
theorem bl_total : ∀ {x y : List UInt8}, Op.bytesLess x y = false → (x == y) = false → Op.bytesLess y x = true
  | [], [], _, h => by simp at h
  | [], _ :: _, h, _ => by simp [Op.bytesLess] at h
  | _ :: _, [], _, _ => by simp [Op.bytesLess]
  | a :: x, b :: y, h1, h2 => by
    simp only [Op.bytesLess, Bool.or_eq_false_iff, decide_eq_false_iff_not, Bool.and_eq_false_iff] at h1
    simp only [Op.bytesLess, Bool.or_eq_true, decide_eq_true_eq, Bool.and_eq_true, beq_iff_eq]
    by_cases e : a = b
    · subst e
      right
      refine ⟨rfl, bl_total ?_ ?_⟩
      · rcases h1.2 with h | h
        · simp at h
        · exact h
      · simpa using h2
    · left
      have h3 := h1.1
      have h4 : a.toNat ≠ b.toNat := fun h => e (UInt8.toNat_inj.1 h)
      simp only [UInt8.lt_iff_toNat_lt] at h3 ⊢
      omega
theorem sLt_of {s p : Str} (h : sLe s p = false) : sLt p s = true := by
  unfold sLe at h
  simp only [Bool.or_eq_false_iff] at h
  exact bl_total h.1 h.2
theorem ris_lt {l : List Str} (h : risP l) : ∀ {i j : Nat} {p q : Str}, i < j → l[i]? = some p → l[j]? = some q → sLt p q = true
  | i, 0, _, _, hij, _, _ => by omega
  | i, j + 1, p, q, hij, hp, hq => by
    have hj := (List.getElem?_eq_some_iff.1 hq).1
    obtain ⟨m, hm⟩ := getE (show j < l.length by omega)
    have h1 := sLt_of (h j hj q m hq hm)
    rcases Nat.lt_or_ge i j with h2 | h2
    · exact bl_trans (ris_lt h h2 hp hm) h1
    · have : i = j := by omega
      subst this
      rw [hp] at hm; injection hm with hm; subst hm; exact h1
theorem ris_nodup {l : List Str} (h : risP l) : l.Nodup := by
  refine List.pairwise_iff_getElem.2 fun i j hi hj hij e => ?_
  have := ris_lt h hij (List.getElem?_eq_getElem hi) (List.getElem?_eq_getElem hj)
  rw [e] at this
  unfold sLt at this
  rw [bl_irr] at this; cases this

noncomputable def comN (a b : List Str) : Nat := a.countP (fun s => pB (s ∈ b))
def sortP (l : List Sitting) : Prop := ∀ (i j : Nat) p q, i < j → l[i]? = some p → l[j]? = some q → lexP p q
structure Fine (x : Exams) : Prop where
  en : x.exams.length ≤ 24
  sn : x.sits.length ≤ 24
  el : ∀ (i : Nat) e, x.exams[i]? = some e → e.studs.length ≤ 64 ∧ e.studs.Nodup
  sl : ∀ (i : Nat) s, x.sits[i]? = some s → timedP s
  so : sortP x.sits
  gd : 0 ≤ x.gaps.days ∧ x.gaps.days ≤ 140

theorem exam_fine {e : Exam} (h : examE e = 0) : e.studs.length ≤ 64 ∧ e.studs.Nodup := by
  unfold examE at h
  split at h
  · split at h
    · cases h
    · split at h
      · cases h
      · split at h
        · cases h
        · split at h
          · rename_i h1 _ h2
            refine ⟨by omega, ris_nodup ?_⟩
            have : ascP e.feats ∧ ascP e.studs := by simpa using h2
            exact this.2.2
          · cases h
  · cases h
theorem sits_fine {l : List Sitting} (h : sitsE l = 0) : l.length ≤ 24 ∧ (∀ (i : Nat) s, l[i]? = some s → timedP s) ∧ sortP l := by
  unfold sitsE at h
  split at h
  · cases h
  rename_i hn
  rw [firstE_zero_iff] at h
  have key : ∀ (i : Nat) s, l[i]? = some s → timedP s ∧ ∀ k p, i = k + 1 → l[k]? = some p → lexP p s := fun i s hs => by
    have h1 := h i (List.getElem?_eq_some_iff.1 hs).1
    by_cases ht : timedP s
    · refine ⟨ht, fun k p hk hp => ?_⟩
      by_cases hc : s.cost < 0 ∨ 1000 < s.cost
      · rw [sE2 hs ht hc] at h1; cases h1
      · apply Classical.byContradiction
        intro hl
        rw [sE3 hs ht (by omega) ⟨k, p, hk, hp, hl⟩] at h1; cases h1
    · rw [sE1 hs ht] at h1; cases h1
  refine ⟨by omega, fun i s hs => (key i s hs).1, fun i j p q hij hp hq => ?_⟩
  induction j generalizing q with
  | zero => omega
  | succ j ih =>
    have hj := (List.getElem?_eq_some_iff.1 hq).1
    obtain ⟨m, hm⟩ := getE (show j < l.length by omega)
    have h1 := (key _ q hq).2 j m rfl hm
    rcases Nat.lt_or_ge i j with h2 | h2
    · have h3 := ih m h2 hm
      unfold lexP at *; omega
    · have : i = j := by omega
      subst this
      rw [hp] at hm; injection hm with hm; subst hm; exact h1
theorem fine_of {x : Exams} (h : examsE x = 0) : Fine x := by
  unfold examsE at h
  split at h
  · rename_i h1; exact absurd h h1
  split at h
  · cases h
  split at h
  · rename_i h1; exact absurd h h1
  rename_i h2 h3
  split at h
  · rename_i h1; exact absurd h h1
  rename_i h4
  have h3 : firstE (exE x.exams) x.exams.length = 0 := Classical.byContradiction fun h => h3 h
  have h4 : sitsE x.sits = 0 := Classical.byContradiction fun h => h4 h
  obtain ⟨s1, s2, s3⟩ := sits_fine h4
  rw [firstE_zero_iff] at h3
  refine ⟨by omega, s1, fun i e he => ?_, s2, s3, ?_⟩
  · have := h3 i (List.getElem?_eq_some_iff.1 he).1
    unfold exE at this
    rw [he] at this
    dsimp only at this
    split at this
    · rename_i h5; exact absurd this h5
    · rename_i h5
      exact exam_fine (Classical.byContradiction fun h => h5 h)
  · unfold gapsE at h
    split at h
    · rename_i h5; exact h5.2.2.2.2
    · cases h

theorem bits_self : ∀ k : Nat, k < 20 → bits .and .i64 (2 ^ k) (2 ^ k) ≠ 0 := by decide +kernel
theorem self_ov {s : Sitting} (h : timedP s) : ovP (timeOf s) (timeOf s) := by
  rw [timeOf_t h]
  obtain ⟨h1, h2, h3, h4, h5, h6⟩ := h
  have hk : (s.day / 7).toNat < 20 := by omega
  have hp := pow2_pos (s.day / 7).toNat
  have hlt : (2 : Int) ^ (s.day / 7).toNat < 2 ^ (20 : Int).toNat := by
    have : (2 : Nat) ^ (s.day / 7).toNat < 2 ^ 20 := Nat.pow_lt_pow_right (by omega) hk
    have e1 : ((2 ^ (s.day / 7).toNat : Nat) : Int) = (2 : Int) ^ (s.day / 7).toNat := by simp
    have e2 : ((2 ^ 20 : Nat) : Int) = (2 : Int) ^ (20 : Int).toNat := by decide
    omega
  have hs : soundP ⟨2 ^ (s.day / 7).toNat, s.day % 7, s.start, s.len⟩ := ⟨⟨by omega, by omega, by dsimp only; omega, hlt⟩, by dsimp only; omega, by dsimp only; omega, h3, h4, h5, h6⟩
  exact ⟨⟨hs, hs, bits_self _ hk, rfl⟩, by dsimp only; omega, by dsimp only; omega⟩

noncomputable def relE (x : Exams) (a b : Nat) (s t : Sitting) : Int :=
  if pB (ovP (timeOf s) (timeOf t)) then 0
  else if s.day = t.day then (if (a : Int) - b = 1 ∨ (b : Int) - a = 1 then 2 else 3)
  else if max s.day t.day - min s.day t.day ≤ x.gaps.days then 4 else -1
def amid (s t u : Sitting) : Prop := u.day = s.day ∧ min s.start t.start < u.start ∧ u.start < max s.start t.start
theorem row_law {l : List Sitting} (hs : sortP l) {a b : Nat} {s t : Sitting} (ha : l[a]? = some s) (hb : l[b]? = some t) (hab : a ≠ b) (hd : s.day = t.day) (hno : ∀ (j : Nat) u, l[j]? = some u → ¬ amid s t u) : (a : Int) - b = 1 ∨ (b : Int) - a = 1 := by
  apply Classical.byContradiction
  intro hc
  have ha1 := (List.getElem?_eq_some_iff.1 ha).1
  have hb1 := (List.getElem?_eq_some_iff.1 hb).1
  rcases Nat.lt_or_ge a b with h | h
  · obtain ⟨u, hu⟩ := getE (show a + 1 < l.length by omega)
    have h1 := hs a (a + 1) s u (by omega) ha hu
    have h2 := hs (a + 1) b u t (by omega) hu hb
    refine hno _ u hu ?_
    unfold lexP at h1 h2; unfold amid; omega
  · obtain ⟨u, hu⟩ := getE (show b + 1 < l.length by omega)
    have h1 := hs b (b + 1) t u (by omega) hb hu
    have h2 := hs (b + 1) a u s (by omega) hu ha
    refine hno _ u hu ?_
    unfold lexP at h1 h2; unfold amid; omega
theorem day_law {l : List Sitting} (hs : sortP l) {a b i : Nat} {s t u : Sitting} (ha : l[a]? = some s) (hb : l[b]? = some t) (hd : s.day = t.day) (hu : l[i]? = some u) (hm : amid s t u) : ¬ ((a : Int) - b = 1 ∨ (b : Int) - a = 1) := by
  have cmp : ∀ (c : Nat) w, l[c]? = some w → w.day = u.day → (i < c → u.start < w.start) ∧ (c < i → w.start < u.start) ∧ (c = i → w.start = u.start) := fun c w hw hwd => by
    refine ⟨fun h => ?_, fun h => ?_, fun h => ?_⟩
    · have := hs i c u w h hu hw; unfold lexP at this; omega
    · have := hs c i w u h hw hu; unfold lexP at this; omega
    · subst h; rw [hw] at hu; injection hu with hu; rw [hu]
  obtain ⟨m1, m2, m3⟩ := hm
  have h1 := cmp a s ha m1.symm
  have h2 := cmp b t hb (by omega)
  have h3 : a < i ∨ a = i ∨ i < a := by omega
  have h4 : b < i ∨ b = i ∨ i < b := by omega
  rcases h3 with h3 | h3 | h3 <;> rcases h4 with h4 | h4 | h4
  all_goals
    have e1 := h1.1; have e2 := h1.2.1; have e3 := h1.2.2; have e4 := h2.1; have e5 := h2.2.1; have e6 := h2.2.2
    omega
end Go.Proofs.YtpnghlibmpainaaGreat.Cw

/-
  Contracts: the relation of two sittings, students in common.
-/
namespace Go.Proofs.YtpnghlibmpainaaGreat.Cw
open Go.Cw Go.Proofs
set_option linter.unusedVariables false
set_option maxRecDepth 100000
set_option maxHeartbeats 1600000

section
variable {x : Exams} {a b : Nat} {s t : Sitting}
theorem rel0 (h : ovP (timeOf s) (timeOf t)) : relE x a b s t = 0 := by unfold relE; rw [pB_t h, if_pos rfl]
variable (h : ¬ ovP (timeOf s) (timeOf t))
include h
theorem relR (hd : s.day = t.day) (h2 : (a : Int) - b = 1 ∨ (b : Int) - a = 1) : relE x a b s t = 2 := by unfold relE; rw [pB_f h, if_neg (by simp), if_pos hd, if_pos h2]
theorem relD (hd : s.day = t.day) (h2 : ¬ ((a : Int) - b = 1 ∨ (b : Int) - a = 1)) : relE x a b s t = 3 := by unfold relE; rw [pB_f h, if_neg (by simp), if_pos hd, if_neg h2]
theorem relN (hd : ¬ s.day = t.day) (h2 : max s.day t.day - min s.day t.day ≤ x.gaps.days) : relE x a b s t = 4 := by unfold relE; rw [pB_f h, if_neg (by simp), if_neg hd, if_pos h2]
theorem relX (hd : ¬ s.day = t.day) (h2 : ¬ max s.day t.day - min s.day t.day ≤ x.gaps.days) : relE x a b s t = -1 := by unfold relE; rw [pB_f h, if_neg (by simp), if_neg hd, if_neg h2]
end
theorem c_relation (x : Exams) (a b : Nat) (s t : Sitting) (hf : Fine x) (ha : x.sits[a]? = some s) (hb : x.sits[b]? = some t) :
    PCall Tryz.prog 41 [ag x.cells, vint .i64 a, vint .i64 b] (fun r => r = vint .i64 (relE x a b s t)) := by
  have hn := hf.sn
  have ha1 := (List.getElem?_eq_some_iff.1 ha).1
  have hb1 := (List.getElem?_eq_some_iff.1 hb).1
  have hs := timed_b (hf.sl a s ha)
  have ht := timed_b (hf.sl b t hb)
  refine acall_of tok mixed 63 rfl (fn := Tryz.f41) (c := Tryz.f41.body.getD .skip) (by kernel_rfl) (by kernel_rfl) (by kernel_rfl) rfl 0 rfl ?_
  repeat' (first | (refine idx_sl (k := a) (at_map ha) (by omega) ?_) | (refine idx_sl (k := b) (at_map hb) (by omega) ?_) | (refine eqv_wrap (by (try dsimp only [cond]); omega) (by (try dsimp only [cond]); omega) ?_) | refine o1 ?_ | refine o2 ?_ | refine k1 ?_ | refine k2 ?_ | refine k3 ?_ | refine k4 ?_ | refine k6 ?_ | refine k7 ?_ | refine And.intro ?_ ?_ | refine o3 ?_ | refine o4 ?_ | (intro h; first | exact Bool.noConfusion h | exact nz _ h | exact nl h | (simp at h; done) | (simp at h; first | (exfalso; omega) | skip) | skip) | (change retOk _ _ _ _; refine ret_pure rfl trivial ?_) | exact (by kernel_rfl : drawOk _ _ = true) | (change vcFunD _ _ _ _ _; refine callD_eq rfl (by repeat' (first | trivial | refine And.intro ?_ ?_ | (show 0 + _ ≤ List.length _; simp))) ALeL.refl (c_time s) rfl ?_) | (change vcFunD _ _ _ _ _; refine callD_eq rfl (by repeat' (first | trivial | refine And.intro ?_ ?_ | (show 0 + _ ≤ List.length _; simp))) ALeL.refl (c_time t) rfl ?_) | (change vcFunD _ _ _ _ _; refine callD_eq rfl (by repeat' (first | trivial | refine And.intro ?_ ?_ | (show 0 + _ ≤ List.length _; simp))) ALeL.refl (c_overlap (timeOf s) (timeOf t)) rfl ?_) | fail)
  all_goals first
    | exact congrArg (vint .i64) (rel0 (by assumption)).symm
    | exact congrArg (vint .i64) (relR (by assumption) (by assumption) (by omega)).symm
    | exact congrArg (vint .i64) (relD (by assumption) (by assumption) (by omega)).symm
    | exact congrArg (vint .i64) (relN (by assumption) (by assumption) (by omega)).symm
    | exact congrArg (vint .i64) (relX (by assumption) (by assumption) (by omega)).symm

theorem c_rrelation (x : Exams) (a b : Nat) (s t : Sitting) (hf : Fine x) (ha : x.sits[a]? = some s) (hb : x.sits[b]? = some t) :
    PCall Tryz.prog 43 [ag x.cells, vint .i64 a, vint .i64 b] (fun r => r = vint .i64 (relE x a b s t)) := by
  have hn := hf.sn
  have ha1 := (List.getElem?_eq_some_iff.1 ha).1
  have hb1 := (List.getElem?_eq_some_iff.1 hb).1
  have hs := timed_b (hf.sl a s ha)
  have ht := timed_b (hf.sl b t hb)
  refine acall_of tok mixed 83 rfl (fn := Tryz.f43) (c := Tryz.f43.body.getD .skip) (by kernel_rfl) (by kernel_rfl) (by kernel_rfl) rfl 0 rfl ?_
  repeat' (first | (refine idx_sl (k := a) (at_map ha) (by omega) ?_) | (refine idx_sl (k := b) (at_map hb) (by omega) ?_) | (refine eqv_wrap (by (try dsimp only [cond]); omega) (by (try dsimp only [cond]); omega) ?_) | refine o1 ?_ | refine o2 ?_ | refine k1 ?_ | refine k2 ?_ | refine k3 ?_ | refine k4 ?_ | refine k6 ?_ | refine k7 ?_ | refine And.intro ?_ ?_ | refine o3 ?_ | refine o4 ?_ | (intro h; first | exact Bool.noConfusion h | exact nz _ h | exact nl h | (simp at h; done) | (simp at h; first | (exfalso; omega) | skip) | skip) | (change retOk _ _ _ _; refine ret_pure rfl trivial ?_) | exact (by kernel_rfl : drawOk _ _ = true) | (change vcFunD _ _ _ _ _; refine callD_eq rfl (by repeat' (first | trivial | refine And.intro ?_ ?_ | (show 0 + _ ≤ List.length _; simp))) ALeL.refl (c_rtime s) rfl ?_) | (change vcFunD _ _ _ _ _; refine callD_eq rfl (by repeat' (first | trivial | refine And.intro ?_ ?_ | (show 0 + _ ≤ List.length _; simp))) ALeL.refl (c_rtime t) rfl ?_) | (change vcFunD _ _ _ _ _; refine callD_eq rfl (by repeat' (first | trivial | refine And.intro ?_ ?_ | (show 0 + _ ≤ List.length _; simp))) ALeL.refl (c_roverlap (timeOf s) (timeOf t)) rfl ?_) | fail)
  all_goals first
    | exact congrArg (vint .i64) (rel0 (by assumption)).symm
    | exact congrArg (vint .i64) (relR (by assumption) (by assumption) (by omega)).symm
    | exact congrArg (vint .i64) (relD (by assumption) (by assumption) (by omega)).symm
    | exact congrArg (vint .i64) (relN (by assumption) (by assumption) (by omega)).symm
    | exact congrArg (vint .i64) (relX (by assumption) (by assumption) (by omega)).symm
    | skip
  refine loop_at (fun i : Nat => [(9, vint .i64 i)]) (fun _ => []) (fun i => i ≤ x.sits.length ∧ ∀ j, j < i → ∀ u, x.sits[j]? = some u → ¬ amid s t u) (fun i => x.sits.length - i) 0 ⟨by omega, fun j hj => by omega⟩ (by repeat' (first | exact trivial | exact ⟨_, rfl, ALe.refl⟩ | refine And.intro ?_ ?_)) (by repeat' (first | exact trivial | exact rfl | refine And.intro ?_ ?_)) ?_
  intro i ⟨hi, hall⟩
  have hno : ¬ ovP (timeOf s) (timeOf t) := by assumption
  have hday : s.day = t.day := by omega
  rcases Nat.lt_or_ge i x.sits.length with hlt | hge
  · obtain ⟨u, hu⟩ := getE hlt
    have hud := timed_b (hf.sl i u hu)
    repeat' (first | (refine idx_sl (k := i) (at_map hu) (by omega) ?_) | refine o1 ?_ | refine o2 ?_ | refine k1 ?_ | refine k2 ?_ | refine k3 ?_ | refine k4 ?_ | refine k6 ?_ | refine k7 ?_ | refine And.intro ?_ ?_ | (intro h; first | exact Bool.noConfusion h | exact nz _ h | exact nl h | (simp at h; done) | (simp at h; first | (exfalso; omega) | skip) | skip) | (change retOk _ _ _ _; refine ret_pure rfl trivial ?_) | exact (by kernel_rfl : drawOk _ _ = true) | refine eqv_len_map ?_ | refine eqv_wrap (by omega) (by omega) ?_ | fail)
    all_goals first
      | exact congrArg (vint .i64) (relD hno hday (day_law hf.so ha hb hday hu ⟨by omega, by omega, by omega⟩)).symm
      | exact ⟨i + 1, ⟨by omega, all_lt_succ hall fun u' h' => by rw [hu] at h'; cases h'; exact fun hm => by unfold amid at hm; omega⟩, by omega, back [0, 1, 2] rfl rfl ⟨rfl, rfl, rfl, trivial⟩ (by repeat' (first | exact trivial | exact rfl | refine And.intro ?_ ?_))⟩
  · repeat' (first | refine o1 ?_ | refine o2 ?_ | refine k1 ?_ | refine k2 ?_ | refine k3 ?_ | refine k7 ?_ | refine k8 ?_ | refine And.intro ?_ ?_ | (intro h; first | exact Bool.noConfusion h | exact nz _ h | exact nl h | (simp at h; done) | (simp at h; first | (exfalso; omega) | skip) | skip) | (change retOk _ _ _ _; refine ret_pure rfl trivial ?_) | refine eqv_len_map ?_ | fail)
    all_goals first
      | exact congrArg (vint .i64) (relR hno hday (row_law hf.so ha hb (fun e => hno (by subst e; rw [ha] at hb; injection hb with hb; subst hb; exact self_ov (hf.sl a s ha))) hday fun j u hu => hall j (by have := (List.getElem?_eq_some_iff.1 hu).1; omega) u hu)).symm
end Go.Proofs.YtpnghlibmpainaaGreat.Cw

/-
  Contracts: students in common; the relation and the common students of any numbers.
-/
namespace Go.Proofs.YtpnghlibmpainaaGreat.Cw
open Go.Cw Go.Proofs
set_option linter.unusedVariables false
set_option maxRecDepth 100000
set_option maxHeartbeats 1600000

theorem comN_t {a b : List Str} {i : Nat} {s : Str} (hs : a[i]? = some s) (h : s ∈ b) : (comN (a.take (i + 1)) b : Int) = comN (a.take i) b + 1 := by
  unfold comN
  rw [List.take_add_one, hs]
  simp [List.countP_append, h]
theorem comN_f {a b : List Str} {i : Nat} {s : Str} (hs : a[i]? = some s) (h : ¬ s ∈ b) : (comN (a.take (i + 1)) b : Int) = comN (a.take i) b := by
  unfold comN
  rw [List.take_add_one, hs]
  simp [List.countP_append, h]
theorem comN_b {a b : List Str} : comN a b ≤ a.length := List.countP_le_length
theorem comN_tb {a b : List Str} {i : Nat} : comN (a.take i) b ≤ i := by
  have := comN_b (a := a.take i) (b := b)
  rw [List.length_take] at this; omega
theorem comN_all {a b : List Str} {i : Nat} (h : a.length ≤ i) : comN (a.take i) b = comN a b := by rw [List.take_of_length_le h]

theorem c_rcommon (e f : Exam) (hs : e.studs.length ≤ 64) (ht : f.studs.length ≤ 64) :
    PCall Tryz.prog 45 [ag e.row, ag f.row] (fun r => r = vint .i64 (comN e.studs f.studs)) := by
  refine acall_of tok mixed 25 rfl (fn := Tryz.f45) (c := Tryz.f45.body.getD .skip) (by kernel_rfl) (by kernel_rfl) (by kernel_rfl) rfl 0 rfl ?_
  repeat' (first | refine o1 ?_ | refine o2 ?_ | refine k1 ?_ | refine k2 ?_ | refine k4 ?_ | fail)
  refine loop_at (fun i : Nat => [(5, vint .i64 (comN (e.studs.take i) f.studs)), (6, vint .i64 i)]) (fun _ => []) (fun i => i ≤ e.studs.length) (fun i => e.studs.length - i) 0 (by omega) (by repeat' (first | exact trivial | exact ⟨_, rfl, ALe.refl⟩ | refine And.intro ?_ ?_)) (by repeat' (first | exact trivial | exact rfl | refine And.intro ?_ ?_)) ?_
  intro i hi
  have hc := comN_tb (a := e.studs) (b := f.studs) (i := i)
  rcases Nat.lt_or_ge i e.studs.length with hlt | hge
  · obtain ⟨s, hs1⟩ := getE hlt
    repeat' (first | refine o1 ?_ | refine o2 ?_ | refine k1 ?_ | refine k2 ?_ | refine k3 ?_ | refine k4 ?_ | refine k6 ?_ | refine And.intro ?_ ?_ | refine o3 ?_ | refine o4 ?_ | (intro h; first | exact Bool.noConfusion h | exact nz _ h | exact nl h | (simp at h; done) | (simp at h; first | (exfalso; omega) | skip) | skip) | exact (by kernel_rfl : drawOk _ _ = true) | refine eqv_len_map ?_ | refine eqv_wrap (by omega) (by omega) ?_ | refine ⟨_, _, (by first | rfl | assumption), at_map (by assumption), ?_⟩ | (change vcFunD _ _ _ _ _; refine callD_eq rfl (by repeat' (first | trivial | refine And.intro ?_ ?_ | (show 0 + _ ≤ List.length _; simp))) ALeL.refl (c_has f.studs s (by omega)) rfl ?_) | fail)
    all_goals first
      | exact ⟨i + 1, by omega, by omega, back [0, 1] rfl rfl ⟨rfl, rfl, trivial⟩ ⟨slot_eq rfl (congrArg (vint .i64) (comN_t hs1 (by assumption)).symm), by repeat' (first | exact trivial | exact rfl | refine And.intro ?_ ?_)⟩⟩
      | exact ⟨i + 1, by omega, by omega, back [0, 1] rfl rfl ⟨rfl, rfl, trivial⟩ ⟨slot_eq rfl (congrArg (vint .i64) (comN_f hs1 (by assumption)).symm), by repeat' (first | exact trivial | exact rfl | refine And.intro ?_ ?_)⟩⟩
  · repeat' (first | refine o1 ?_ | refine o2 ?_ | refine k1 ?_ | refine k2 ?_ | refine k3 ?_ | refine k7 ?_ | refine k8 ?_ | refine And.intro ?_ ?_ | (intro h; first | exact Bool.noConfusion h | exact nz _ h | exact nl h | (simp at h; done) | (simp at h; first | (exfalso; omega) | skip) | skip) | (change retOk _ _ _ _; refine ret_pure rfl trivial ?_) | refine eqv_len_map ?_ | fail)
    exact congrArg (vint .i64) (congrArg (fun n : Nat => (n : Int)) (comN_all hge))
noncomputable def relV (x : Exams) (a b : Int) : Int := match x.sits[a.toNat]?, x.sits[b.toNat]? with
  | some s, some t => relE x a.toNat b.toNat s t
  | _, _ => -2
noncomputable def comV (x : Exams) (a b : Int) : Int := match x.exams[a.toNat]?, x.exams[b.toNat]? with
  | some e, some f => comN e.studs f.studs
  | _, _ => 0
/-- What Relation answers, and Common. -/
noncomputable def relA (x : Exams) (a b : Int) : Int := if examsE x ≠ 0 ∨ a < 0 ∨ (x.sits.length : Int) ≤ a ∨ b < 0 ∨ (x.sits.length : Int) ≤ b then -2 else relV x a b
noncomputable def comA (x : Exams) (a b : Int) : Int := if examsE x ≠ 0 ∨ a < 0 ∨ (x.exams.length : Int) ≤ a ∨ b < 0 ∨ (x.exams.length : Int) ≤ b then 0 else comV x a b
end Go.Proofs.YtpnghlibmpainaaGreat.Cw

/-
  Models: their data, and what a valid one is.
-/
namespace Go.Proofs.YtpnghlibmpainaaGreat.Cw
open Go.Cw Go.Proofs
set_option linter.unusedVariables false
set_option maxRecDepth 100000

structure Placed where
  (time : Time)
  (room : Int)
def Placed.row (p : Placed) : List PV := [ei p.time.weeks, ei p.time.day, ei p.time.start, ei p.time.len, ei p.room]
structure Charge where
  (rule cost : Int)
def Charge.row (c : Charge) : List PV := [ei c.rule, ei c.cost]
structure Opt where
  (place : Placed)
  (charges : List Charge)
def Opt.row (o : Opt) : List PV := [ei o.place.time.weeks, ei o.place.time.day, ei o.place.time.start, ei o.place.time.len, ei o.place.room, .sl 2 (o.charges.map Charge.row)]
structure Pair where
  (first second rule : Int)
  (table : List Int)
def Pair.row (p : Pair) : List PV := [ei p.first, ei p.second, ei p.rule, encInts p.table]
structure Load where
  (cls opt weight : Int)
def Load.row (l : Load) : List PV := [ei l.cls, ei l.opt, ei l.weight]
structure Count where
  (rule : Int)
  (loads : List Load)
  (most penalty : Int)
def Count.row (c : Count) : List PV := [ei c.rule, .sl 3 (c.loads.map Load.row), ei c.most, ei c.penalty]
structure Model where
  (classes : List (List Opt))
  (pairs : List Pair)
  (counts : List Count)
  (rules : Int)
def optsRow (l : List Opt) : List PV := [.sl 6 (l.map Opt.row)]
def Model.cells (m : Model) : List PV := [.sl 1 (m.classes.map optsRow), .sl 4 (m.pairs.map Pair.row), .sl 4 (m.counts.map Count.row), ei m.rules]

def BIG : Nat := 9223372036854775807
/-- Lists are no longer than lists can be. -/
structure Laid (m : Model) : Prop where
  cn : m.classes.length ≤ 9223372036854775807
  pn : m.pairs.length ≤ 9223372036854775807
  ch : ∀ l ∈ m.classes, ∀ o ∈ l, o.charges.length ≤ 9223372036854775807
  ld : ∀ c ∈ m.counts, c.loads.length ≤ 9223372036854775807

def priceP (n : Int) : Prop := (1 ≤ n ∧ n ≤ 1048576) ∨ n = 1099511627776
def ruleP (m : Model) (n : Int) : Prop := 0 ≤ n ∧ n < m.rules
def optionP (m : Model) (c o : Int) : Prop := 0 ≤ c ∧ 0 ≤ o ∧ ∃ l, m.classes[c.toNat]? = some l ∧ o < l.length
def sizedP (m : Model) : Prop := m.classes.length ≤ 24 ∧ (∀ l ∈ m.classes, l.length ≤ 24) ∧ m.pairs.length ≤ 4000 ∧ m.counts.length ≤ 800 ∧ 0 ≤ m.rules ∧ m.rules ≤ 56
def chargeAt (m : Model) (l : List Charge) (i : Nat) : Prop := ∀ c, l[i]? = some c → ruleP m c.rule ∧ priceP c.cost ∧ ∀ k b, i = k + 1 → l[k]? = some b → b.rule < c.rule
def chargesP (m : Model) (o : Opt) : Prop := ∀ i, i < o.charges.length → chargeAt m o.charges i
def pairP (m : Model) (p : Pair) : Prop := ruleP m p.rule ∧ 0 ≤ p.first ∧ p.first < p.second ∧ (∃ a b, m.classes[p.first.toNat]? = some a ∧ m.classes[p.second.toNat]? = some b ∧ p.table.length = a.length * b.length) ∧ ∀ n ∈ p.table, n = 0 ∨ priceP n
def pairLt (p q : Pair) : Prop := p.rule < q.rule ∨ (p.rule = q.rule ∧ (p.first < q.first ∨ (p.first = q.first ∧ p.second < q.second)))
def pairAt (m : Model) (i : Nat) : Prop := ∀ p, m.pairs[i]? = some p → pairP m p ∧ ∀ k q, i = k + 1 → m.pairs[k]? = some q → pairLt q p
def loadAt (m : Model) (l : List Load) (i : Nat) : Prop := ∀ x, l[i]? = some x → optionP m x.cls x.opt ∧ 1 ≤ x.weight ∧ x.weight ≤ 1000 ∧ ∀ k y, i = k + 1 → l[k]? = some y → y.cls < x.cls ∨ (y.cls = x.cls ∧ y.opt < x.opt)
def countP_ (m : Model) (c : Count) : Prop := ruleP m c.rule ∧ 0 ≤ c.most ∧ c.most ≤ 1048576 ∧ priceP c.penalty ∧ ∀ i, i < c.loads.length → loadAt m c.loads i
def goodP (m : Model) : Prop := (∀ l ∈ m.classes, ∀ o ∈ l, chargesP m o) ∧ (∀ i, i < m.pairs.length → pairAt m i) ∧ ∀ c ∈ m.counts, countP_ m c
noncomputable def modelE (m : Model) : Int := if pB (sizedP m) then (if pB (goodP m) then 0 else 1) else 2
end Go.Proofs.YtpnghlibmpainaaGreat.Cw

/-
  Slices that grow; results that are read.
-/
namespace Go.Proofs.YtpnghlibmpainaaGreat.Cw
open Go.Cw Go.Proofs
set_option linter.unusedVariables false
theorem app_cons {r x : List PV} {rs : List (List PV)} {K : Go.Cw.Rows → Nat → Prop} (h : K (.p (r :: (rs ++ [x]))) ((rs ++ [x]).length + 1)) : eqv (Go.Cw.Rows.p (List.drop 0 (r :: rs) ++ List.take 1 (List.drop 0 [x]))) fun rr => eqv (rowsLen rr) (K rr) :=
  ⟨_, rfl, _, by simp [rowsLen], h⟩
theorem app_consm {α : Type} {f : α → List PV} {e0 : α} (e : α) {l : List α} {x : List PV} (hx : x = f e) {K : Go.Cw.Rows → Nat → Prop} (h : K (.p (f e0 :: (l ++ [e]).map f)) (((l ++ [e]).map f).length + 1)) : eqv (Go.Cw.Rows.p (List.drop 0 (f e0 :: l.map f) ++ List.take 1 (List.drop 0 [x]))) fun rr => eqv (rowsLen rr) (K rr) :=
  ⟨_, by simp [hx], _, by simp [rowsLen], h⟩
def nilA : AV := .pv (.val (.slice none 0 0))
/-- A slice of pure rows that grows by append: nil, or the whole of an object. -/
def slP (id z : Nat) : List (List PV) → AV
  | [] => nilA
  | r :: l => .ms id z 0 (r :: l).length
def obP (ty z : Nat) : List (List PV) → Option AObj
  | [] => none
  | r :: l => some ⟨ty, z, false, .p (r :: l)⟩
/-- ALe, not looked into. -/
structure Leq (r x : AV) : Prop where
  le : ALe r x
theorem whole_le {α : Type} {f : α → List PV} {z n : Nat} {l : List α} (h : l.length ≤ n) : PLe (.sl z (List.take n (List.drop 0 (l.map f)))) (.sl z (l.map f)) := by
  rw [List.drop_zero, List.take_of_length_le (by simpa using h)]
  exact PLe.refl
end Go.Proofs.YtpnghlibmpainaaGreat.Cw
