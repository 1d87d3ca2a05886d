/-
  What the laws on models share.
-/
import Derived.Test.YtfdjcpodkhpgcaaGreatProg
import Derived.KernelRfl
import Derived.Test.YtfdjcpodkhpgcaaGreatMB3

/-
  The types and functions of the program. Written by a tool; no conditions.
-/
namespace Go.Proofs.YtfdjcpodkhpgcaaGreat.Cw
open Go.Cw Go.Proofs

noncomputable def T : Tab := ⟨.node 107 (.mk 1 8 false .func [.val .nilFunc]) (.node 54 (.mk 1 24 false (.slice 53) [.val (.slice none 0 0)]) (.node 26 (.mk 4 80 true (.struct [(0, 22), (1, 23), (2, 24), (3, 3)]) [.val (.slice none 0 0), .val (.slice none 0 0), .val (.slice none 0 0), .val (.int .i64 0)]) (.node 13 (.mk 2 24 true (.struct [(0, 9), (1, 12)]) [.val (.string (⟨#[]⟩)), .val (.int .u64 0)]) (.node 7 (.mk 4 24 true (.struct [(0, 2), (1, 3), (2, 4), (3, 6)]) [.val (.int .i64 0), .val (.int .i64 0), .val (.bool false), .val (.int .u8 0)]) (.node 4 (.mk 1 1 false .bool [.val (.bool false)]) (.node 2 (.mk 1 8 false (.int .i64) [.val (.int .i64 0)]) (.node 1 (.mk 1 8 false .func [.val .nilFunc]) .nil .nil)
 (.node 3 (.mk 1 8 false (.int .i64) [.val (.int .i64 0)]) .nil .nil))
 (.node 6 (.mk 1 1 false (.int .u8) [.val (.int .u8 0)]) (.node 5 (.mk 1 1 false (.int .u8) [.val (.int .u8 0)]) .nil .nil) .nil))
 (.node 10 (.mk 1 16 false .str [.val (.string (⟨#[]⟩))]) (.node 9 (.mk 1 16 false .str [.val (.string (⟨#[]⟩))]) (.node 8 (.mk 4 24 true (.struct [(0, 2), (1, 3), (2, 4), (3, 6)]) [.val (.int .i64 0), .val (.int .i64 0), .val (.bool false), .val (.int .u8 0)]) .nil .nil) .nil)
 (.node 12 (.mk 1 8 false (.int .u64) [.val (.int .u64 0)]) (.node 11 (.mk 1 16 false .str [.val (.string (⟨#[]⟩))]) .nil .nil) .nil)))
 (.node 20 (.mk 1 16 false .other [.val .nilIface]) (.node 17 (.mk 1 8 false (.ptr 210) [.val (.pointer none)]) (.node 15 (.mk 1 8 false (.ptr 198) [.val (.pointer none)]) (.node 14 (.mk 2 24 true (.struct [(0, 9), (1, 12)]) [.val (.string (⟨#[]⟩)), .val (.int .u64 0)]) .nil .nil)
 (.node 16 (.mk 1 8 false (.ptr 201) [.val (.pointer none)]) .nil .nil))
 (.node 19 (.mk 1 8 true (.struct [(0, 17)]) [.val (.pointer none)]) (.node 18 (.mk 1 8 true (.struct [(0, 17)]) [.val (.pointer none)]) .nil .nil) .nil))
 (.node 23 (.mk 1 24 false (.slice 82) [.val (.slice none 0 0)]) (.node 22 (.mk 1 24 false (.slice 54) [.val (.slice none 0 0)]) (.node 21 (.mk 1 4 false (.int .i32) [.val (.int .i32 0)]) .nil .nil) .nil)
 (.node 25 (.mk 4 80 true (.struct [(0, 22), (1, 23), (2, 24), (3, 3)]) [.val (.slice none 0 0), .val (.slice none 0 0), .val (.slice none 0 0), .val (.int .i64 0)]) (.node 24 (.mk 1 24 false (.slice 91) [.val (.slice none 0 0)]) .nil .nil) .nil))))
 (.node 41 (.mk 1 8 false (.ptr 101) [.val (.pointer none)]) (.node 35 (.mk 1 8 false .func [.val .nilFunc]) (.node 31 (.mk 1 8 false .func [.val .nilFunc]) (.node 28 (.mk 1 24 false (.slice 50) [.val (.slice none 0 0)]) (.node 27 (.mk 1 24 false (.slice 3) [.val (.slice none 0 0)]) .nil .nil)
 (.node 29 (.mk 1 8 false (.int .i64) [.val (.int .i64 0)]) .nil .nil))
 (.node 34 (.mk 1 8 false .func [.val .nilFunc]) (.node 33 (.mk 1 8 false .func [.val .nilFunc]) .nil .nil) .nil))
 (.node 38 (.mk 1 8 false .func [.val .nilFunc]) (.node 37 (.mk 1 8 false .func [.val .nilFunc]) (.node 36 (.mk 1 8 false .func [.val .nilFunc]) .nil .nil) .nil)
 (.node 40 (.mk 1 8 false .func [.val .nilFunc]) (.node 39 (.mk 1 8 false .func [.val .nilFunc]) .nil .nil) .nil)))
 (.node 48 (.mk 4 32 true (.struct [(0, 3), (1, 3), (2, 3), (3, 3)]) [.val (.int .i64 0), .val (.int .i64 0), .val (.int .i64 0), .val (.int .i64 0)]) (.node 45 (.mk 1 8 false .func [.val .nilFunc]) (.node 43 (.mk 1 8 false .func [.val .nilFunc]) (.node 42 (.mk 1 8 false .func [.val .nilFunc]) .nil .nil)
 (.node 44 (.mk 1 8 false .func [.val .nilFunc]) .nil .nil))
 (.node 47 (.mk 4 32 true (.struct [(0, 3), (1, 3), (2, 3), (3, 3)]) [.val (.int .i64 0), .val (.int .i64 0), .val (.int .i64 0), .val (.int .i64 0)]) (.node 46 (.mk 1 8 false .func [.val .nilFunc]) .nil .nil) .nil))
 (.node 51 (.mk 1 24 false (.slice 96) [.val (.slice none 0 0)]) (.node 50 (.mk 5 40 true (.struct [(0, 48), (4, 3)]) [.val (.int .i64 0), .val (.int .i64 0), .val (.int .i64 0), .val (.int .i64 0), .val (.int .i64 0)]) (.node 49 (.mk 5 40 true (.struct [(0, 48), (4, 3)]) [.val (.int .i64 0), .val (.int .i64 0), .val (.int .i64 0), .val (.int .i64 0), .val (.int .i64 0)]) .nil .nil) .nil)
 (.node 53 (.mk 6 64 true (.struct [(0, 50), (5, 51)]) [.val (.int .i64 0), .val (.int .i64 0), .val (.int .i64 0), .val (.int .i64 0), .val (.int .i64 0), .val (.slice none 0 0)]) (.node 52 (.mk 6 64 true (.struct [(0, 50), (5, 51)]) [.val (.int .i64 0), .val (.int .i64 0), .val (.int .i64 0), .val (.int .i64 0), .val (.int .i64 0), .val (.slice none 0 0)]) .nil .nil) .nil)))))
 (.node 81 (.mk 4 48 true (.struct [(0, 3), (1, 3), (2, 3), (3, 27)]) [.val (.int .i64 0), .val (.int .i64 0), .val (.int .i64 0), .val (.slice none 0 0)]) (.node 67 (.mk 1 24 false (.slice 78) [.val (.slice none 0 0)]) (.node 61 (.mk 1 24 false (.slice 74) [.val (.slice none 0 0)]) (.node 58 (.mk 4 32 true (.struct [(0, 3), (1, 3), (2, 3), (3, 3)]) [.val (.int .i64 0), .val (.int .i64 0), .val (.int .i64 0), .val (.int .i64 0)]) (.node 56 (.mk 1 8 false .func [.val .nilFunc]) (.node 55 (.mk 1 8 false .func [.val .nilFunc]) .nil .nil)
 (.node 57 (.mk 4 32 true (.struct [(0, 3), (1, 3), (2, 3), (3, 3)]) [.val (.int .i64 0), .val (.int .i64 0), .val (.int .i64 0), .val (.int .i64 0)]) .nil .nil))
 (.node 60 (.mk 3 40 true (.struct [(0, 3), (1, 3), (2, 27)]) [.val (.int .i64 0), .val (.int .i64 0), .val (.slice none 0 0)]) (.node 59 (.mk 3 40 true (.struct [(0, 3), (1, 3), (2, 27)]) [.val (.int .i64 0), .val (.int .i64 0), .val (.slice none 0 0)]) .nil .nil) .nil))
 (.node 64 (.mk 2 48 true (.struct [(0, 62), (1, 63)]) [.val (.slice none 0 0), .val (.slice none 0 0)]) (.node 63 (.mk 1 24 false (.slice 27) [.val (.slice none 0 0)]) (.node 62 (.mk 1 24 false (.slice 9) [.val (.slice none 0 0)]) .nil .nil) .nil)
 (.node 66 (.mk 1 24 false (.slice 156) [.val (.slice none 0 0)]) (.node 65 (.mk 2 48 true (.struct [(0, 62), (1, 63)]) [.val (.slice none 0 0), .val (.slice none 0 0)]) .nil .nil) .nil)))
 (.node 74 (.mk 5 88 true (.struct [(0, 9), (1, 9), (2, 3), (3, 62), (4, 72)]) [.val (.string (⟨#[]⟩)), .val (.string (⟨#[]⟩)), .val (.int .i64 0), .val (.slice none 0 0), .val (.slice none 0 0)]) (.node 71 (.mk 14 240 true (.struct [(0, 58), (4, 60), (7, 61), (8, 65), (10, 66), (11, 67), (12, 68), (13, 69)]) [.val (.int .i64 0), .val (.int .i64 0), .val (.int .i64 0), .val (.int .i64 0), .val (.int .i64 0), .val (.int .i64 0), .val (.slice none 0 0), .val (.slice none 0 0), .val (.slice none 0 0), .val (.slice none 0 0), .val (.slice none 0 0), .val (.slice none 0 0), .val (.slice none 0 0), .val (.slice none 0 0)]) (.node 69 (.mk 1 24 false (.slice 135) [.val (.slice none 0 0)]) (.node 68 (.mk 1 24 false (.slice 130) [.val (.slice none 0 0)]) .nil .nil)
 (.node 70 (.mk 14 240 true (.struct [(0, 58), (4, 60), (7, 61), (8, 65), (10, 66), (11, 67), (12, 68), (13, 69)]) [.val (.int .i64 0), .val (.int .i64 0), .val (.int .i64 0), .val (.int .i64 0), .val (.int .i64 0), .val (.int .i64 0), .val (.slice none 0 0), .val (.slice none 0 0), .val (.slice none 0 0), .val (.slice none 0 0), .val (.slice none 0 0), .val (.slice none 0 0), .val (.slice none 0 0), .val (.slice none 0 0)]) .nil .nil))
 (.node 73 (.mk 5 88 true (.struct [(0, 9), (1, 9), (2, 3), (3, 62), (4, 72)]) [.val (.string (⟨#[]⟩)), .val (.string (⟨#[]⟩)), .val (.int .i64 0), .val (.slice none 0 0), .val (.slice none 0 0)]) (.node 72 (.mk 1 24 false (.slice 48) [.val (.slice none 0 0)]) .nil .nil) .nil))
 (.node 77 (.mk 9 160 true (.struct [(0, 9), (1, 9), (2, 9), (3, 3), (4, 27), (5, 3), (6, 62), (7, 62), (8, 76)]) [.val (.string (⟨#[]⟩)), .val (.string (⟨#[]⟩)), .val (.string (⟨#[]⟩)), .val (.int .i64 0), .val (.slice none 0 0), .val (.int .i64 0), .val (.slice none 0 0), .val (.slice none 0 0), .val (.slice none 0 0)]) (.node 76 (.mk 1 24 false (.slice 191) [.val (.slice none 0 0)]) (.node 75 (.mk 1 24 false (.slice 5) [.val (.slice none 0 0)]) .nil .nil) .nil)
 (.node 80 (.mk 1 8 false .func [.val .nilFunc]) (.node 78 (.mk 9 160 true (.struct [(0, 9), (1, 9), (2, 9), (3, 3), (4, 27), (5, 3), (6, 62), (7, 62), (8, 76)]) [.val (.string (⟨#[]⟩)), .val (.string (⟨#[]⟩)), .val (.string (⟨#[]⟩)), .val (.int .i64 0), .val (.slice none 0 0), .val (.int .i64 0), .val (.slice none 0 0), .val (.slice none 0 0), .val (.slice none 0 0)]) .nil .nil) .nil))))
 (.node 94 (.mk 1 8 false .func [.val .nilFunc]) (.node 88 (.mk 1 8 false .func [.val .nilFunc]) (.node 85 (.mk 1 8 false .func [.val .nilFunc]) (.node 83 (.mk 1 8 false .func [.val .nilFunc]) (.node 82 (.mk 4 48 true (.struct [(0, 3), (1, 3), (2, 3), (3, 27)]) [.val (.int .i64 0), .val (.int .i64 0), .val (.int .i64 0), .val (.slice none 0 0)]) .nil .nil)
 (.node 84 (.mk 1 8 false .func [.val .nilFunc]) .nil .nil))
 (.node 87 (.mk 1 8 false .func [.val .nilFunc]) (.node 86 (.mk 1 8 false .func [.val .nilFunc]) .nil .nil) .nil))
 (.node 91 (.mk 4 48 true (.struct [(0, 3), (1, 89), (2, 3), (3, 3)]) [.val (.int .i64 0), .val (.slice none 0 0), .val (.int .i64 0), .val (.int .i64 0)]) (.node 90 (.mk 4 48 true (.struct [(0, 3), (1, 89), (2, 3), (3, 3)]) [.val (.int .i64 0), .val (.slice none 0 0), .val (.int .i64 0), .val (.int .i64 0)]) (.node 89 (.mk 1 24 false (.slice 105) [.val (.slice none 0 0)]) .nil .nil) .nil)
 (.node 93 (.mk 1 8 false .func [.val .nilFunc]) (.node 92 (.mk 1 8 false .func [.val .nilFunc]) .nil .nil) .nil)))
 (.node 101 (.mk 2 32 true (.struct [(0, 27), (1, 3)]) [.val (.slice none 0 0), .val (.int .i64 0)]) (.node 98 (.mk 1 8 false .func [.val .nilFunc]) (.node 96 (.mk 2 16 true (.struct [(0, 3), (1, 3)]) [.val (.int .i64 0), .val (.int .i64 0)]) (.node 95 (.mk 2 16 true (.struct [(0, 3), (1, 3)]) [.val (.int .i64 0), .val (.int .i64 0)]) .nil .nil)
 (.node 97 (.mk 1 8 false .func [.val .nilFunc]) .nil .nil))
 (.node 100 (.mk 2 32 true (.struct [(0, 27), (1, 3)]) [.val (.slice none 0 0), .val (.int .i64 0)]) (.node 99 (.mk 1 8 false .func [.val .nilFunc]) .nil .nil) .nil))
 (.node 104 (.mk 3 24 true (.struct [(0, 3), (1, 3), (2, 3)]) [.val (.int .i64 0), .val (.int .i64 0), .val (.int .i64 0)]) (.node 103 (.mk 1 8 false .func [.val .nilFunc]) (.node 102 (.mk 1 8 false .func [.val .nilFunc]) .nil .nil) .nil)
 (.node 106 (.mk 1 8 false .func [.val .nilFunc]) (.node 105 (.mk 3 24 true (.struct [(0, 3), (1, 3), (2, 3)]) [.val (.int .i64 0), .val (.int .i64 0), .val (.int .i64 0)]) .nil .nil) .nil))))))
 (.node 159 (.mk 1 8 false .func [.val .nilFunc]) (.node 133 (.mk 1 8 false .func [.val .nilFunc]) (.node 120 (.mk 1 8 false .func [.val .nilFunc]) (.node 114 (.mk 1 8 false .func [.val .nilFunc]) (.node 111 (.mk 1 8 false .func [.val .nilFunc]) (.node 109 (.mk 1 8 false .func [.val .nilFunc]) (.node 108 (.mk 1 8 false .func [.val .nilFunc]) .nil .nil)
 (.node 110 (.mk 1 8 false .func [.val .nilFunc]) .nil .nil))
 (.node 113 (.mk 1 8 false .func [.val .nilFunc]) (.node 112 (.mk 1 8 false .func [.val .nilFunc]) .nil .nil) .nil))
 (.node 117 (.mk 1 8 false .func [.val .nilFunc]) (.node 116 (.mk 1 8 false .func [.val .nilFunc]) (.node 115 (.mk 1 8 false .func [.val .nilFunc]) .nil .nil) .nil)
 (.node 119 (.mk 1 8 false .func [.val .nilFunc]) (.node 118 (.mk 1 8 false .func [.val .nilFunc]) .nil .nil) .nil)))
 (.node 127 (.mk 1 8 false .func [.val .nilFunc]) (.node 124 (.mk 1 24 false (.slice 116) [.val (.slice none 0 0)]) (.node 122 (.mk 1 8 false .func [.val .nilFunc]) (.node 121 (.mk 1 8 false .func [.val .nilFunc]) .nil .nil)
 (.node 123 (.mk 1 8 false .func [.val .nilFunc]) .nil .nil))
 (.node 126 (.mk 1 8 false .func [.val .nilFunc]) (.node 125 (.mk 1 8 false .func [.val .nilFunc]) .nil .nil) .nil))
 (.node 130 (.mk 2 40 true (.struct [(0, 9), (1, 62)]) [.val (.string (⟨#[]⟩)), .val (.slice none 0 0)]) (.node 129 (.mk 2 40 true (.struct [(0, 9), (1, 62)]) [.val (.string (⟨#[]⟩)), .val (.slice none 0 0)]) (.node 128 (.mk 1 8 false .func [.val .nilFunc]) .nil .nil) .nil)
 (.node 132 (.mk 1 8 false .func [.val .nilFunc]) (.node 131 (.mk 1 8 false .func [.val .nilFunc]) .nil .nil) .nil))))
 (.node 146 (.mk 1 8 false .func [.val .nilFunc]) (.node 140 (.mk 1 8 false .func [.val .nilFunc]) (.node 137 (.mk 1 8 false .func [.val .nilFunc]) (.node 135 (.mk 4 64 true (.struct [(0, 9), (1, 9), (2, 3), (3, 62)]) [.val (.string (⟨#[]⟩)), .val (.string (⟨#[]⟩)), .val (.int .i64 0), .val (.slice none 0 0)]) (.node 134 (.mk 4 64 true (.struct [(0, 9), (1, 9), (2, 3), (3, 62)]) [.val (.string (⟨#[]⟩)), .val (.string (⟨#[]⟩)), .val (.int .i64 0), .val (.slice none 0 0)]) .nil .nil)
 (.node 136 (.mk 1 8 false .func [.val .nilFunc]) .nil .nil))
 (.node 139 (.mk 1 8 false .func [.val .nilFunc]) (.node 138 (.mk 1 8 false .func [.val .nilFunc]) .nil .nil) .nil))
 (.node 143 (.mk 1 8 false .func [.val .nilFunc]) (.node 142 (.mk 1 8 false .func [.val .nilFunc]) (.node 141 (.mk 1 8 false .func [.val .nilFunc]) .nil .nil) .nil)
 (.node 145 (.mk 1 8 false .func [.val .nilFunc]) (.node 144 (.mk 1 8 false .func [.val .nilFunc]) .nil .nil) .nil)))
 (.node 153 (.mk 1 8 false .func [.val .nilFunc]) (.node 150 (.mk 1 8 false .func [.val .nilFunc]) (.node 148 (.mk 1 8 false .func [.val .nilFunc]) (.node 147 (.mk 1 8 false .func [.val .nilFunc]) .nil .nil)
 (.node 149 (.mk 1 8 false .func [.val .nilFunc]) .nil .nil))
 (.node 152 (.mk 1 8 false .func [.val .nilFunc]) (.node 151 (.mk 1 8 false (.map 9 4) [.val (.map none)]) .nil .nil) .nil))
 (.node 156 (.mk 2 40 true (.struct [(0, 9), (1, 72)]) [.val (.string (⟨#[]⟩)), .val (.slice none 0 0)]) (.node 155 (.mk 2 40 true (.struct [(0, 9), (1, 72)]) [.val (.string (⟨#[]⟩)), .val (.slice none 0 0)]) (.node 154 (.mk 1 8 false .func [.val .nilFunc]) .nil .nil) .nil)
 (.node 158 (.mk 1 8 false .func [.val .nilFunc]) (.node 157 (.mk 1 8 false .func [.val .nilFunc]) .nil .nil) .nil)))))
 (.node 186 (.mk 1 8 false .func [.val .nilFunc]) (.node 172 (.mk 1 8 false .func [.val .nilFunc]) (.node 166 (.mk 1 8 false .func [.val .nilFunc]) (.node 163 (.mk 1 8 false .func [.val .nilFunc]) (.node 161 (.mk 1 8 false (.map 9 3) [.val (.map none)]) (.node 160 (.mk 1 8 false .func [.val .nilFunc]) .nil .nil)
 (.node 162 (.mk 1 8 false .func [.val .nilFunc]) .nil .nil))
 (.node 165 (.mk 1 8 false .func [.val .nilFunc]) (.node 164 (.mk 1 8 false .func [.val .nilFunc]) .nil .nil) .nil))
 (.node 169 (.mk 1 8 false .func [.val .nilFunc]) (.node 168 (.mk 1 8 false .func [.val .nilFunc]) (.node 167 (.mk 1 8 false .func [.val .nilFunc]) .nil .nil) .nil)
 (.node 171 (.mk 1 8 false .func [.val .nilFunc]) (.node 170 (.mk 1 8 false .func [.val .nilFunc]) .nil .nil) .nil)))
 (.node 180 (.mk 1 8 false .func [.val .nilFunc]) (.node 176 (.mk 1 8 false .func [.val .nilFunc]) (.node 174 (.mk 1 8 false .func [.val .nilFunc]) (.node 173 (.mk 1 8 false .func [.val .nilFunc]) .nil .nil)
 (.node 175 (.mk 1 8 false .func [.val .nilFunc]) .nil .nil))
 (.node 179 (.mk 1 8 false .func [.val .nilFunc]) (.node 178 (.mk 1 8 false .func [.val .nilFunc]) .nil .nil) .nil))
 (.node 183 (.mk 1 8 false .func [.val .nilFunc]) (.node 182 (.mk 1 8 false .func [.val .nilFunc]) (.node 181 (.mk 1 8 false .func [.val .nilFunc]) .nil .nil) .nil)
 (.node 185 (.mk 1 8 false .func [.val .nilFunc]) (.node 184 (.mk 1 8 false .func [.val .nilFunc]) .nil .nil) .nil))))
 (.node 199 (.mk 0 0 true (.array 0 16) []) (.node 193 (.mk 1 8 false .func [.val .nilFunc]) (.node 190 (.mk 2 16 true (.struct [(0, 3), (1, 3)]) [.val (.int .i64 0), .val (.int .i64 0)]) (.node 188 (.mk 1 8 false .func [.val .nilFunc]) (.node 187 (.mk 1 8 false .func [.val .nilFunc]) .nil .nil)
 (.node 189 (.mk 1 8 false .func [.val .nilFunc]) .nil .nil))
 (.node 192 (.mk 1 8 false .func [.val .nilFunc]) (.node 191 (.mk 2 16 true (.struct [(0, 3), (1, 3)]) [.val (.int .i64 0), .val (.int .i64 0)]) .nil .nil) .nil))
 (.node 196 (.mk 1 8 false .func [.val .nilFunc]) (.node 195 (.mk 1 8 false .func [.val .nilFunc]) (.node 194 (.mk 1 8 false .func [.val .nilFunc]) .nil .nil) .nil)
 (.node 198 (.mk 4 40 true (.struct [(0, 17), (1, 17), (2, 17), (3, 9)]) [.val (.pointer none), .val (.pointer none), .val (.pointer none), .val (.string (⟨#[]⟩))]) (.node 197 (.mk 4 40 true (.struct [(0, 17), (1, 17), (2, 17), (3, 9)]) [.val (.pointer none), .val (.pointer none), .val (.pointer none), .val (.string (⟨#[]⟩))]) .nil .nil) .nil)))
 (.node 206 (.mk 1 8 false (.ptr 5) [.val (.pointer none)]) (.node 203 (.mk 1 1 false (.int .u8) [.val (.int .u8 0)]) (.node 201 (.mk 0 0 true (.struct [(0, 199)]) []) (.node 200 (.mk 0 0 true (.struct [(0, 199)]) []) .nil .nil)
 (.node 202 (.mk 1 4 false (.int .u32) [.val (.int .u32 0)]) .nil .nil))
 (.node 205 (.mk 1 8 false .func [.val .nilFunc]) (.node 204 (.mk 1 1 false (.int .u8) [.val (.int .u8 0)]) .nil .nil) .nil))
 (.node 209 (.mk 11 48 true (.struct [(0, 12), (1, 12), (2, 202), (3, 203), (4, 5), (5, 5), (6, 204), (7, 205), (8, 206), (9, 207), (10, 208)]) [.val (.int .u64 0), .val (.int .u64 0), .val (.int .u32 0), .val (.int .u8 0), .val (.int .u8 0), .val (.int .u8 0), .val (.int .u8 0), .val .nilFunc, .val (.pointer none), .val (.int .i32 0), .val (.int .i32 0)]) (.node 208 (.mk 1 4 false (.int .i32) [.val (.int .i32 0)]) (.node 207 (.mk 1 4 false (.int .i32) [.val (.int .i32 0)]) .nil .nil) .nil)
 (.node 211 (.mk 1 8 false .other [.val (.pointer none)]) (.node 210 (.mk 11 48 true (.struct [(0, 12), (1, 12), (2, 202), (3, 203), (4, 5), (5, 5), (6, 204), (7, 205), (8, 206), (9, 207), (10, 208)]) [.val (.int .u64 0), .val (.int .u64 0), .val (.int .u32 0), .val (.int .u8 0), .val (.int .u8 0), .val (.int .u8 0), .val (.int .u8 0), .val .nilFunc, .val (.pointer none), .val (.int .i32 0), .val (.int .i32 0)]) .nil .nil) .nil)))))), [7, 8, 25, 26, 47, 48, 49, 50, 52, 53, 57, 58, 59, 60, 64, 65, 70, 71, 73, 74, 77, 78, 81, 82, 90, 91, 95, 96, 100, 101, 104, 105, 129, 130, 134, 135, 155, 156, 190, 191]⟩

theorem tok : TabOk Tryz.prog T := TabOk.of_eq (by kernel_rfl) (by kernel_rfl)

noncomputable def fd (f : Func) : FnD := ⟨f.ntmps, f.body.getD .skip, f.results.toList⟩
noncomputable def F : FTab := .node 80 (fd Tryz.f80) (.node 41 (fd Tryz.f41) (.node 22 (fd Tryz.f22) (.node 12 (fd Tryz.f12) (.node 7 (fd Tryz.f7) (.node 5 (fd Tryz.f5) (.node 4 (fd Tryz.f4) (.node 3 (fd Tryz.f3) .nil .nil) .nil)
 (.node 6 (fd Tryz.f6) .nil .nil))
 (.node 10 (fd Tryz.f10) (.node 9 (fd Tryz.f9) (.node 8 (fd Tryz.f8) .nil .nil) .nil)
 (.node 11 (fd Tryz.f11) .nil .nil)))
 (.node 17 (fd Tryz.f17) (.node 15 (fd Tryz.f15) (.node 14 (fd Tryz.f14) (.node 13 (fd Tryz.f13) .nil .nil) .nil)
 (.node 16 (fd Tryz.f16) .nil .nil))
 (.node 20 (fd Tryz.f20) (.node 19 (fd Tryz.f19) (.node 18 (fd Tryz.f18) .nil .nil) .nil)
 (.node 21 (fd Tryz.f21) .nil .nil))))
 (.node 32 (fd Tryz.f32) (.node 27 (fd Tryz.f27) (.node 25 (fd Tryz.f25) (.node 24 (fd Tryz.f24) (.node 23 (fd Tryz.f23) .nil .nil) .nil)
 (.node 26 (fd Tryz.f26) .nil .nil))
 (.node 30 (fd Tryz.f30) (.node 29 (fd Tryz.f29) (.node 28 (fd Tryz.f28) .nil .nil) .nil)
 (.node 31 (fd Tryz.f31) .nil .nil)))
 (.node 37 (fd Tryz.f37) (.node 35 (fd Tryz.f35) (.node 34 (fd Tryz.f34) (.node 33 (fd Tryz.f33) .nil .nil) .nil)
 (.node 36 (fd Tryz.f36) .nil .nil))
 (.node 39 (fd Tryz.f39) (.node 38 (fd Tryz.f38) .nil .nil)
 (.node 40 (fd Tryz.f40) .nil .nil)))))
 (.node 61 (fd Tryz.f61) (.node 51 (fd Tryz.f51) (.node 46 (fd Tryz.f46) (.node 44 (fd Tryz.f44) (.node 43 (fd Tryz.f43) (.node 42 (fd Tryz.f42) .nil .nil) .nil)
 (.node 45 (fd Tryz.f45) .nil .nil))
 (.node 49 (fd Tryz.f49) (.node 48 (fd Tryz.f48) (.node 47 (fd Tryz.f47) .nil .nil) .nil)
 (.node 50 (fd Tryz.f50) .nil .nil)))
 (.node 56 (fd Tryz.f56) (.node 54 (fd Tryz.f54) (.node 53 (fd Tryz.f53) (.node 52 (fd Tryz.f52) .nil .nil) .nil)
 (.node 55 (fd Tryz.f55) .nil .nil))
 (.node 59 (fd Tryz.f59) (.node 58 (fd Tryz.f58) (.node 57 (fd Tryz.f57) .nil .nil) .nil)
 (.node 60 (fd Tryz.f60) .nil .nil))))
 (.node 71 (fd Tryz.f71) (.node 66 (fd Tryz.f66) (.node 64 (fd Tryz.f64) (.node 63 (fd Tryz.f63) (.node 62 (fd Tryz.f62) .nil .nil) .nil)
 (.node 65 (fd Tryz.f65) .nil .nil))
 (.node 69 (fd Tryz.f69) (.node 68 (fd Tryz.f68) (.node 67 (fd Tryz.f67) .nil .nil) .nil)
 (.node 70 (fd Tryz.f70) .nil .nil)))
 (.node 76 (fd Tryz.f76) (.node 74 (fd Tryz.f74) (.node 73 (fd Tryz.f73) (.node 72 (fd Tryz.f72) .nil .nil) .nil)
 (.node 75 (fd Tryz.f75) .nil .nil))
 (.node 78 (fd Tryz.f78) (.node 77 (fd Tryz.f77) .nil .nil)
 (.node 79 (fd Tryz.f79) .nil .nil))))))
 (.node 119 (fd Tryz.f119) (.node 100 (fd Tryz.f100) (.node 90 (fd Tryz.f90) (.node 85 (fd Tryz.f85) (.node 83 (fd Tryz.f83) (.node 82 (fd Tryz.f82) (.node 81 (fd Tryz.f81) .nil .nil) .nil)
 (.node 84 (fd Tryz.f84) .nil .nil))
 (.node 88 (fd Tryz.f88) (.node 87 (fd Tryz.f87) (.node 86 (fd Tryz.f86) .nil .nil) .nil)
 (.node 89 (fd Tryz.f89) .nil .nil)))
 (.node 95 (fd Tryz.f95) (.node 93 (fd Tryz.f93) (.node 92 (fd Tryz.f92) (.node 91 (fd Tryz.f91) .nil .nil) .nil)
 (.node 94 (fd Tryz.f94) .nil .nil))
 (.node 98 (fd Tryz.f98) (.node 97 (fd Tryz.f97) (.node 96 (fd Tryz.f96) .nil .nil) .nil)
 (.node 99 (fd Tryz.f99) .nil .nil))))
 (.node 110 (fd Tryz.f110) (.node 105 (fd Tryz.f105) (.node 103 (fd Tryz.f103) (.node 102 (fd Tryz.f102) (.node 101 (fd Tryz.f101) .nil .nil) .nil)
 (.node 104 (fd Tryz.f104) .nil .nil))
 (.node 108 (fd Tryz.f108) (.node 107 (fd Tryz.f107) (.node 106 (fd Tryz.f106) .nil .nil) .nil)
 (.node 109 (fd Tryz.f109) .nil .nil)))
 (.node 115 (fd Tryz.f115) (.node 113 (fd Tryz.f113) (.node 112 (fd Tryz.f112) (.node 111 (fd Tryz.f111) .nil .nil) .nil)
 (.node 114 (fd Tryz.f114) .nil .nil))
 (.node 117 (fd Tryz.f117) (.node 116 (fd Tryz.f116) .nil .nil)
 (.node 118 (fd Tryz.f118) .nil .nil)))))
 (.node 138 (fd Tryz.f138) (.node 129 (fd Tryz.f129) (.node 124 (fd Tryz.f124) (.node 122 (fd Tryz.f122) (.node 121 (fd Tryz.f121) (.node 120 (fd Tryz.f120) .nil .nil) .nil)
 (.node 123 (fd Tryz.f123) .nil .nil))
 (.node 127 (fd Tryz.f127) (.node 126 (fd Tryz.f126) (.node 125 (fd Tryz.f125) .nil .nil) .nil)
 (.node 128 (fd Tryz.f128) .nil .nil)))
 (.node 134 (fd Tryz.f134) (.node 132 (fd Tryz.f132) (.node 131 (fd Tryz.f131) (.node 130 (fd Tryz.f130) .nil .nil) .nil)
 (.node 133 (fd Tryz.f133) .nil .nil))
 (.node 136 (fd Tryz.f136) (.node 135 (fd Tryz.f135) .nil .nil)
 (.node 137 (fd Tryz.f137) .nil .nil))))
 (.node 148 (fd Tryz.f148) (.node 143 (fd Tryz.f143) (.node 141 (fd Tryz.f141) (.node 140 (fd Tryz.f140) (.node 139 (fd Tryz.f139) .nil .nil) .nil)
 (.node 142 (fd Tryz.f142) .nil .nil))
 (.node 146 (fd Tryz.f146) (.node 145 (fd Tryz.f145) (.node 144 (fd Tryz.f144) .nil .nil) .nil)
 (.node 147 (fd Tryz.f147) .nil .nil)))
 (.node 153 (fd Tryz.f153) (.node 151 (fd Tryz.f151) (.node 150 (fd Tryz.f150) (.node 149 (fd Tryz.f149) .nil .nil) .nil)
 (.node 152 (fd Tryz.f152) .nil .nil))
 (.node 155 (fd Tryz.f155) (.node 154 (fd Tryz.f154) .nil .nil)
 (.node 156 (fd Tryz.f156) .nil .nil))))))
theorem fok : FTabOk Tryz.prog F := FTabOk.of_eq (by kernel_rfl)
theorem mixed : Tryz.prog.follows .mixedOrders = true := by kernel_rfl

end Go.Proofs.YtfdjcpodkhpgcaaGreat.Cw

/-
  Data of the program, as lists of cells.
-/
namespace Go.Proofs.YtfdjcpodkhpgcaaGreat.Cw
open Go.Cw Go.Proofs
set_option linter.unusedVariables false

abbrev Str := ByteArray
def ei (n : Int) : PV := .val (.int .i64 n)
def es (s : Str) : PV := .val (.string s)
def encStrs (l : List Str) : PV := .sl 1 (l.map fun s => [es s])
def encInts (l : List Int) : PV := .sl 1 (l.map fun x => [ei x])

structure Time where
  (weeks day start len : Int)
def Time.row (t : Time) : List PV := [ei t.weeks, ei t.day, ei t.start, ei t.len]
def encTimes (l : List Time) : PV := .sl 4 (l.map Time.row)

structure Grid where
  (days slots begin_ mins : Int)
def Grid.row (g : Grid) : List PV := [ei g.days, ei g.slots, ei g.begin_, ei g.mins]

structure Room where
  (code bld : Str)
  (seats : Int)
  (feats : List Str)
  (closed : List Time)
def Room.row (r : Room) : List PV := [es r.code, es r.bld, ei r.seats, encStrs r.feats, encTimes r.closed]
def encRooms (l : List Room) : PV := .sl 5 (l.map Room.row)

structure Exam where
  (code : Str)
  (len : Int)
  (feats studs : List Str)
def Exam.row (e : Exam) : List PV := [es e.code, ei e.len, encStrs e.feats, encStrs e.studs]
structure Sitting where
  (day start len cost : Int)
def Sitting.row (s : Sitting) : List PV := [ei s.day, ei s.start, ei s.len, ei s.cost]
structure Gaps where
  (row day near days mixed : Int)
structure Exams where
  (rooms : List Room)
  (exams : List Exam)
  (sits : List Sitting)
  (gaps : Gaps)
def Exams.cells (x : Exams) : List PV := [encRooms x.rooms, .sl 4 (x.exams.map Exam.row), .sl 4 (x.sits.map Sitting.row), ei x.gaps.row, ei x.gaps.day, ei x.gaps.near, ei x.gaps.days, ei x.gaps.mixed]
abbrev ag (l : List PV) : AV := .agg (pvs l)
end Go.Proofs.YtfdjcpodkhpgcaaGreat.Cw

/-
  Words for what functions answer.
-/
namespace Go.Proofs.YtfdjcpodkhpgcaaGreat.Cw
open Go.Cw Go.Proofs
set_option linter.unusedVariables false

noncomputable abbrev pB (p : Prop) : Bool := @decide p (Classical.propDecidable p)
theorem pB_t {p : Prop} (h : p) : pB p = true := by simp [h]
theorem pB_f {p : Prop} (h : ¬ p) : pB p = false := by simp [h]
theorem pB_iff {p q : Prop} (h : p ↔ q) : pB p = pB q := by simp [h]
theorem pB_eq {p : Prop} {b : Bool} (h : b = true ↔ p) : b = pB p := by
  cases b <;> simp at h <;> simp [h]

/-- The first answer that is not 0. -/
def firstE (f : Nat → Int) : Nat → Int
  | 0 => 0
  | n + 1 => if firstE f n = 0 then f n else firstE f n

theorem firstE_zero {f : Nat → Int} : ∀ {n : Nat}, (∀ i, i < n → f i = 0) → firstE f n = 0
  | 0, _ => rfl
  | n + 1, h => by simp [firstE, firstE_zero (n := n) fun i hi => h i (by omega), h n (by omega)]

theorem firstE_at {f : Nat → Int} {i : Nat} (h0 : ∀ j, j < i → f j = 0) (hi : f i ≠ 0) : ∀ {n : Nat}, i < n → firstE f n = f i
  | 0, h => by omega
  | n + 1, h => by
    rcases Nat.lt_or_ge i n with h1 | h1
    · rw [firstE, firstE_at h0 hi h1, if_neg hi]
    · have : i = n := by omega
      subst this
      rw [firstE, firstE_zero h0, if_pos rfl]

theorem firstE_zero_iff {f : Nat → Int} : ∀ {n : Nat}, firstE f n = 0 ↔ ∀ i, i < n → f i = 0
  | 0 => by simp [firstE]
  | n + 1 => by
    refine ⟨fun h i hi => ?_, firstE_zero⟩
    simp only [firstE] at h
    split at h
    · rename_i h0
      rcases Nat.lt_or_ge i n with h1 | h1
      · exact firstE_zero_iff.1 h0 i h1
      · have : i = n := by omega
        subst this; exact h
    · rename_i h0; exact absurd h h0

theorem all_lt_succ {p : Nat → Prop} {i : Nat} (h : ∀ j, j < i → p j) (hi : p i) : ∀ j, j < i + 1 → p j := fun j hj => by
  rcases Nat.lt_or_ge j i with h1 | h1
  · exact h j h1
  · have : j = i := by omega
    subst this; exact hi

/-- A byte of a string. -/
theorem str_get (s : Str) (i : Nat) : s[i]? = (bts s)[i]? := by
  rcases Nat.lt_or_ge i s.size with h | h
  · rw [ByteArray.getElem?_lt' s _ h]
    have : i < (bts s).length := by simpa [bts] using h
    rw [List.getElem?_eq_getElem this]; rfl
  · rw [ByteArray.getElem?_ge' s _ (by omega)]
    rw [List.getElem?_eq_none (by simpa [bts] using h)]

theorem str_at {s : Str} {i : Nat} (h : i < s.size) : ∃ b, s[i]? = some b := ⟨_, by rw [ByteArray.getElem?_lt' s _ h]⟩
theorem sEq_iff {x y : Str} : sEq x y = true ↔ x = y := by
  unfold sEq bts
  rw [beq_iff_eq, Array.toList_inj]
  exact ⟨fun h => ByteArray.ext h, fun h => by rw [h]⟩
theorem sEq_f {x y : Str} : sEq x y = false ↔ x ≠ y := by
  rw [← Bool.not_eq_true, sEq_iff]
theorem mulw {a b : Int} (ha : 0 ≤ a ∧ a ≤ 1000000) (hb : 0 ≤ b ∧ b ≤ 1000000) : 0 ≤ a * b ∧ a * b ≤ 1000000000000 :=
  ⟨Int.mul_nonneg ha.1 hb.1, Int.le_trans (Int.mul_le_mul ha.2 hb.2 hb.1 (by omega)) (by omega)⟩
theorem eqv_mul {a b : Int} {K : Int → Prop} (ha : 0 ≤ a ∧ a ≤ 1000000) (hb : 0 ≤ b ∧ b ≤ 1000000) (h : 0 ≤ a * b → a * b ≤ 1000000000000 → K (a * b)) : eqv (IntKind.i64.wrap (a * b)) K :=
  eqv_wrap (by have := mulw ha hb; omega) (by have := mulw ha hb; omega) (h (mulw ha hb).1 (mulw ha hb).2)

theorem pow2_pos (n : Nat) : (1 : Int) ≤ 2 ^ n := by
  induction n with
  | zero => simp
  | succ n ih => rw [Int.pow_succ]; omega
theorem pow2_le {n : Nat} (h : n ≤ 40) : (2 : Int) ^ n ≤ 1099511627776 := by
  have h1 : (2 : Nat) ^ n ≤ 2 ^ 40 := Nat.pow_le_pow_right (by omega) h
  have h2 : ((2 ^ n : Nat) : Int) = (2 : Int) ^ n := by simp
  have h3 : (2 : Nat) ^ 40 = 1099511627776 := by decide
  omega
theorem eqv_shl {n : Int} {K : Int → Prop} (h : 0 ≤ n ∧ n ≤ 40) (hk : K (2 ^ n.toNat)) : eqv (IntKind.i64.wrap (1 * 2 ^ (min n.toNat IntKind.i64.bits))) K := by
  have e : min n.toNat IntKind.i64.bits = n.toNat := by simp [IntKind.bits]; omega
  rw [e, Int.one_mul]
  have h1 := pow2_pos n.toNat
  have h2 := pow2_le (n := n.toNat) (by omega)
  exact eqv_wrap (by omega) (by omega) hk
theorem eqv_u64 {x : Int} {K : Int → Prop} (h1 : 0 ≤ x) (h2 : x < 18446744073709551616) (h : K x) : eqv (IntKind.u64.wrap x) K :=
  ⟨x, by simp only [IntKind.wrap, IntKind.bits, IntKind.signed]; first | omega | (simp; omega), h⟩
theorem eqv_u8 {x : Int} {K : Int → Prop} (h1 : 0 ≤ x) (h2 : x < 256) (h : K x) : eqv (IntKind.u8.wrap x) K :=
  ⟨x, by simp only [IntKind.wrap, IntKind.bits, IntKind.signed]; first | omega | (simp; omega), h⟩
/-- Where the first one is; -1: nowhere. -/
def idxB {α : Type} (p : α → Bool) (l : List α) : Int := match l.findIdx? p with
  | some i => i
  | none => -1

theorem idxB_at {α : Type} {p : α → Bool} {l : List α} {i : Nat} {x : α} (h0 : ∀ j, j < i → ∀ y, l[j]? = some y → p y = false) (hx : l[i]? = some x) (hp : p x = true) : idxB p l = i := by
  have hi := (List.getElem?_eq_some_iff.1 hx).1
  have : l.findIdx? p = some i := by
    rw [List.findIdx?_eq_some_iff_getElem]
    refine ⟨hi, ?_, fun j hj => ?_⟩
    · rw [(List.getElem?_eq_some_iff.1 hx).2]; exact hp
    · have := h0 j hj l[j] (List.getElem?_eq_getElem (by omega))
      simp [this]
  simp [idxB, this]
theorem idxB_none {α : Type} {p : α → Bool} {l : List α} (h : ∀ j, j < l.length → ∀ y, l[j]? = some y → p y = false) : idxB p l = -1 := by
  have : l.findIdx? p = none := by
    rw [List.findIdx?_eq_none_iff]
    intro x hx
    obtain ⟨i, hi, rfl⟩ := List.getElem_of_mem hx
    exact h i hi _ (List.getElem?_eq_getElem hi)
  simp [idxB, this]
theorem idxB_any {α : Type} {p : α → Bool} {l : List α} : decide (idxB p l ≥ 0) = l.any p := by
  unfold idxB
  split
  · rename_i i hi
    have := List.findIdx?_eq_some_iff_getElem.1 hi
    obtain ⟨h1, h2, _⟩ := this
    rw [List.any_eq_true.2 ⟨_, List.getElem_mem h1, h2⟩]
    simp
  · rename_i hi
    rw [List.findIdx?_eq_none_iff] at hi
    have : l.any p = false := List.any_eq_false.2 fun x hx => by simp [hi x hx]
    rw [this]; rfl
end Go.Proofs.YtfdjcpodkhpgcaaGreat.Cw

/-
  Models: their data, and what a valid one is.
-/
namespace Go.Proofs.YtfdjcpodkhpgcaaGreat.Cw
open Go.Cw Go.Proofs
set_option linter.unusedVariables false
set_option maxRecDepth 100000

structure Placed where
  (time : Time)
  (room : Int)
def Placed.row (p : Placed) : List PV := [ei p.time.weeks, ei p.time.day, ei p.time.start, ei p.time.len, ei p.room]
structure Charge where
  (rule cost : Int)
def Charge.row (c : Charge) : List PV := [ei c.rule, ei c.cost]
structure Opt where
  (place : Placed)
  (charges : List Charge)
def Opt.row (o : Opt) : List PV := [ei o.place.time.weeks, ei o.place.time.day, ei o.place.time.start, ei o.place.time.len, ei o.place.room, .sl 2 (o.charges.map Charge.row)]
structure Pair where
  (first second rule : Int)
  (table : List Int)
def Pair.row (p : Pair) : List PV := [ei p.first, ei p.second, ei p.rule, encInts p.table]
structure Load where
  (cls opt weight : Int)
def Load.row (l : Load) : List PV := [ei l.cls, ei l.opt, ei l.weight]
structure Count where
  (rule : Int)
  (loads : List Load)
  (most penalty : Int)
def Count.row (c : Count) : List PV := [ei c.rule, .sl 3 (c.loads.map Load.row), ei c.most, ei c.penalty]
structure Model where
  (classes : List (List Opt))
  (pairs : List Pair)
  (counts : List Count)
  (rules : Int)
def optsRow (l : List Opt) : List PV := [.sl 6 (l.map Opt.row)]
def Model.cells (m : Model) : List PV := [.sl 1 (m.classes.map optsRow), .sl 4 (m.pairs.map Pair.row), .sl 4 (m.counts.map Count.row), ei m.rules]

def BIG : Nat := 9223372036854775807
/-- Lists are no longer than lists can be. -/
structure Laid (m : Model) : Prop where
  cn : m.classes.length ≤ 9223372036854775807
  pn : m.pairs.length ≤ 9223372036854775807
  ch : ∀ l ∈ m.classes, ∀ o ∈ l, o.charges.length ≤ 9223372036854775807
  ld : ∀ c ∈ m.counts, c.loads.length ≤ 9223372036854775807

def priceP (n : Int) : Prop := (1 ≤ n ∧ n ≤ 1048576) ∨ n = 1099511627776
def ruleP (m : Model) (n : Int) : Prop := 0 ≤ n ∧ n < m.rules
def optionP (m : Model) (c o : Int) : Prop := 0 ≤ c ∧ 0 ≤ o ∧ ∃ l, m.classes[c.toNat]? = some l ∧ o < l.length
def sizedP (m : Model) : Prop := m.classes.length ≤ 24 ∧ (∀ l ∈ m.classes, l.length ≤ 24) ∧ m.pairs.length ≤ 4000 ∧ m.counts.length ≤ 800 ∧ 0 ≤ m.rules ∧ m.rules ≤ 56
def chargeAt (m : Model) (l : List Charge) (i : Nat) : Prop := ∀ c, l[i]? = some c → ruleP m c.rule ∧ priceP c.cost ∧ ∀ k b, i = k + 1 → l[k]? = some b → b.rule < c.rule
def chargesP (m : Model) (o : Opt) : Prop := ∀ i, i < o.charges.length → chargeAt m o.charges i
def pairP (m : Model) (p : Pair) : Prop := ruleP m p.rule ∧ 0 ≤ p.first ∧ p.first < p.second ∧ (∃ a b, m.classes[p.first.toNat]? = some a ∧ m.classes[p.second.toNat]? = some b ∧ p.table.length = a.length * b.length) ∧ ∀ n ∈ p.table, n = 0 ∨ priceP n
def pairLt (p q : Pair) : Prop := p.rule < q.rule ∨ (p.rule = q.rule ∧ (p.first < q.first ∨ (p.first = q.first ∧ p.second < q.second)))
def pairAt (m : Model) (i : Nat) : Prop := ∀ p, m.pairs[i]? = some p → pairP m p ∧ ∀ k q, i = k + 1 → m.pairs[k]? = some q → pairLt q p
def loadAt (m : Model) (l : List Load) (i : Nat) : Prop := ∀ x, l[i]? = some x → optionP m x.cls x.opt ∧ 1 ≤ x.weight ∧ x.weight ≤ 1000 ∧ ∀ k y, i = k + 1 → l[k]? = some y → y.cls < x.cls ∨ (y.cls = x.cls ∧ y.opt < x.opt)
def countP_ (m : Model) (c : Count) : Prop := ruleP m c.rule ∧ 0 ≤ c.most ∧ c.most ≤ 1048576 ∧ priceP c.penalty ∧ ∀ i, i < c.loads.length → loadAt m c.loads i
def goodP (m : Model) : Prop := (∀ l ∈ m.classes, ∀ o ∈ l, chargesP m o) ∧ (∀ i, i < m.pairs.length → pairAt m i) ∧ ∀ c ∈ m.counts, countP_ m c
noncomputable def modelE (m : Model) : Int := if pB (sizedP m) then (if pB (goodP m) then 0 else 1) else 2
theorem mE2 {m : Model} (h : ¬ sizedP m) : modelE m = 2 := by unfold modelE; rw [pB_f h]; rfl
theorem mE1 {m : Model} (h0 : sizedP m) (h : ¬ goodP m) : modelE m = 1 := by unfold modelE; rw [pB_t h0, pB_f h]; rfl
theorem mE0 {m : Model} (h0 : sizedP m) (h : goodP m) : modelE m = 0 := by unfold modelE; rw [pB_t h0, pB_t h]; rfl
end Go.Proofs.YtfdjcpodkhpgcaaGreat.Cw

/-
  Contracts: prices, rules, options of models.
-/
namespace Go.Proofs.YtfdjcpodkhpgcaaGreat.Cw
open Go.Cw Go.Proofs
set_option linter.unusedVariables false
set_option maxRecDepth 100000
set_option maxHeartbeats 800000

theorem c_cost (n : Int) : PCall Tryz.prog 51 [vint .i64 n] (fun r => r = vbool (pB (priceP n))) := by
  refine acall_of tok mixed 13 rfl (fn := Tryz.f51) (c := Tryz.f51.body.getD .skip) (by kernel_rfl) (by kernel_rfl) (by kernel_rfl) rfl 0 rfl ?_
  repeat' (first | refine o1 ?_ | refine o2 ?_ | refine k1 ?_ | refine k2 ?_ | refine k7 ?_ | refine And.intro ?_ ?_ | (intro h; first | exact Bool.noConfusion h | exact nz _ h | exact nl h | (simp at h; done) | (simp at h; first | (exfalso; omega) | skip) | skip) | (change retOk _ _ _ _; refine ret_pure rfl trivial ?_) | fail)
  all_goals (refine congrArg vbool (pB_eq ?_); unfold priceP; simp; omega)
theorem c_rcost (n : Int) : PCall Tryz.prog 37 [vint .i64 n] (fun r => r = vbool (pB (priceP n))) := by
  refine acall_of tok mixed 13 rfl (fn := Tryz.f37) (c := Tryz.f37.body.getD .skip) (by kernel_rfl) (by kernel_rfl) (by kernel_rfl) rfl 0 rfl ?_
  repeat' (first | refine o1 ?_ | refine o2 ?_ | refine k1 ?_ | refine k2 ?_ | refine k7 ?_ | refine And.intro ?_ ?_ | (intro h; first | exact Bool.noConfusion h | exact nz _ h | exact nl h | (simp at h; done) | (simp at h; first | (exfalso; omega) | skip) | skip) | (change retOk _ _ _ _; refine ret_pure rfl trivial ?_) | fail)
  all_goals (refine congrArg vbool (pB_eq ?_); unfold priceP; simp; omega)
theorem c_named (m : Model) (n : Int) : PCall Tryz.prog 50 [ag m.cells, vint .i64 n] (fun r => r = vbool (pB (ruleP m n))) := by
  refine acall_of tok mixed 13 rfl (fn := Tryz.f50) (c := Tryz.f50.body.getD .skip) (by kernel_rfl) (by kernel_rfl) (by kernel_rfl) rfl 0 rfl ?_
  repeat' (first | refine o1 ?_ | refine o2 ?_ | refine k1 ?_ | refine k2 ?_ | refine k7 ?_ | refine And.intro ?_ ?_ | (intro h; first | exact Bool.noConfusion h | exact nz _ h | exact nl h | (simp at h; done) | (simp at h; first | (exfalso; omega) | skip) | skip) | (change retOk _ _ _ _; refine ret_pure rfl trivial ?_) | fail)
  all_goals (refine congrArg vbool (pB_eq ?_); unfold ruleP; simp; omega)
theorem c_rnamed (m : Model) (n : Int) : PCall Tryz.prog 36 [ag m.cells, vint .i64 n] (fun r => r = vbool (pB (ruleP m n))) := by
  refine acall_of tok mixed 13 rfl (fn := Tryz.f36) (c := Tryz.f36.body.getD .skip) (by kernel_rfl) (by kernel_rfl) (by kernel_rfl) rfl 0 rfl ?_
  repeat' (first | refine o1 ?_ | refine o2 ?_ | refine k1 ?_ | refine k2 ?_ | refine k7 ?_ | refine And.intro ?_ ?_ | (intro h; first | exact Bool.noConfusion h | exact nz _ h | exact nl h | (simp at h; done) | (simp at h; first | (exfalso; omega) | skip) | skip) | (change retOk _ _ _ _; refine ret_pure rfl trivial ?_) | fail)
  all_goals (refine congrArg vbool (pB_eq ?_); unfold ruleP; simp; omega)
theorem option_iff {m : Model} {n : Nat} {o : Int} {l : List Opt} (hl : m.classes[n]? = some l) : optionP m n o ↔ 0 ≤ o ∧ o < l.length := by
  unfold optionP
  rw [Int.toNat_natCast, hl]
  constructor
  · rintro ⟨h1, h2, l', h3, h4⟩; cases h3; exact ⟨h2, h4⟩
  · rintro ⟨h1, h2⟩; exact ⟨by omega, h1, l, rfl, h2⟩
theorem option_f {m : Model} {c o : Int} (h : ¬ (0 ≤ c ∧ c < m.classes.length)) : ¬ optionP m c o := fun ⟨h1, h2, l, h3, h4⟩ => by
  have := (List.getElem?_eq_some_iff.1 h3).1
  omega
theorem c_option (m : Model) (c o : Int) : PCall Tryz.prog 57 [ag m.cells, vint .i64 c, vint .i64 o] (fun r => r = vbool (pB (optionP m c o))) := by
  by_cases h : 0 ≤ c ∧ c < m.classes.length
  · obtain ⟨h1, h2⟩ := h
    obtain ⟨n, rfl⟩ := Int.eq_ofNat_of_zero_le h1
    obtain ⟨l, hl⟩ := getE (show n < m.classes.length by omega)
    refine acall_of tok mixed 30 rfl (fn := Tryz.f57) (c := Tryz.f57.body.getD .skip) (by kernel_rfl) (by kernel_rfl) (by kernel_rfl) rfl 0 rfl ?_
    rw [pB_iff (option_iff hl)]
    repeat' (first | (refine idx_sl (k := n) (at_map hl) (by omega) ?_) | refine o1 ?_ | refine o2 ?_ | refine k1 ?_ | refine k2 ?_ | refine k7 ?_ | refine And.intro ?_ ?_ | (intro h; first | exact Bool.noConfusion h | exact nz _ h | exact nl h | (simp at h; done) | (simp at h; first | (exfalso; omega) | skip) | skip) | (change retOk _ _ _ _; refine ret_pure rfl trivial ?_) | refine eqv_len_map ?_ | fail)
    all_goals first
      | (exfalso; omega)
      | (refine congrArg vbool (pB_eq ?_); simp; omega)
  · refine acall_of tok mixed 30 rfl (fn := Tryz.f57) (c := Tryz.f57.body.getD .skip) (by kernel_rfl) (by kernel_rfl) (by kernel_rfl) rfl 0 rfl ?_
    rw [pB_f (option_f h)]
    repeat' (first | refine o1 ?_ | refine o2 ?_ | refine k1 ?_ | refine k2 ?_ | refine k7 ?_ | refine And.intro ?_ ?_ | (intro h; first | exact Bool.noConfusion h | exact nz _ h | exact nl h | (simp at h; done) | (simp at h; first | (exfalso; omega) | skip) | skip) | (change retOk _ _ _ _; refine ret_pure rfl trivial ?_) | refine eqv_len_map ?_ | fail)
    all_goals first
      | exact rfl
      | (exfalso; omega)
theorem c_roption (m : Model) (c o : Int) : PCall Tryz.prog 42 [ag m.cells, vint .i64 c, vint .i64 o] (fun r => r = vbool (pB (optionP m c o))) := by
  by_cases h : 0 ≤ c ∧ c < m.classes.length
  · obtain ⟨h1, h2⟩ := h
    obtain ⟨n, rfl⟩ := Int.eq_ofNat_of_zero_le h1
    obtain ⟨l, hl⟩ := getE (show n < m.classes.length by omega)
    refine acall_of tok mixed 30 rfl (fn := Tryz.f42) (c := Tryz.f42.body.getD .skip) (by kernel_rfl) (by kernel_rfl) (by kernel_rfl) rfl 0 rfl ?_
    rw [pB_iff (option_iff hl)]
    repeat' (first | (refine idx_sl (k := n) (at_map hl) (by omega) ?_) | refine o1 ?_ | refine o2 ?_ | refine k1 ?_ | refine k2 ?_ | refine k7 ?_ | refine And.intro ?_ ?_ | (intro h; first | exact Bool.noConfusion h | exact nz _ h | exact nl h | (simp at h; done) | (simp at h; first | (exfalso; omega) | skip) | skip) | (change retOk _ _ _ _; refine ret_pure rfl trivial ?_) | refine eqv_len_map ?_ | fail)
    all_goals first
      | (exfalso; omega)
      | (refine congrArg vbool (pB_eq ?_); simp; omega)
  · refine acall_of tok mixed 30 rfl (fn := Tryz.f42) (c := Tryz.f42.body.getD .skip) (by kernel_rfl) (by kernel_rfl) (by kernel_rfl) rfl 0 rfl ?_
    rw [pB_f (option_f h)]
    repeat' (first | refine o1 ?_ | refine o2 ?_ | refine k1 ?_ | refine k2 ?_ | refine k7 ?_ | refine And.intro ?_ ?_ | (intro h; first | exact Bool.noConfusion h | exact nz _ h | exact nl h | (simp at h; done) | (simp at h; first | (exfalso; omega) | skip) | skip) | (change retOk _ _ _ _; refine ret_pure rfl trivial ?_) | refine eqv_len_map ?_ | fail)
    all_goals first
      | exact rfl
      | (exfalso; omega)
end Go.Proofs.YtfdjcpodkhpgcaaGreat.Cw

/-
  Contracts: searching the lists of models; charges; sizes.
-/
namespace Go.Proofs.YtfdjcpodkhpgcaaGreat.Cw
open Go.Cw Go.Proofs
set_option linter.unusedVariables false
set_option maxRecDepth 100000
set_option maxHeartbeats 800000

theorem c_index_opt (l : List Opt) (f : FuncId) (caps : List PV) (p : Opt → Bool) (hl : l.length ≤ 100000) (hf : ∀ x ∈ l, PCall Tryz.prog f (ag (Opt.row x) :: pvs caps) (fun r => r = vbool (p x))) :
    PCall Tryz.prog 23 [.pv (.sl 6 (l.map Opt.row)), .pv (.fn f caps)] (fun r => r = vint .i64 (idxB p l)) := by
  refine acall_of tok mixed 19 rfl (fn := Tryz.f23) (c := Tryz.f23.body.getD .skip) (by kernel_rfl) (by kernel_rfl) (by kernel_rfl) rfl 0 rfl ?_
  repeat' (first | refine o1 ?_ | refine o2 ?_ | refine k1 ?_ | refine k2 ?_ | refine k4 ?_ | refine eqv_len_map ?_ | fail)
  refine loop_at (fun i : Nat => [(8, vint .i64 i)]) (fun _ => []) (fun i => i ≤ l.length ∧ ∀ j, j < i → ∀ y, l[j]? = some y → p y = false) (fun i => l.length - i) 0 ⟨by omega, fun j hj => by omega⟩ (by repeat' (first | exact trivial | exact ⟨_, rfl, ALe.refl⟩ | refine And.intro ?_ ?_)) (by repeat' (first | exact trivial)) ?_
  intro i ⟨hi, hall⟩
  rcases Nat.lt_or_ge i l.length with hlt | hge
  · obtain ⟨x, hx⟩ := getE hlt
    have hm := List.mem_of_getElem? hx
    repeat' (first | refine o1 ?_ | refine o2 ?_ | refine k1 ?_ | refine k2 ?_ | refine k3 ?_ | refine k4 ?_ | refine k6 ?_ | refine k7 ?_ | refine And.intro ?_ ?_ | (intro h; first | exact Bool.noConfusion h | exact nz _ h | exact nl h | (simp at h; done) | (simp at h; first | (exfalso; omega) | skip) | skip) | (change retOk _ _ _ _; refine ret_pure rfl trivial ?_) | refine eqv_wrap (by omega) (by omega) ?_ | refine ⟨_, _, (by first | rfl | assumption), at_map (by assumption), ?_⟩ | (change vcFun _ _ (_ ++ pvs _) _ _; refine call_cap rfl (by repeat' (first | trivial | refine And.intro ?_ ?_ | (show 0 + _ ≤ List.length _; simp))) (hf x hm) rfl ?_) | fail)
    all_goals first
      | exact ⟨i + 1, ⟨by omega, all_lt_succ hall fun y hy => by rw [hx] at hy; cases hy; assumption⟩, by omega, back [] rfl rfl trivial (by repeat' (first | exact trivial | exact rfl | refine And.intro ?_ ?_))⟩
      | exact congrArg (vint .i64) (idxB_at hall hx (by assumption)).symm
  · repeat' (first | refine o1 ?_ | refine o2 ?_ | refine k1 ?_ | refine k2 ?_ | refine k3 ?_ | refine k7 ?_ | refine k8 ?_ | refine And.intro ?_ ?_ | (intro h; first | exact Bool.noConfusion h | exact nz _ h | exact nl h | (simp at h; done) | (simp at h; first | (exfalso; omega) | skip) | skip) | (change retOk _ _ _ _; refine ret_pure rfl trivial ?_) | fail)
    exact congrArg (vint .i64) (idxB_none fun j hj => hall j (by omega)).symm

theorem c_any_opt (l : List Opt) (f : FuncId) (caps : List PV) (p : Opt → Bool) (hl : l.length ≤ 100000) (hf : ∀ x ∈ l, PCall Tryz.prog f (ag (Opt.row x) :: pvs caps) (fun r => r = vbool (p x))) :
    PCall Tryz.prog 27 [.pv (.sl 6 (l.map Opt.row)), .pv (.fn f caps)] (fun r => r = vbool (l.any p)) := by
  refine acall_of tok mixed 9 rfl (fn := Tryz.f27) (c := Tryz.f27.body.getD .skip) (by kernel_rfl) (by kernel_rfl) (by kernel_rfl) rfl 0 rfl ?_
  repeat' (first | refine o1 ?_ | refine o2 ?_ | refine k1 ?_ | refine k2 ?_ | refine k7 ?_ | (change retOk _ _ _ _; refine ret_pure rfl trivial ?_) | (change vcFun _ _ _ _ _; refine call_eq rfl (by repeat' (first | trivial | refine And.intro ?_ ?_ | (show 0 + _ ≤ List.length _; simp))) ALeL.refl (c_index_opt l f caps p hl hf) rfl ?_) | fail)
  exact congrArg vbool idxB_any

theorem c_index_count (l : List Count) (f : FuncId) (caps : List PV) (p : Count → Bool) (hl : l.length ≤ 100000) (hf : ∀ x ∈ l, PCall Tryz.prog f (ag (Count.row x) :: pvs caps) (fun r => r = vbool (p x))) :
    PCall Tryz.prog 56 [.pv (.sl 4 (l.map Count.row)), .pv (.fn f caps)] (fun r => r = vint .i64 (idxB p l)) := by
  refine acall_of tok mixed 19 rfl (fn := Tryz.f56) (c := Tryz.f56.body.getD .skip) (by kernel_rfl) (by kernel_rfl) (by kernel_rfl) rfl 0 rfl ?_
  repeat' (first | refine o1 ?_ | refine o2 ?_ | refine k1 ?_ | refine k2 ?_ | refine k4 ?_ | refine eqv_len_map ?_ | fail)
  refine loop_at (fun i : Nat => [(8, vint .i64 i)]) (fun _ => []) (fun i => i ≤ l.length ∧ ∀ j, j < i → ∀ y, l[j]? = some y → p y = false) (fun i => l.length - i) 0 ⟨by omega, fun j hj => by omega⟩ (by repeat' (first | exact trivial | exact ⟨_, rfl, ALe.refl⟩ | refine And.intro ?_ ?_)) (by repeat' (first | exact trivial)) ?_
  intro i ⟨hi, hall⟩
  rcases Nat.lt_or_ge i l.length with hlt | hge
  · obtain ⟨x, hx⟩ := getE hlt
    have hm := List.mem_of_getElem? hx
    repeat' (first | refine o1 ?_ | refine o2 ?_ | refine k1 ?_ | refine k2 ?_ | refine k3 ?_ | refine k4 ?_ | refine k6 ?_ | refine k7 ?_ | refine And.intro ?_ ?_ | (intro h; first | exact Bool.noConfusion h | exact nz _ h | exact nl h | (simp at h; done) | (simp at h; first | (exfalso; omega) | skip) | skip) | (change retOk _ _ _ _; refine ret_pure rfl trivial ?_) | refine eqv_wrap (by omega) (by omega) ?_ | refine ⟨_, _, (by first | rfl | assumption), at_map (by assumption), ?_⟩ | (change vcFun _ _ (_ ++ pvs _) _ _; refine call_cap rfl (by repeat' (first | trivial | refine And.intro ?_ ?_ | (show 0 + _ ≤ List.length _; simp))) (hf x hm) rfl ?_) | fail)
    all_goals first
      | exact ⟨i + 1, ⟨by omega, all_lt_succ hall fun y hy => by rw [hx] at hy; cases hy; assumption⟩, by omega, back [] rfl rfl trivial (by repeat' (first | exact trivial | exact rfl | refine And.intro ?_ ?_))⟩
      | exact congrArg (vint .i64) (idxB_at hall hx (by assumption)).symm
  · repeat' (first | refine o1 ?_ | refine o2 ?_ | refine k1 ?_ | refine k2 ?_ | refine k3 ?_ | refine k7 ?_ | refine k8 ?_ | refine And.intro ?_ ?_ | (intro h; first | exact Bool.noConfusion h | exact nz _ h | exact nl h | (simp at h; done) | (simp at h; first | (exfalso; omega) | skip) | skip) | (change retOk _ _ _ _; refine ret_pure rfl trivial ?_) | fail)
    exact congrArg (vint .i64) (idxB_none fun j hj => hall j (by omega)).symm

theorem c_any_count (l : List Count) (f : FuncId) (caps : List PV) (p : Count → Bool) (hl : l.length ≤ 100000) (hf : ∀ x ∈ l, PCall Tryz.prog f (ag (Count.row x) :: pvs caps) (fun r => r = vbool (p x))) :
    PCall Tryz.prog 32 [.pv (.sl 4 (l.map Count.row)), .pv (.fn f caps)] (fun r => r = vbool (l.any p)) := by
  refine acall_of tok mixed 9 rfl (fn := Tryz.f32) (c := Tryz.f32.body.getD .skip) (by kernel_rfl) (by kernel_rfl) (by kernel_rfl) rfl 0 rfl ?_
  repeat' (first | refine o1 ?_ | refine o2 ?_ | refine k1 ?_ | refine k2 ?_ | refine k7 ?_ | (change retOk _ _ _ _; refine ret_pure rfl trivial ?_) | (change vcFun _ _ _ _ _; refine call_eq rfl (by repeat' (first | trivial | refine And.intro ?_ ?_ | (show 0 + _ ≤ List.length _; simp))) ALeL.refl (c_index_count l f caps p hl hf) rfl ?_) | fail)
  exact congrArg vbool idxB_any

theorem c_index_opts (l : List (List Opt)) (f : FuncId) (caps : List PV) (p : (List Opt) → Bool) (hl : l.length ≤ 100000) (hf : ∀ x ∈ l, PCall Tryz.prog f (AV.pv (PV.sl 6 (List.map Opt.row x)) :: pvs caps) (fun r => r = vbool (p x))) :
    PCall Tryz.prog 95 [.pv (.sl 1 (l.map optsRow)), .pv (.fn f caps)] (fun r => r = vint .i64 (idxB p l)) := by
  refine acall_of tok mixed 19 rfl (fn := Tryz.f95) (c := Tryz.f95.body.getD .skip) (by kernel_rfl) (by kernel_rfl) (by kernel_rfl) rfl 0 rfl ?_
  repeat' (first | refine o1 ?_ | refine o2 ?_ | refine k1 ?_ | refine k2 ?_ | refine k4 ?_ | refine eqv_len_map ?_ | fail)
  refine loop_at (fun i : Nat => [(8, vint .i64 i)]) (fun _ => []) (fun i => i ≤ l.length ∧ ∀ j, j < i → ∀ y, l[j]? = some y → p y = false) (fun i => l.length - i) 0 ⟨by omega, fun j hj => by omega⟩ (by repeat' (first | exact trivial | exact ⟨_, rfl, ALe.refl⟩ | refine And.intro ?_ ?_)) (by repeat' (first | exact trivial)) ?_
  intro i ⟨hi, hall⟩
  rcases Nat.lt_or_ge i l.length with hlt | hge
  · obtain ⟨x, hx⟩ := getE hlt
    have hm := List.mem_of_getElem? hx
    repeat' (first | refine o1 ?_ | refine o2 ?_ | refine k1 ?_ | refine k2 ?_ | refine k3 ?_ | refine k4 ?_ | refine k6 ?_ | refine k7 ?_ | refine And.intro ?_ ?_ | (intro h; first | exact Bool.noConfusion h | exact nz _ h | exact nl h | (simp at h; done) | (simp at h; first | (exfalso; omega) | skip) | skip) | (change retOk _ _ _ _; refine ret_pure rfl trivial ?_) | refine eqv_wrap (by omega) (by omega) ?_ | refine ⟨_, _, (by first | rfl | assumption), at_map (by assumption), ?_⟩ | (change vcFun _ _ (_ ++ pvs _) _ _; refine call_cap rfl (by repeat' (first | trivial | refine And.intro ?_ ?_ | (show 0 + _ ≤ List.length _; simp))) (hf x hm) rfl ?_) | fail)
    all_goals first
      | exact ⟨i + 1, ⟨by omega, all_lt_succ hall fun y hy => by rw [hx] at hy; cases hy; assumption⟩, by omega, back [] rfl rfl trivial (by repeat' (first | exact trivial | exact rfl | refine And.intro ?_ ?_))⟩
      | exact congrArg (vint .i64) (idxB_at hall hx (by assumption)).symm
  · repeat' (first | refine o1 ?_ | refine o2 ?_ | refine k1 ?_ | refine k2 ?_ | refine k3 ?_ | refine k7 ?_ | refine k8 ?_ | refine And.intro ?_ ?_ | (intro h; first | exact Bool.noConfusion h | exact nz _ h | exact nl h | (simp at h; done) | (simp at h; first | (exfalso; omega) | skip) | skip) | (change retOk _ _ _ _; refine ret_pure rfl trivial ?_) | fail)
    exact congrArg (vint .i64) (idxB_none fun j hj => hall j (by omega)).symm

theorem c_any_opts (l : List (List Opt)) (f : FuncId) (caps : List PV) (p : (List Opt) → Bool) (hl : l.length ≤ 100000) (hf : ∀ x ∈ l, PCall Tryz.prog f (AV.pv (PV.sl 6 (List.map Opt.row x)) :: pvs caps) (fun r => r = vbool (p x))) :
    PCall Tryz.prog 49 [.pv (.sl 1 (l.map optsRow)), .pv (.fn f caps)] (fun r => r = vbool (l.any p)) := by
  refine acall_of tok mixed 9 rfl (fn := Tryz.f49) (c := Tryz.f49.body.getD .skip) (by kernel_rfl) (by kernel_rfl) (by kernel_rfl) rfl 0 rfl ?_
  repeat' (first | refine o1 ?_ | refine o2 ?_ | refine k1 ?_ | refine k2 ?_ | refine k7 ?_ | (change retOk _ _ _ _; refine ret_pure rfl trivial ?_) | (change vcFun _ _ _ _ _; refine call_eq rfl (by repeat' (first | trivial | refine And.intro ?_ ?_ | (show 0 + _ ≤ List.length _; simp))) ALeL.refl (c_index_opts l f caps p hl hf) rfl ?_) | fail)
  exact congrArg vbool idxB_any

theorem c_index_int (l : List Int) (f : FuncId) (caps : List PV) (p : Int → Bool) (hl : l.length ≤ 100000) (hf : ∀ x ∈ l, PCall Tryz.prog f (vint .i64 x :: pvs caps) (fun r => r = vbool (p x))) :
    PCall Tryz.prog 96 [.pv (.sl 1 (l.map (fun n => [ei n]))), .pv (.fn f caps)] (fun r => r = vint .i64 (idxB p l)) := by
  refine acall_of tok mixed 19 rfl (fn := Tryz.f96) (c := Tryz.f96.body.getD .skip) (by kernel_rfl) (by kernel_rfl) (by kernel_rfl) rfl 0 rfl ?_
  repeat' (first | refine o1 ?_ | refine o2 ?_ | refine k1 ?_ | refine k2 ?_ | refine k4 ?_ | refine eqv_len_map ?_ | fail)
  refine loop_at (fun i : Nat => [(8, vint .i64 i)]) (fun _ => []) (fun i => i ≤ l.length ∧ ∀ j, j < i → ∀ y, l[j]? = some y → p y = false) (fun i => l.length - i) 0 ⟨by omega, fun j hj => by omega⟩ (by repeat' (first | exact trivial | exact ⟨_, rfl, ALe.refl⟩ | refine And.intro ?_ ?_)) (by repeat' (first | exact trivial)) ?_
  intro i ⟨hi, hall⟩
  rcases Nat.lt_or_ge i l.length with hlt | hge
  · obtain ⟨x, hx⟩ := getE hlt
    have hm := List.mem_of_getElem? hx
    repeat' (first | refine o1 ?_ | refine o2 ?_ | refine k1 ?_ | refine k2 ?_ | refine k3 ?_ | refine k4 ?_ | refine k6 ?_ | refine k7 ?_ | refine And.intro ?_ ?_ | (intro h; first | exact Bool.noConfusion h | exact nz _ h | exact nl h | (simp at h; done) | (simp at h; first | (exfalso; omega) | skip) | skip) | (change retOk _ _ _ _; refine ret_pure rfl trivial ?_) | refine eqv_wrap (by omega) (by omega) ?_ | refine ⟨_, _, (by first | rfl | assumption), at_map (by assumption), ?_⟩ | (change vcFun _ _ (_ ++ pvs _) _ _; refine call_cap rfl (by repeat' (first | trivial | refine And.intro ?_ ?_ | (show 0 + _ ≤ List.length _; simp))) (hf x hm) rfl ?_) | fail)
    all_goals first
      | exact ⟨i + 1, ⟨by omega, all_lt_succ hall fun y hy => by rw [hx] at hy; cases hy; assumption⟩, by omega, back [] rfl rfl trivial (by repeat' (first | exact trivial | exact rfl | refine And.intro ?_ ?_))⟩
      | exact congrArg (vint .i64) (idxB_at hall hx (by assumption)).symm
  · repeat' (first | refine o1 ?_ | refine o2 ?_ | refine k1 ?_ | refine k2 ?_ | refine k3 ?_ | refine k7 ?_ | refine k8 ?_ | refine And.intro ?_ ?_ | (intro h; first | exact Bool.noConfusion h | exact nz _ h | exact nl h | (simp at h; done) | (simp at h; first | (exfalso; omega) | skip) | skip) | (change retOk _ _ _ _; refine ret_pure rfl trivial ?_) | fail)
    exact congrArg (vint .i64) (idxB_none fun j hj => hall j (by omega)).symm

theorem c_any_int (l : List Int) (f : FuncId) (caps : List PV) (p : Int → Bool) (hl : l.length ≤ 100000) (hf : ∀ x ∈ l, PCall Tryz.prog f (vint .i64 x :: pvs caps) (fun r => r = vbool (p x))) :
    PCall Tryz.prog 52 [.pv (.sl 1 (l.map (fun n => [ei n]))), .pv (.fn f caps)] (fun r => r = vbool (l.any p)) := by
  refine acall_of tok mixed 9 rfl (fn := Tryz.f52) (c := Tryz.f52.body.getD .skip) (by kernel_rfl) (by kernel_rfl) (by kernel_rfl) rfl 0 rfl ?_
  repeat' (first | refine o1 ?_ | refine o2 ?_ | refine k1 ?_ | refine k2 ?_ | refine k7 ?_ | (change retOk _ _ _ _; refine ret_pure rfl trivial ?_) | (change vcFun _ _ _ _ _; refine call_eq rfl (by repeat' (first | trivial | refine And.intro ?_ ?_ | (show 0 + _ ≤ List.length _; simp))) ALeL.refl (c_index_int l f caps p hl hf) rfl ?_) | fail)
  exact congrArg vbool idxB_any

theorem charge_zero {m : Model} {l : List Charge} {c : Charge} (hc : l[0]? = some c) (h1 : ruleP m c.rule) (h2 : priceP c.cost) : chargeAt m l 0 := fun c' h' => by
  rw [hc] at h'; cases h'
  exact ⟨h1, h2, fun k b e => by omega⟩
theorem charge_next {m : Model} {l : List Charge} {k : Nat} {c b : Charge} (hc : l[k + 1]? = some c) (hb : l[k]? = some b) (h1 : ruleP m c.rule) (h2 : priceP c.cost) (h3 : b.rule < c.rule) : chargeAt m l (k + 1) := fun c' h' => by
  rw [hc] at h'; cases h'
  refine ⟨h1, h2, fun k' b' e hb' => ?_⟩
  obtain rfl : k = k' := by omega
  rw [hb] at hb'; cases hb'; exact h3
theorem sizedP_iff {m : Model} (h : ∀ l ∈ m.classes, l.length ≤ 24) : sizedP m ↔ m.classes.length ≤ 24 ∧ m.pairs.length ≤ 4000 ∧ m.counts.length ≤ 800 ∧ 0 ≤ m.rules ∧ m.rules ≤ 56 :=
  ⟨fun ⟨a, _, b⟩ => ⟨a, b⟩, fun ⟨a, b⟩ => ⟨a, h, b⟩⟩
theorem c_charged (m : Model) (o : Opt) (ho : o.charges.length ≤ 9223372036854775807) : PCall Tryz.prog 29 [ag m.cells, ag o.row] (fun r => r = vbool (pB (chargesP m o))) := by
  refine acall_of tok mixed 43 rfl (fn := Tryz.f29) (c := Tryz.f29.body.getD .skip) (by kernel_rfl) (by kernel_rfl) (by kernel_rfl) rfl 0 rfl ?_
  repeat' (first | refine o1 ?_ | refine o2 ?_ | refine k1 ?_ | refine k2 ?_ | refine k4 ?_ | refine eqv_len_map ?_ | fail)
  refine loop_at (fun i : Nat => [(10, vint .i64 i)]) (fun _ => []) (fun i => i ≤ o.charges.length ∧ ∀ j, j < i → chargeAt m o.charges j) (fun i => o.charges.length - i) 0 ⟨by omega, fun j hj => by omega⟩ (by repeat' (first | exact trivial | exact ⟨_, rfl, ALe.refl⟩ | refine And.intro ?_ ?_)) (by repeat' (first | exact trivial | exact rfl | refine And.intro ?_ ?_)) ?_
  intro i ⟨hi, hall⟩
  rcases Nat.lt_or_ge i o.charges.length with hlt | hge
  · obtain ⟨c, hc⟩ := getE hlt
    rcases i with _ | k
    · repeat' (first | refine o1 ?_ | refine o2 ?_ | refine k1 ?_ | refine k2 ?_ | refine k3 ?_ | refine k4 ?_ | refine k6 ?_ | refine k7 ?_ | refine k8 ?_ | refine And.intro ?_ ?_ | refine o3 ?_ | refine o4 ?_ | (intro h; first | exact Bool.noConfusion h | exact nz _ h | exact nl h | (simp at h; done) | (simp at h; first | (exfalso; omega) | skip) | skip) | (change retOk _ _ _ _; refine ret_pure rfl trivial ?_) | exact (by kernel_rfl : drawOk _ _ = true) | refine eqv_wrap (by omega) (by omega) ?_ | refine ⟨_, _, (by first | rfl | assumption), at_map (by assumption), ?_⟩ | (change vcFunD _ _ _ _ _; refine callD_eq rfl (by repeat' (first | trivial | refine And.intro ?_ ?_ | (show 0 + _ ≤ List.length _; simp))) ALeL.refl (c_named m c.rule) rfl ?_) | (change vcFunD _ _ _ _ _; refine callD_eq rfl (by repeat' (first | trivial | refine And.intro ?_ ?_ | (show 0 + _ ≤ List.length _; simp))) ALeL.refl (c_cost c.cost) rfl ?_) | fail)
      all_goals first
        | (exfalso; omega)
        | (refine congrArg vbool (pB_f fun h => ?_).symm; obtain ⟨g1, g2, g3⟩ := h _ hlt c hc; first | exact absurd g1 (by assumption) | exact absurd g2 (by assumption))
        | exact ⟨1, ⟨by omega, all_lt_succ hall (charge_zero hc (by assumption) (by assumption))⟩, by omega, back [0, 1] rfl rfl ⟨rfl, rfl, trivial⟩ (by repeat' (first | exact trivial | exact rfl | refine And.intro ?_ ?_))⟩
        | (exfalso; simp_all; done)
    · obtain ⟨b, hb⟩ := getE (show k < o.charges.length by omega)
      repeat' (first | (refine idx_sl (k := k + 1) (at_map hc) (by omega) ?_) | (refine idx_sl (k := k) (at_map hb) (by omega) ?_) | refine o1 ?_ | refine o2 ?_ | refine k1 ?_ | refine k2 ?_ | refine k3 ?_ | refine k4 ?_ | refine k6 ?_ | refine k7 ?_ | refine And.intro ?_ ?_ | refine o3 ?_ | refine o4 ?_ | (intro h; first | exact Bool.noConfusion h | exact nz _ h | exact nl h | (simp at h; done) | (simp at h; first | (exfalso; omega) | skip) | skip) | (change retOk _ _ _ _; refine ret_pure rfl trivial ?_) | exact (by kernel_rfl : drawOk _ _ = true) | refine eqv_wrap (by omega) (by omega) ?_ | (change vcFunD _ _ _ _ _; refine callD_eq rfl (by repeat' (first | trivial | refine And.intro ?_ ?_ | (show 0 + _ ≤ List.length _; simp))) ALeL.refl (c_named m c.rule) rfl ?_) | (change vcFunD _ _ _ _ _; refine callD_eq rfl (by repeat' (first | trivial | refine And.intro ?_ ?_ | (show 0 + _ ≤ List.length _; simp))) ALeL.refl (c_cost c.cost) rfl ?_) | fail)
      all_goals first
        | (exfalso; omega)
        | (refine congrArg vbool (pB_f fun h => ?_).symm; obtain ⟨g1, g2, g3⟩ := h _ hlt c hc; first | exact absurd g1 (by assumption) | exact absurd g2 (by assumption) | (have := g3 k b rfl hb; omega))
        | exact ⟨k + 2, ⟨by omega, all_lt_succ hall (charge_next hc hb (by assumption) (by assumption) (by omega))⟩, by omega, back [0, 1] rfl rfl ⟨rfl, rfl, trivial⟩ (by repeat' (first | exact trivial | exact rfl | refine And.intro ?_ ?_))⟩
  · repeat' (first | refine o1 ?_ | refine o2 ?_ | refine k1 ?_ | refine k2 ?_ | refine k3 ?_ | refine k7 ?_ | refine k8 ?_ | refine And.intro ?_ ?_ | (intro h; first | exact Bool.noConfusion h | exact nz _ h | exact nl h | (simp at h; done) | (simp at h; first | (exfalso; omega) | skip) | skip) | (change retOk _ _ _ _; refine ret_pure rfl trivial ?_) | fail)
    all_goals first
      | exact congrArg vbool (pB_t fun j hj => hall j (by omega)).symm
theorem c_many (l : List Opt) : PCall Tryz.prog 48 [.pv (.sl 6 (l.map Opt.row))] (fun r => r = vbool (decide (24 < l.length))) := by
  refine acall_of tok mixed 6 rfl (fn := Tryz.f48) (c := Tryz.f48.body.getD .skip) (by kernel_rfl) (by kernel_rfl) (by kernel_rfl) rfl 0 rfl ?_
  repeat' (first | refine o1 ?_ | refine o2 ?_ | refine k1 ?_ | refine k2 ?_ | refine k7 ?_ | (change retOk _ _ _ _; refine ret_pure rfl trivial ?_) | refine eqv_len_map ?_ | fail)
  all_goals (refine congrArg vbool (decide_eq_decide.2 ?_); omega)
theorem many_f {l : List (List Opt)} : (l.any fun x => decide (24 < x.length)) = false ↔ ∀ x ∈ l, x.length ≤ 24 := by
  simp [List.any_eq_false]
theorem c_large (m : Model) : PCall Tryz.prog 26 [ag m.cells] (fun r => r = vbool (pB (¬ sizedP m))) := by
  refine acall_of tok mixed 36 rfl (fn := Tryz.f26) (c := Tryz.f26.body.getD .skip) (by kernel_rfl) (by kernel_rfl) (by kernel_rfl) rfl 0 rfl ?_
  repeat' (first | refine o1 ?_ | refine o2 ?_ | refine k1 ?_ | refine k2 ?_ | refine k7 ?_ | refine And.intro ?_ ?_ | (intro h; first | exact Bool.noConfusion h | exact nz _ h | exact nl h | (simp at h; done) | (simp at h; first | (exfalso; omega) | skip) | skip) | (change retOk _ _ _ _; refine ret_pure rfl trivial ?_) | refine eqv_len_map ?_ | (change vcFun _ _ _ _ _; refine call_eq rfl (by repeat' (first | trivial | refine And.intro ?_ ?_ | (show 0 + _ ≤ List.length _; simp))) ALeL.refl (c_any_opts m.classes 48 [] (fun x => decide (24 < x.length)) (by omega) (fun x _ => c_many x)) rfl ?_) | fail)
  all_goals first
    | (refine congrArg vbool (pB_eq ?_); rw [sizedP_iff (by assumption), decide_eq_true_iff]; omega)
    | (refine congrArg vbool (pB_t fun h => ?_).symm; obtain ⟨h1, h2, h3, h4, h5, h6⟩ := h; omega)
    | (refine congrArg vbool (pB_t fun h => ?_).symm; obtain ⟨x, hx, h7⟩ := (by assumption : ∃ x, x ∈ m.classes ∧ 24 < List.length x); have := h.2.1 x hx; omega)
theorem c_sized (m : Model) (hm : Laid m) : PCall Tryz.prog 35 [ag m.cells] (fun r => r = vbool (pB (sizedP m))) := by
  have hn := hm.cn
  refine acall_of tok mixed 44 rfl (fn := Tryz.f35) (c := Tryz.f35.body.getD .skip) (by kernel_rfl) (by kernel_rfl) (by kernel_rfl) rfl 0 rfl ?_
  repeat' (first | refine o1 ?_ | refine o2 ?_ | refine k1 ?_ | refine k2 ?_ | refine k4 ?_ | fail)
  refine loop_at (fun i : Nat => [(3, vint .i64 i)]) (fun _ => []) (fun i => i ≤ m.classes.length ∧ ∀ j, j < i → ∀ l, m.classes[j]? = some l → l.length ≤ 24) (fun i => m.classes.length - i) 0 ⟨by omega, fun j hj => by omega⟩ (by repeat' (first | exact trivial | exact ⟨_, rfl, ALe.refl⟩ | refine And.intro ?_ ?_)) (by repeat' (first | exact trivial | exact rfl | refine And.intro ?_ ?_)) ?_
  intro i ⟨hi, hall⟩
  rcases Nat.lt_or_ge i m.classes.length with hlt | hge
  · obtain ⟨l, hl⟩ := getE hlt
    repeat' (first | refine o1 ?_ | refine o2 ?_ | refine k1 ?_ | refine k2 ?_ | refine k3 ?_ | refine k4 ?_ | refine k6 ?_ | refine k7 ?_ | refine And.intro ?_ ?_ | (intro h; first | exact Bool.noConfusion h | exact nz _ h | exact nl h | (simp at h; done) | (simp at h; first | (exfalso; omega) | skip) | skip) | (change retOk _ _ _ _; refine ret_pure rfl trivial ?_) | refine eqv_len_map ?_ | refine eqv_wrap (by omega) (by omega) ?_ | refine ⟨_, _, (by first | rfl | assumption), at_map (by assumption), ?_⟩ | fail)
    all_goals first
      | (refine congrArg vbool (pB_f fun h => ?_).symm; have := h.2.1 l (List.mem_of_getElem? hl); omega)
      | exact ⟨i + 1, ⟨by omega, all_lt_succ hall fun l' h' => by rw [hl] at h'; cases h'; omega⟩, by omega, back [0] rfl rfl ⟨rfl, trivial⟩ (by repeat' (first | exact trivial | exact rfl | refine And.intro ?_ ?_))⟩
  · have hall2 : ∀ l ∈ m.classes, l.length ≤ 24 := fun l hl => by
      obtain ⟨j, hj⟩ := List.getElem?_of_mem hl
      exact hall j (by have := (List.getElem?_eq_some_iff.1 hj).1; omega) l hj
    repeat' (first | refine o1 ?_ | refine o2 ?_ | refine k1 ?_ | refine k2 ?_ | refine k3 ?_ | refine k7 ?_ | refine k8 ?_ | refine And.intro ?_ ?_ | (intro h; first | exact Bool.noConfusion h | exact nz _ h | exact nl h | (simp at h; done) | (simp at h; first | (exfalso; omega) | skip) | skip) | (change retOk _ _ _ _; refine ret_pure rfl trivial ?_) | refine eqv_len_map ?_ | fail)
    all_goals first
      | (refine congrArg vbool (pB_eq ?_); rw [sizedP_iff hall2, decide_eq_true_iff]; omega)
      | (refine congrArg vbool (pB_f fun h => ?_).symm; obtain ⟨h1, h2, h3, h4, h5, h6⟩ := h; omega)
end Go.Proofs.YtfdjcpodkhpgcaaGreat.Cw

/-
  Contracts: comparisons of numbers; sittings.
-/
namespace Go.Proofs.YtfdjcpodkhpgcaaGreat.Cw
open Go.Cw Go.Proofs
set_option linter.unusedVariables false
set_option maxRecDepth 100000

def cmpI (a b : Int) : Int := if a < b then -1 else if a > b then 1 else 0
def orI : List Int → Int
  | [] => 0
  | x :: l => if x = 0 then orI l else x

theorem orI_at : ∀ {l : List Int} {i : Nat} {x : Int}, (∀ j, j < i → ∀ y, l[j]? = some y → y = 0) → l[i]? = some x → x ≠ 0 → orI l = x
  | [], i, x, _, h, _ => by simp at h
  | y :: l, 0, x, _, h, hx => by simp at h; subst h; simp [orI, hx]
  | y :: l, i + 1, x, h0, h, hx => by
    have := h0 0 (by omega) y rfl
    subst this
    simp only [orI, if_true]
    exact orI_at (i := i) (fun j hj z hz => h0 (j + 1) (by omega) z (by simpa using hz)) (by simpa using h) hx
theorem orI_zero : ∀ {l : List Int}, (∀ j, j < l.length → ∀ y, l[j]? = some y → y = 0) → orI l = 0
  | [], _ => rfl
  | y :: l, h0 => by
    have := h0 0 (by simp) y rfl
    subst this
    simp only [orI, if_true]
    exact orI_zero fun j hj z hz => h0 (j + 1) (by simpa using hj) z (by simpa using hz)

theorem c_isNaN (a : Int) : PCall Tryz.prog 97 [vint .i64 a] (fun r => r = vbool false) := by
  refine acall_of tok mixed 6 rfl (fn := Tryz.f97) (c := Tryz.f97.body.getD .skip) (by kernel_rfl) (by kernel_rfl) (by kernel_rfl) rfl 0 rfl ?_
  repeat' (first | refine o1 ?_ | refine o2 ?_ | refine k1 ?_ | refine k2 ?_ | refine k7 ?_ | (change retOk _ _ _ _; refine ret_pure rfl trivial ?_) | fail)
  exact congrArg vbool (by simp)

theorem c_cmp (a b : Int) : PCall Tryz.prog 55 [vint .i64 a, vint .i64 b] (fun r => r = vint .i64 (cmpI a b)) := by
  refine acall_of tok mixed 20 rfl (fn := Tryz.f55) (c := Tryz.f55.body.getD .skip) (by kernel_rfl) (by kernel_rfl) (by kernel_rfl) rfl 0 rfl ?_
  repeat' (first | refine o1 ?_ | refine o2 ?_ | refine k1 ?_ | refine k2 ?_ | refine k3 ?_ | refine k6 ?_ | refine k7 ?_ | refine And.intro ?_ ?_ | (intro h; first | exact Bool.noConfusion h | exact nz _ h | exact nl h | (simp at h; done) | (simp at h; first | (exfalso; omega) | skip) | skip) | (change retOk _ _ _ _; refine ret_pure rfl trivial ?_) | (change vcFun _ _ _ _ _; refine call_eq rfl (by repeat' (first | trivial | refine And.intro ?_ ?_ | (show 0 + _ ≤ List.length _; simp))) ALeL.refl (c_isNaN _) rfl ?_) | fail)
  all_goals exact congrArg (vint .i64) (by unfold cmpI; split <;> first | omega | (split <;> omega))

theorem c_or (l : List Int) (hl : l.length ≤ 1000) : PCall Tryz.prog 54 [.pv (encInts l)] (fun r => r = vint .i64 (orI l)) := by
  refine acall_of tok mixed 18 rfl (fn := Tryz.f54) (c := Tryz.f54.body.getD .skip) (by kernel_rfl) (by kernel_rfl) (by kernel_rfl) rfl 0 rfl ?_
  repeat' (first | refine o1 ?_ | refine o2 ?_ | refine k1 ?_ | refine k2 ?_ | refine k4 ?_ | refine eqv_len_map ?_ | fail)
  refine loop_at (fun i : Nat => [(8, vint .i64 i)]) (fun _ => []) (fun i => i ≤ l.length ∧ ∀ j, j < i → ∀ y, l[j]? = some y → y = 0) (fun i => l.length - i) 0 ⟨by omega, fun j hj => by omega⟩ (by repeat' (first | exact trivial | exact ⟨_, rfl, ALe.refl⟩ | refine And.intro ?_ ?_)) (by repeat' (first | exact trivial)) ?_
  intro i ⟨hi, hall⟩
  rcases Nat.lt_or_ge i l.length with hlt | hge
  · obtain ⟨x, hx⟩ := getE hlt
    repeat' (first | refine o1 ?_ | refine o2 ?_ | refine k1 ?_ | refine k2 ?_ | refine k3 ?_ | refine k4 ?_ | refine k6 ?_ | refine k7 ?_ | refine And.intro ?_ ?_ | (intro h; first | exact Bool.noConfusion h | exact nz _ h | exact nl h | (simp at h; done) | (simp at h; first | (exfalso; omega) | skip) | skip) | (change retOk _ _ _ _; refine ret_pure rfl trivial ?_) | refine eqv_wrap (by omega) (by omega) ?_ | refine ⟨_, _, (by first | rfl | assumption), at_map (by assumption), ?_⟩ | fail)
    all_goals first
      | exact ⟨i + 1, ⟨by omega, all_lt_succ hall fun y hy => by rw [hx] at hy; cases hy; assumption⟩, by omega, back [] rfl rfl trivial (by repeat' (first | exact trivial | exact rfl | refine And.intro ?_ ?_))⟩
      | exact congrArg (vint .i64) (orI_at hall hx (by assumption)).symm
  · repeat' (first | refine o1 ?_ | refine o2 ?_ | refine k1 ?_ | refine k2 ?_ | refine k3 ?_ | refine k7 ?_ | refine k8 ?_ | refine And.intro ?_ ?_ | (intro h; first | exact Bool.noConfusion h | exact nz _ h | exact nl h | (simp at h; done) | (simp at h; first | (exfalso; omega) | skip) | skip) | (change retOk _ _ _ _; refine ret_pure rfl trivial ?_) | fail)
    exact congrArg (vint .i64) (orI_zero fun j hj => hall j (by omega)).symm
end Go.Proofs.YtfdjcpodkhpgcaaGreat.Cw

/-
  Contracts: pairs of models.
-/
namespace Go.Proofs.YtfdjcpodkhpgcaaGreat.Cw
open Go.Cw Go.Proofs
set_option linter.unusedVariables false
set_option maxRecDepth 100000
set_option maxHeartbeats 800000

theorem c_order (p q : Pair) : PCall Tryz.prog 31 [ag p.row, ag q.row] (fun r => r = vint .i64 (orI [cmpI p.rule q.rule, cmpI p.first q.first, cmpI p.second q.second])) := by
  refine acall_of tok mixed 22 rfl (fn := Tryz.f31) (c := Tryz.f31.body.getD .skip) (by kernel_rfl) (by kernel_rfl) (by kernel_rfl) rfl 0 rfl ?_
  repeat' (first | refine o1 ?_ | refine o2 ?_ | refine k1 ?_ | refine k2 ?_ | refine k7 ?_ | refine And.intro ?_ ?_ | refine o3 ?_ | refine o4 ?_ | (change retOk _ _ _ _; refine ret_pure rfl trivial ?_) | exact (by kernel_rfl : drawOk _ _ = true) | (change vcFunD _ _ _ _ _; refine callD_eq rfl (by repeat' (first | trivial | refine And.intro ?_ ?_ | (show 0 + _ ≤ List.length _; simp))) ALeL.refl (c_cmp _ _) rfl ?_) | (change vcFunD _ _ _ _ _; refine callD_eq rfl (by repeat' (first | trivial | refine And.intro ?_ ?_ | (show 0 + _ ≤ List.length _; simp))) ALeL.refl (c_or [cmpI p.rule q.rule, cmpI p.first q.first, cmpI p.second q.second] (Nat.le_of_ble_eq_true rfl)) rfl ?_) | fail)
  all_goals exact rfl
theorem pair_cmp {p q : Pair} : orI [cmpI p.rule q.rule, cmpI p.first q.first, cmpI p.second q.second] < 0 ↔ pairLt p q := by
  simp only [orI, cmpI, pairLt]
  grind
theorem c_paired1 (n : Int) : PCall Tryz.prog 53 [vint .i64 n] (fun r => r = vbool (pB (n ≠ 0 ∧ ¬ priceP n))) := by
  refine acall_of tok mixed 10 rfl (fn := Tryz.f53) (c := Tryz.f53.body.getD .skip) (by kernel_rfl) (by kernel_rfl) (by kernel_rfl) rfl 0 rfl ?_
  repeat' (first | refine o1 ?_ | refine o2 ?_ | refine k1 ?_ | refine k2 ?_ | refine k7 ?_ | refine And.intro ?_ ?_ | (intro h; first | exact Bool.noConfusion h | exact nz _ h | exact nl h | (simp at h; done) | (simp at h; first | (exfalso; omega) | skip) | skip) | (change retOk _ _ _ _; refine ret_pure rfl trivial ?_) | (change vcFun _ _ _ _ _; refine call_eq rfl (by repeat' (first | trivial | refine And.intro ?_ ?_ | (show 0 + _ ≤ List.length _; simp))) ALeL.refl (c_cost n) rfl ?_) | fail)
  all_goals first
    | exact congrArg vbool (pB_f fun h => h.1 (by assumption)).symm
    | exact congrArg vbool (pB_eq (by simp_all))
theorem price_any {t : List Int} : (!t.any fun n => pB (n ≠ 0 ∧ ¬ priceP n)) = true ↔ ∀ x ∈ t, x = 0 ∨ priceP x := by
  simp only [Bool.not_eq_true', List.any_eq_false, decide_eq_true_eq]
  constructor
  · intro h x hx
    have := h x hx
    by_cases h0 : x = 0
    · exact .inl h0
    · exact .inr (Classical.byContradiction fun h1 => this ⟨h0, h1⟩)
  · intro h x hx ⟨h0, h1⟩
    rcases h x hx with h2 | h2
    · exact h0 h2
    · exact h1 h2
theorem pair_iff {m : Model} {n k : Nat} {r : Int} {t : List Int} {a b : List Opt} (ha : m.classes[n]? = some a) (hb : m.classes[k]? = some b) (hnk : (n : Int) < k) : pairP m ⟨n, k, r, t⟩ ↔ ruleP m r ∧ t.length = a.length * b.length ∧ ∀ x ∈ t, x = 0 ∨ priceP x := by
  unfold pairP
  simp only [Int.toNat_natCast, ha, hb]
  constructor
  · rintro ⟨h1, h2, h3, ⟨a', b', h4, h5, h6⟩, h7⟩
    cases h4; cases h5; exact ⟨h1, h6, h7⟩
  · rintro ⟨h1, h2, h3⟩
    exact ⟨h1, by omega, hnk, ⟨a, b, rfl, rfl, h2⟩, h3⟩
theorem pair_f {m : Model} {p : Pair} (h : ¬ (0 ≤ p.first ∧ p.first < p.second ∧ p.second < m.classes.length)) : ¬ pairP m p := fun ⟨h1, h2, h3, ⟨a, b, h4, h5, h6⟩, h7⟩ => by
  have := (List.getElem?_eq_some_iff.1 h5).1
  omega
theorem c_paired (m : Model) (p : Pair) (hz : sizedP m) : PCall Tryz.prog 30 [ag m.cells, ag p.row] (fun r => r = vbool (pB (pairP m p))) := by
  by_cases h : 0 ≤ p.first ∧ p.first < p.second ∧ p.second < m.classes.length
  · obtain ⟨h1, h2, h3⟩ := h
    obtain ⟨f, s, r, t⟩ := p
    dsimp only at h1 h2 h3 ⊢
    obtain ⟨n, rfl⟩ := Int.eq_ofNat_of_zero_le h1
    obtain ⟨k, rfl⟩ := Int.eq_ofNat_of_zero_le (show 0 ≤ s by omega)
    obtain ⟨a, ha⟩ := getE (show n < m.classes.length by omega)
    obtain ⟨b, hb⟩ := getE (show k < m.classes.length by omega)
    have hla := hz.2.1 a (List.mem_of_getElem? ha)
    have hlb := hz.2.1 b (List.mem_of_getElem? hb)
    have hab : a.length * b.length ≤ 576 := Nat.mul_le_mul hla hlb
    have hab1 : (a.length : Int) * b.length ≤ 576 := by exact_mod_cast hab
    have hab0 : (0 : Int) ≤ (a.length : Int) * b.length := by exact_mod_cast Nat.zero_le _
    have hcast : ((a.length * b.length : Nat) : Int) = (a.length : Int) * b.length := by simp
    refine acall_of tok mixed 55 rfl (fn := Tryz.f30) (c := Tryz.f30.body.getD .skip) (by kernel_rfl) (by kernel_rfl) (by kernel_rfl) rfl 0 rfl ?_
    rw [pB_iff (pair_iff ha hb h2)]
    repeat' (first | refine o1 ?_ | refine o2 ?_ | refine k1 ?_ | refine k2 ?_ | refine k3 ?_ | refine k6 ?_ | refine k7 ?_ | refine And.intro ?_ ?_ | refine o3 ?_ | refine o4 ?_ | (intro h; first | exact Bool.noConfusion h | exact nz _ h | exact nl h | (simp at h; done) | (simp at h; first | (exfalso; omega) | skip) | skip) | (change retOk _ _ _ _; refine ret_pure rfl trivial ?_) | exact (by kernel_rfl : drawOk _ _ = true) | refine eqv_len_map ?_ | refine eqv_wrap (by omega) (by omega) ?_ | refine ⟨_, _, (by first | rfl | assumption), at_map (by assumption), ?_⟩ | (change vcFunD _ _ _ _ _; refine callD_eq rfl (by repeat' (first | trivial | refine And.intro ?_ ?_ | (show 0 + _ ≤ List.length _; simp))) ALeL.refl (c_named m r) rfl ?_) | (change vcFun _ _ _ _ _; refine call_eq rfl (by repeat' (first | trivial | refine And.intro ?_ ?_ | (show 0 + _ ≤ List.length _; simp))) ALeL.refl (c_any_int t 53 [] (fun n => pB (n ≠ 0 ∧ ¬ priceP n)) (by omega) (fun n _ => c_paired1 n)) rfl ?_) | fail)
    all_goals first
      | (refine congrArg vbool (pB_f fun h => ?_).symm; obtain ⟨g1, g2, g3⟩ := h; first | exact absurd g1 (by assumption) | omega)
      | (refine congrArg vbool (pB_eq ?_); rw [price_any]; exact ⟨fun g => ⟨by assumption, by omega, g⟩, fun g => g.2.2⟩)
      | (exfalso; omega)
  · refine acall_of tok mixed 55 rfl (fn := Tryz.f30) (c := Tryz.f30.body.getD .skip) (by kernel_rfl) (by kernel_rfl) (by kernel_rfl) rfl 0 rfl ?_
    rw [pB_f (pair_f h)]
    repeat' (first | refine o1 ?_ | refine o2 ?_ | refine k1 ?_ | refine k2 ?_ | refine k3 ?_ | refine k7 ?_ | refine And.intro ?_ ?_ | refine o3 ?_ | refine o4 ?_ | (intro h; first | exact Bool.noConfusion h | exact nz _ h | exact nl h | (simp at h; done) | (simp at h; first | (exfalso; omega) | skip) | skip) | (change retOk _ _ _ _; refine ret_pure rfl trivial ?_) | exact (by kernel_rfl : drawOk _ _ = true) | refine eqv_len_map ?_ | (change vcFunD _ _ _ _ _; refine callD_eq rfl (by repeat' (first | trivial | refine And.intro ?_ ?_ | (show 0 + _ ≤ List.length _; simp))) ALeL.refl (c_named m p.rule) rfl ?_) | fail)
    all_goals first
      | exact rfl
      | (exfalso; omega)
theorem pairAt_zero {m : Model} {p : Pair} (hp : m.pairs[0]? = some p) : pairAt m 0 ↔ pairP m p :=
  ⟨fun h => (h p hp).1, fun h p' hp' => by rw [hp] at hp'; cases hp'; exact ⟨h, fun k q e => by omega⟩⟩
theorem pairAt_next {m : Model} {k : Nat} {p q : Pair} (hp : m.pairs[k + 1]? = some p) (hq : m.pairs[k]? = some q) : pairAt m (k + 1) ↔ pairP m p ∧ pairLt q p :=
  ⟨fun h => ⟨(h p hp).1, (h p hp).2 k q rfl hq⟩, fun h p' hp' => by
    rw [hp] at hp'; cases hp'
    refine ⟨h.1, fun k' q' e hq' => ?_⟩
    obtain rfl : k = k' := by omega
    rw [hq] at hq'; cases hq'; exact h.2⟩
theorem c_rpaired0 (m : Model)  (p : Pair) (hz : sizedP m) (hp : m.pairs[0]? = some p) : PCall Tryz.prog 38 [ag m.cells, vint .i64 ((0 : Nat) : Int)] (fun r => r = vbool (pB (pairAt m 0))) := by
  have hpl := (List.getElem?_eq_some_iff.1 hp).1
  have hpn := hz.2.2.1
  rw [pB_iff (pairAt_zero hp)]
  by_cases hcase : 0 ≤ p.first ∧ p.first < p.second ∧ p.second < m.classes.length
  · obtain ⟨h1, h2, h3⟩ := hcase
    obtain ⟨f, s, r, t⟩ := p
    dsimp only at h1 h2 h3 ⊢
    obtain ⟨n, rfl⟩ := Int.eq_ofNat_of_zero_le h1
    obtain ⟨k, rfl⟩ := Int.eq_ofNat_of_zero_le (show 0 ≤ s by omega)
    obtain ⟨a, ha⟩ := getE (show n < m.classes.length by omega)
    obtain ⟨b, hb⟩ := getE (show k < m.classes.length by omega)
    have hla := hz.2.1 a (List.mem_of_getElem? ha)
    have hlb := hz.2.1 b (List.mem_of_getElem? hb)
    have hab : a.length * b.length ≤ 576 := Nat.mul_le_mul hla hlb
    have hab1 : (a.length : Int) * b.length ≤ 576 := by exact_mod_cast hab
    have hab0 : (0 : Int) ≤ (a.length : Int) * b.length := by exact_mod_cast Nat.zero_le _
    have hcast : ((a.length * b.length : Nat) : Int) = (a.length : Int) * b.length := by simp
    have hpi := pair_iff (r := r) (t := t) ha hb h2
    refine acall_of tok mixed 114 rfl (fn := Tryz.f38) (c := Tryz.f38.body.getD .skip) (by kernel_rfl) (by kernel_rfl) (by kernel_rfl) rfl 0 rfl ?_
    repeat' (first | (refine idx_sl (k := 0) (at_map hp) (by omega) ?_) | refine o1 ?_ | refine o2 ?_ | refine k1 ?_ | refine k2 ?_ | refine k3 ?_ | refine k4 ?_ | refine k6 ?_ | refine k7 ?_ | refine And.intro ?_ ?_ | refine o3 ?_ | refine o4 ?_ | (intro h; first | exact Bool.noConfusion h | exact nz _ h | exact nl h | (simp at h; done) | (simp at h; first | (exfalso; omega) | skip) | skip) | (change retOk _ _ _ _; refine ret_pure rfl trivial ?_) | exact (by kernel_rfl : drawOk _ _ = true) | refine eqv_len_map ?_ | refine eqv_wrap (by omega) (by omega) ?_ | refine ⟨_, _, (by first | rfl | assumption), at_map (by assumption), ?_⟩ | (change vcFunD _ _ _ _ _; refine callD_eq rfl (by repeat' (first | trivial | refine And.intro ?_ ?_ | (show 0 + _ ≤ List.length _; simp))) ALeL.refl (c_rnamed m r) rfl ?_) | fail)
    all_goals first
      | (refine congrArg vbool (pB_f fun h => ?_).symm; obtain ⟨g1, g2, g3⟩ := hpi.1 (by first | exact h | exact h.1); first | exact absurd g1 (by assumption) | omega)
      | (exfalso; omega)
      | skip
    have htl : t.length ≤ 576 := by omega
    refine loop_at (fun i : Nat => [(6, vint .i64 i)]) (fun _ => []) (fun i => i ≤ t.length ∧ ∀ j, j < i → ∀ x, t[j]? = some x → x = 0 ∨ priceP x) (fun i => t.length - i) 0 ⟨by omega, fun j hj => by omega⟩ (by repeat' (first | exact trivial | exact ⟨_, rfl, ALe.refl⟩ | refine And.intro ?_ ?_)) (by repeat' (first | exact trivial | exact rfl | refine And.intro ?_ ?_)) ?_
    intro i ⟨hi, hall⟩
    rcases Nat.lt_or_ge i t.length with hlt | hge
    · obtain ⟨x, hx⟩ := getE hlt
      repeat' (first | (refine idx_sl (k := i) (at_map hx) (by omega) ?_) | refine o1 ?_ | refine o2 ?_ | refine k1 ?_ | refine k2 ?_ | refine k3 ?_ | refine k4 ?_ | refine k6 ?_ | refine k7 ?_ | refine And.intro ?_ ?_ | (intro h; first | exact Bool.noConfusion h | exact nz _ h | exact nl h | (simp at h; done) | (simp at h; first | (exfalso; omega) | skip) | skip) | (change retOk _ _ _ _; refine ret_pure rfl trivial ?_) | refine eqv_len_map ?_ | refine eqv_wrap (by omega) (by omega) ?_ | (change vcFun _ _ _ _ _; refine call_eq rfl (by repeat' (first | trivial | refine And.intro ?_ ?_ | (show 0 + _ ≤ List.length _; simp))) ALeL.refl (c_rcost x) rfl ?_) | fail)
      all_goals first
        | (refine congrArg vbool (pB_f fun h => ?_).symm; obtain ⟨g1, g2, g3⟩ := hpi.1 (by first | exact h | exact h.1); exact (g3 x (List.mem_of_getElem? hx)).elim (fun g => absurd g (by assumption)) (fun g => absurd g (by assumption)))
        | exact ⟨i + 1, ⟨by omega, all_lt_succ hall fun x' h' => by rw [hx] at h'; cases h'; first | exact .inl (by omega) | exact .inr (by assumption)⟩, by omega, back [0, 1] rfl rfl ⟨rfl, rfl, trivial⟩ (by repeat' (first | exact trivial | exact rfl | refine And.intro ?_ ?_))⟩
        | (exfalso; omega)
    · have hP := hpi.2 ⟨by assumption, by omega, fun x hx => by
        obtain ⟨j, hj⟩ := List.getElem?_of_mem hx
        exact hall j (by have := (List.getElem?_eq_some_iff.1 hj).1; omega) x hj⟩
      repeat' (first | refine o1 ?_ | refine o2 ?_ | refine k1 ?_ | refine k2 ?_ | refine k3 ?_ | refine k7 ?_ | refine k8 ?_ | refine And.intro ?_ ?_ | (intro h; first | exact Bool.noConfusion h | exact nz _ h | exact nl h | (simp at h; done) | (simp at h; first | (exfalso; omega) | skip) | skip) | (change retOk _ _ _ _; refine ret_pure rfl trivial ?_) | refine eqv_len_map ?_ | fail)
      all_goals first
        | exact congrArg vbool (pB_t hP).symm
        | (refine congrArg vbool (pB_eq ?_); rw [and_iff_right hP]; unfold pairLt; dsimp only; simp only [decide_eq_true_eq]; omega)
        | (exfalso; omega)
  · refine acall_of tok mixed 114 rfl (fn := Tryz.f38) (c := Tryz.f38.body.getD .skip) (by kernel_rfl) (by kernel_rfl) (by kernel_rfl) rfl 0 rfl ?_
    repeat' (first | (refine idx_sl (k := 0) (at_map hp) (by omega) ?_) | refine o1 ?_ | refine o2 ?_ | refine k1 ?_ | refine k2 ?_ | refine k3 ?_ | refine k7 ?_ | refine And.intro ?_ ?_ | refine o3 ?_ | refine o4 ?_ | (intro h; first | exact Bool.noConfusion h | exact nz _ h | exact nl h | (simp at h; done) | (simp at h; first | (exfalso; omega) | skip) | skip) | (change retOk _ _ _ _; refine ret_pure rfl trivial ?_) | exact (by kernel_rfl : drawOk _ _ = true) | refine eqv_len_map ?_ | (change vcFunD _ _ _ _ _; refine callD_eq rfl (by repeat' (first | trivial | refine And.intro ?_ ?_ | (show 0 + _ ≤ List.length _; simp))) ALeL.refl (c_rnamed m p.rule) rfl ?_) | fail)
    all_goals first
      | exact congrArg vbool (pB_f fun h' => pair_f hcase (by first | exact h' | exact h'.1)).symm
      | (exfalso; omega)
theorem c_rpairedS (m : Model) (k0 : Nat) (q : Pair) (hq : m.pairs[k0]? = some q) (p : Pair) (hz : sizedP m) (hp : m.pairs[(k0 + 1)]? = some p) : PCall Tryz.prog 38 [ag m.cells, vint .i64 (((k0 + 1) : Nat) : Int)] (fun r => r = vbool (pB (pairAt m (k0 + 1)))) := by
  have hpl := (List.getElem?_eq_some_iff.1 hp).1
  have hpn := hz.2.2.1
  rw [pB_iff (pairAt_next hp hq)]
  by_cases hcase : 0 ≤ p.first ∧ p.first < p.second ∧ p.second < m.classes.length
  · obtain ⟨h1, h2, h3⟩ := hcase
    obtain ⟨f, s, r, t⟩ := p
    dsimp only at h1 h2 h3 ⊢
    obtain ⟨n, rfl⟩ := Int.eq_ofNat_of_zero_le h1
    obtain ⟨k, rfl⟩ := Int.eq_ofNat_of_zero_le (show 0 ≤ s by omega)
    obtain ⟨a, ha⟩ := getE (show n < m.classes.length by omega)
    obtain ⟨b, hb⟩ := getE (show k < m.classes.length by omega)
    have hla := hz.2.1 a (List.mem_of_getElem? ha)
    have hlb := hz.2.1 b (List.mem_of_getElem? hb)
    have hab : a.length * b.length ≤ 576 := Nat.mul_le_mul hla hlb
    have hab1 : (a.length : Int) * b.length ≤ 576 := by exact_mod_cast hab
    have hab0 : (0 : Int) ≤ (a.length : Int) * b.length := by exact_mod_cast Nat.zero_le _
    have hcast : ((a.length * b.length : Nat) : Int) = (a.length : Int) * b.length := by simp
    have hpi := pair_iff (r := r) (t := t) ha hb h2
    refine acall_of tok mixed 114 rfl (fn := Tryz.f38) (c := Tryz.f38.body.getD .skip) (by kernel_rfl) (by kernel_rfl) (by kernel_rfl) rfl 0 rfl ?_
    repeat' (first | (refine idx_sl (k := (k0 + 1)) (at_map hp) (by omega) ?_) | refine o1 ?_ | refine o2 ?_ | refine k1 ?_ | refine k2 ?_ | refine k3 ?_ | refine k4 ?_ | refine k6 ?_ | refine k7 ?_ | refine And.intro ?_ ?_ | refine o3 ?_ | refine o4 ?_ | (intro h; first | exact Bool.noConfusion h | exact nz _ h | exact nl h | (simp at h; done) | (simp at h; first | (exfalso; omega) | skip) | skip) | (change retOk _ _ _ _; refine ret_pure rfl trivial ?_) | exact (by kernel_rfl : drawOk _ _ = true) | refine eqv_len_map ?_ | refine eqv_wrap (by omega) (by omega) ?_ | refine ⟨_, _, (by first | rfl | assumption), at_map (by assumption), ?_⟩ | (change vcFunD _ _ _ _ _; refine callD_eq rfl (by repeat' (first | trivial | refine And.intro ?_ ?_ | (show 0 + _ ≤ List.length _; simp))) ALeL.refl (c_rnamed m r) rfl ?_) | fail)
    all_goals first
      | (refine congrArg vbool (pB_f fun h => ?_).symm; obtain ⟨g1, g2, g3⟩ := hpi.1 (by first | exact h | exact h.1); first | exact absurd g1 (by assumption) | omega)
      | (exfalso; omega)
      | skip
    have htl : t.length ≤ 576 := by omega
    refine loop_at (fun i : Nat => [(6, vint .i64 i)]) (fun _ => []) (fun i => i ≤ t.length ∧ ∀ j, j < i → ∀ x, t[j]? = some x → x = 0 ∨ priceP x) (fun i => t.length - i) 0 ⟨by omega, fun j hj => by omega⟩ (by repeat' (first | exact trivial | exact ⟨_, rfl, ALe.refl⟩ | refine And.intro ?_ ?_)) (by repeat' (first | exact trivial | exact rfl | refine And.intro ?_ ?_)) ?_
    intro i ⟨hi, hall⟩
    rcases Nat.lt_or_ge i t.length with hlt | hge
    · obtain ⟨x, hx⟩ := getE hlt
      repeat' (first | (refine idx_sl (k := i) (at_map hx) (by omega) ?_) | refine o1 ?_ | refine o2 ?_ | refine k1 ?_ | refine k2 ?_ | refine k3 ?_ | refine k4 ?_ | refine k6 ?_ | refine k7 ?_ | refine And.intro ?_ ?_ | (intro h; first | exact Bool.noConfusion h | exact nz _ h | exact nl h | (simp at h; done) | (simp at h; first | (exfalso; omega) | skip) | skip) | (change retOk _ _ _ _; refine ret_pure rfl trivial ?_) | refine eqv_len_map ?_ | refine eqv_wrap (by omega) (by omega) ?_ | (change vcFun _ _ _ _ _; refine call_eq rfl (by repeat' (first | trivial | refine And.intro ?_ ?_ | (show 0 + _ ≤ List.length _; simp))) ALeL.refl (c_rcost x) rfl ?_) | fail)
      all_goals first
        | (refine congrArg vbool (pB_f fun h => ?_).symm; obtain ⟨g1, g2, g3⟩ := hpi.1 (by first | exact h | exact h.1); exact (g3 x (List.mem_of_getElem? hx)).elim (fun g => absurd g (by assumption)) (fun g => absurd g (by assumption)))
        | exact ⟨i + 1, ⟨by omega, all_lt_succ hall fun x' h' => by rw [hx] at h'; cases h'; first | exact .inl (by omega) | exact .inr (by assumption)⟩, by omega, back [0, 1] rfl rfl ⟨rfl, rfl, trivial⟩ (by repeat' (first | exact trivial | exact rfl | refine And.intro ?_ ?_))⟩
        | (exfalso; omega)
    · have hP := hpi.2 ⟨by assumption, by omega, fun x hx => by
        obtain ⟨j, hj⟩ := List.getElem?_of_mem hx
        exact hall j (by have := (List.getElem?_eq_some_iff.1 hj).1; omega) x hj⟩
      repeat' (first | (refine idx_sl (k := k0) (at_map hq) (by omega) ?_) | refine o1 ?_ | refine o2 ?_ | refine k1 ?_ | refine k2 ?_ | refine k3 ?_ | refine k6 ?_ | refine k7 ?_ | refine k8 ?_ | refine And.intro ?_ ?_ | (intro h; first | exact Bool.noConfusion h | exact nz _ h | exact nl h | (simp at h; done) | (simp at h; first | (exfalso; omega) | skip) | skip) | (change retOk _ _ _ _; refine ret_pure rfl trivial ?_) | exact (by kernel_rfl : drawOk _ _ = true) | refine eqv_len_map ?_ | refine eqv_wrap (by omega) (by omega) ?_ | fail)
      all_goals first
        | exact congrArg vbool (pB_t hP).symm
        | (refine congrArg vbool (pB_eq ?_); rw [and_iff_right hP]; unfold pairLt; dsimp only; simp only [decide_eq_true_eq]; omega)
        | (exfalso; omega)
  · refine acall_of tok mixed 114 rfl (fn := Tryz.f38) (c := Tryz.f38.body.getD .skip) (by kernel_rfl) (by kernel_rfl) (by kernel_rfl) rfl 0 rfl ?_
    repeat' (first | (refine idx_sl (k := (k0 + 1)) (at_map hp) (by omega) ?_) | refine o1 ?_ | refine o2 ?_ | refine k1 ?_ | refine k2 ?_ | refine k3 ?_ | refine k7 ?_ | refine And.intro ?_ ?_ | refine o3 ?_ | refine o4 ?_ | (intro h; first | exact Bool.noConfusion h | exact nz _ h | exact nl h | (simp at h; done) | (simp at h; first | (exfalso; omega) | skip) | skip) | (change retOk _ _ _ _; refine ret_pure rfl trivial ?_) | exact (by kernel_rfl : drawOk _ _ = true) | refine eqv_len_map ?_ | (change vcFunD _ _ _ _ _; refine callD_eq rfl (by repeat' (first | trivial | refine And.intro ?_ ?_ | (show 0 + _ ≤ List.length _; simp))) ALeL.refl (c_rnamed m p.rule) rfl ?_) | fail)
    all_goals first
      | exact congrArg vbool (pB_f fun h' => pair_f hcase (by first | exact h' | exact h'.1)).symm
      | (exfalso; omega)
end Go.Proofs.YtfdjcpodkhpgcaaGreat.Cw

/-
  Contracts: counts of models.
-/
namespace Go.Proofs.YtfdjcpodkhpgcaaGreat.Cw
open Go.Cw Go.Proofs
set_option linter.unusedVariables false
set_option maxRecDepth 100000
set_option maxHeartbeats 800000

def loadLt (y x : Load) : Prop := y.cls < x.cls ∨ (y.cls = x.cls ∧ y.opt < x.opt)
theorem load_zero {m : Model} {l : List Load} {x : Load} (hx : l[0]? = some x) : loadAt m l 0 ↔ optionP m x.cls x.opt ∧ 1 ≤ x.weight ∧ x.weight ≤ 1000 :=
  ⟨fun h => ⟨(h x hx).1, (h x hx).2.1, (h x hx).2.2.1⟩, fun h x' h' => by rw [hx] at h'; cases h'; exact ⟨h.1, h.2.1, h.2.2, fun k y e => by omega⟩⟩
theorem load_next {m : Model} {l : List Load} {k : Nat} {x y : Load} (hx : l[k + 1]? = some x) (hy : l[k]? = some y) : loadAt m l (k + 1) ↔ optionP m x.cls x.opt ∧ 1 ≤ x.weight ∧ x.weight ≤ 1000 ∧ loadLt y x :=
  ⟨fun h => ⟨(h x hx).1, (h x hx).2.1, (h x hx).2.2.1, (h x hx).2.2.2 k y rfl hy⟩, fun h x' h' => by
    rw [hx] at h'; cases h'
    refine ⟨h.1, h.2.1, h.2.2.1, fun k' y' e hy' => ?_⟩
    obtain rfl : k = k' := by omega
    rw [hy] at hy'; cases hy'; exact h.2.2.2⟩
theorem load_cmp {y x : Load} : orI [cmpI y.cls x.cls, cmpI y.opt x.opt] < 0 ↔ loadLt y x := by
  simp only [orI, cmpI, loadLt]
  grind
theorem load_cmp2 {y x : Load} : 0 ≤ orI [cmpI y.cls x.cls, cmpI y.opt x.opt] ↔ ¬ loadLt y x := by
  rw [← load_cmp]; omega
theorem c_counted (m : Model) (c : Count) (hc : c.loads.length ≤ 9223372036854775807) : PCall Tryz.prog 34 [ag m.cells, ag c.row] (fun r => r = vbool (pB (countP_ m c))) := by
  refine acall_of tok mixed 81 rfl (fn := Tryz.f34) (c := Tryz.f34.body.getD .skip) (by kernel_rfl) (by kernel_rfl) (by kernel_rfl) rfl 0 rfl ?_
  repeat' (first | refine o1 ?_ | refine o2 ?_ | refine k1 ?_ | refine k2 ?_ | refine k3 ?_ | refine k4 ?_ | refine k6 ?_ | refine k7 ?_ | refine And.intro ?_ ?_ | (intro h; first | exact Bool.noConfusion h | exact nz _ h | exact nl h | (simp at h; done) | (simp at h; first | (exfalso; omega) | skip) | skip) | (change retOk _ _ _ _; refine ret_pure rfl trivial ?_) | refine eqv_len_map ?_ | (change vcFun _ _ _ _ _; refine call_eq rfl (by repeat' (first | trivial | refine And.intro ?_ ?_ | (show 0 + _ ≤ List.length _; simp))) ALeL.refl (c_named m c.rule) rfl ?_) | (change vcFun _ _ _ _ _; refine call_eq rfl (by repeat' (first | trivial | refine And.intro ?_ ?_ | (show 0 + _ ≤ List.length _; simp))) ALeL.refl (c_cost c.penalty) rfl ?_) | fail)
  all_goals first
    | (refine congrArg vbool (pB_f fun h => ?_).symm; obtain ⟨g1, g2, g3, g4, g5⟩ := h; first | exact absurd g1 (by assumption) | exact absurd g4 (by assumption) | omega)
    | skip
  refine loop_at (fun i : Nat => [(31, vint .i64 i)]) (fun _ => []) (fun i => i ≤ c.loads.length ∧ ∀ j, j < i → loadAt m c.loads j) (fun i => c.loads.length - i) 0 ⟨by omega, fun j hj => by omega⟩ (by repeat' (first | exact trivial | exact ⟨_, rfl, ALe.refl⟩ | refine And.intro ?_ ?_)) (by repeat' (first | exact trivial | exact rfl | refine And.intro ?_ ?_)) ?_
  intro i ⟨hi, hall⟩
  rcases Nat.lt_or_ge i c.loads.length with hlt | hge
  · obtain ⟨x, hx⟩ := getE hlt
    rcases i with _ | k
    · have hz := load_zero (m := m) hx
      repeat' (first | (refine idx_sl (k := 0) (at_map hx) (by omega) ?_) | refine o1 ?_ | refine o2 ?_ | refine k1 ?_ | refine k2 ?_ | refine k3 ?_ | refine k4 ?_ | refine k6 ?_ | refine k7 ?_ | refine k8 ?_ | refine And.intro ?_ ?_ | refine o3 ?_ | refine o4 ?_ | (intro h; first | exact Bool.noConfusion h | exact nz _ h | exact nl h | (simp at h; done) | (simp at h; first | (exfalso; omega) | skip) | skip) | (change retOk _ _ _ _; refine ret_pure rfl trivial ?_) | exact (by kernel_rfl : drawOk _ _ = true) | refine eqv_wrap (by omega) (by omega) ?_ | (change vcFun _ _ _ _ _; refine call_eq rfl (by repeat' (first | trivial | refine And.intro ?_ ?_ | (show 0 + _ ≤ List.length _; simp))) ALeL.refl (c_option m x.cls x.opt) rfl ?_) | fail)
      all_goals first
        | (refine congrArg vbool (pB_f fun h => ?_).symm; obtain ⟨g1, g2, g3⟩ := hz.1 (h.2.2.2.2 _ hlt); first | exact absurd g1 (by assumption) | omega)
        | exact ⟨1, ⟨by omega, all_lt_succ hall (hz.2 ⟨by assumption, by omega, by omega⟩)⟩, by omega, back [0, 1] rfl rfl ⟨rfl, rfl, trivial⟩ (by repeat' (first | exact trivial | exact rfl | refine And.intro ?_ ?_))⟩
        | (exfalso; simp_all; done)
        | (exfalso; omega)
    · obtain ⟨y, hy⟩ := getE (show k < c.loads.length by omega)
      have hz := load_next (m := m) hx hy
      repeat' (first | (refine idx_sl (k := k + 1) (at_map hx) (by omega) ?_) | (refine idx_sl (k := k) (at_map hy) (by omega) ?_) | refine o1 ?_ | refine o2 ?_ | refine k1 ?_ | refine k2 ?_ | refine k3 ?_ | refine k4 ?_ | refine k6 ?_ | refine k7 ?_ | refine And.intro ?_ ?_ | refine o3 ?_ | refine o4 ?_ | (intro h; first | exact Bool.noConfusion h | exact nz _ h | exact nl h | (simp at h; done) | (simp at h; first | (exfalso; omega) | skip) | skip) | (change retOk _ _ _ _; refine ret_pure rfl trivial ?_) | exact (by kernel_rfl : drawOk _ _ = true) | refine eqv_wrap (by omega) (by omega) ?_ | (change vcFun _ _ _ _ _; refine call_eq rfl (by repeat' (first | trivial | refine And.intro ?_ ?_ | (show 0 + _ ≤ List.length _; simp))) ALeL.refl (c_option m x.cls x.opt) rfl ?_) | (change vcFunD _ _ _ _ _; refine callD_eq rfl (by repeat' (first | trivial | refine And.intro ?_ ?_ | (show 0 + _ ≤ List.length _; simp))) ALeL.refl (c_cmp _ _) rfl ?_) | (change vcFunD _ _ _ _ _; refine callD_eq rfl (by repeat' (first | trivial | refine And.intro ?_ ?_ | (show 0 + _ ≤ List.length _; simp))) ALeL.refl (c_or [cmpI y.cls x.cls, cmpI y.opt x.opt] (Nat.le_of_ble_eq_true rfl)) rfl ?_) | fail)
      all_goals first
        | (refine congrArg vbool (pB_f fun h => ?_).symm; obtain ⟨g1, g2, g3, g4⟩ := hz.1 (h.2.2.2.2 _ hlt); first | exact absurd g1 (by assumption) | omega | exact absurd g4 (load_cmp2.1 (by assumption)) | (unfold loadLt at g4; omega))
        | exact ⟨k + 2, ⟨by omega, all_lt_succ hall (hz.2 ⟨by assumption, by omega, by omega, by first | exact load_cmp.1 (by omega) | (unfold loadLt; omega)⟩)⟩, by omega, back [0, 1] rfl rfl ⟨rfl, rfl, trivial⟩ (by repeat' (first | exact trivial | exact rfl | refine And.intro ?_ ?_))⟩
        | (exfalso; omega)
  · repeat' (first | refine o1 ?_ | refine o2 ?_ | refine k1 ?_ | refine k2 ?_ | refine k3 ?_ | refine k7 ?_ | refine k8 ?_ | refine And.intro ?_ ?_ | (intro h; first | exact Bool.noConfusion h | exact nz _ h | exact nl h | (simp at h; done) | (simp at h; first | (exfalso; omega) | skip) | skip) | (change retOk _ _ _ _; refine ret_pure rfl trivial ?_) | fail)
    all_goals first
      | exact congrArg vbool (pB_t ⟨by assumption, by omega, by omega, by assumption, fun j hj => hall j (by omega)⟩).symm
theorem c_rcounted (m : Model) (c : Count) (hc : c.loads.length ≤ 9223372036854775807) : PCall Tryz.prog 39 [ag m.cells, ag c.row] (fun r => r = vbool (pB (countP_ m c))) := by
  refine acall_of tok mixed 85 rfl (fn := Tryz.f39) (c := Tryz.f39.body.getD .skip) (by kernel_rfl) (by kernel_rfl) (by kernel_rfl) rfl 0 rfl ?_
  repeat' (first | refine o1 ?_ | refine o2 ?_ | refine k1 ?_ | refine k2 ?_ | refine k3 ?_ | refine k4 ?_ | refine k6 ?_ | refine k7 ?_ | refine And.intro ?_ ?_ | (intro h; first | exact Bool.noConfusion h | exact nz _ h | exact nl h | (simp at h; done) | (simp at h; first | (exfalso; omega) | skip) | skip) | (change retOk _ _ _ _; refine ret_pure rfl trivial ?_) | (change vcFun _ _ _ _ _; refine call_eq rfl (by repeat' (first | trivial | refine And.intro ?_ ?_ | (show 0 + _ ≤ List.length _; simp))) ALeL.refl (c_rnamed m c.rule) rfl ?_) | (change vcFun _ _ _ _ _; refine call_eq rfl (by repeat' (first | trivial | refine And.intro ?_ ?_ | (show 0 + _ ≤ List.length _; simp))) ALeL.refl (c_rcost c.penalty) rfl ?_) | fail)
  all_goals first
    | (refine congrArg vbool (pB_f fun h => ?_).symm; obtain ⟨g1, g2, g3, g4, g5⟩ := h; first | exact absurd g1 (by assumption) | exact absurd g4 (by assumption) | omega)
    | skip
  refine loop_at (fun i : Nat => [(5, vint .i64 i)]) (fun _ => []) (fun i => i ≤ c.loads.length ∧ ∀ j, j < i → loadAt m c.loads j) (fun i => c.loads.length - i) 0 ⟨by omega, fun j hj => by omega⟩ (by repeat' (first | exact trivial | exact ⟨_, rfl, ALe.refl⟩ | refine And.intro ?_ ?_)) (by repeat' (first | exact trivial | exact rfl | refine And.intro ?_ ?_)) ?_
  intro i ⟨hi, hall⟩
  rcases Nat.lt_or_ge i c.loads.length with hlt | hge
  · obtain ⟨x, hx⟩ := getE hlt
    rcases i with _ | k
    · have hz := load_zero (m := m) hx
      repeat' (first | (refine idx_sl (k := 0) (at_map hx) (by omega) ?_) | refine o1 ?_ | refine o2 ?_ | refine k1 ?_ | refine k2 ?_ | refine k3 ?_ | refine k4 ?_ | refine k6 ?_ | refine k7 ?_ | refine k8 ?_ | refine And.intro ?_ ?_ | (intro h; first | exact Bool.noConfusion h | exact nz _ h | exact nl h | (simp at h; done) | (simp at h; first | (exfalso; omega) | skip) | skip) | (change retOk _ _ _ _; refine ret_pure rfl trivial ?_) | exact (by kernel_rfl : drawOk _ _ = true) | refine eqv_len_map ?_ | refine eqv_wrap (by omega) (by omega) ?_ | (change vcFun _ _ _ _ _; refine call_eq rfl (by repeat' (first | trivial | refine And.intro ?_ ?_ | (show 0 + _ ≤ List.length _; simp))) ALeL.refl (c_roption m x.cls x.opt) rfl ?_) | fail)
      all_goals first
        | (refine congrArg vbool (pB_f fun h => ?_).symm; obtain ⟨g1, g2, g3⟩ := hz.1 (h.2.2.2.2 _ hlt); first | exact absurd g1 (by assumption) | omega)
        | exact ⟨1, ⟨by omega, all_lt_succ hall (hz.2 ⟨by assumption, by omega, by omega⟩)⟩, by omega, back [0, 1] rfl rfl ⟨rfl, rfl, trivial⟩ (by repeat' (first | exact trivial | exact rfl | refine And.intro ?_ ?_))⟩
        | (exfalso; simp_all; done)
        | (exfalso; omega)
    · obtain ⟨y, hy⟩ := getE (show k < c.loads.length by omega)
      have hz := load_next (m := m) hx hy
      repeat' (first | (refine idx_sl (k := k + 1) (at_map hx) (by omega) ?_) | (refine idx_sl (k := k) (at_map hy) (by omega) ?_) | refine o1 ?_ | refine o2 ?_ | refine k1 ?_ | refine k2 ?_ | refine k3 ?_ | refine k4 ?_ | refine k6 ?_ | refine k7 ?_ | refine And.intro ?_ ?_ | (intro h; first | exact Bool.noConfusion h | exact nz _ h | exact nl h | (simp at h; done) | (simp at h; first | (exfalso; omega) | skip) | skip) | (change retOk _ _ _ _; refine ret_pure rfl trivial ?_) | exact (by kernel_rfl : drawOk _ _ = true) | refine eqv_len_map ?_ | refine eqv_wrap (by omega) (by omega) ?_ | (change vcFun _ _ _ _ _; refine call_eq rfl (by repeat' (first | trivial | refine And.intro ?_ ?_ | (show 0 + _ ≤ List.length _; simp))) ALeL.refl (c_roption m x.cls x.opt) rfl ?_) | fail)
      all_goals first
        | (refine congrArg vbool (pB_f fun h => ?_).symm; obtain ⟨g1, g2, g3, g4⟩ := hz.1 (h.2.2.2.2 _ hlt); first | exact absurd g1 (by assumption) | omega | exact absurd g4 (load_cmp2.1 (by assumption)) | (unfold loadLt at g4; omega))
        | exact ⟨k + 2, ⟨by omega, all_lt_succ hall (hz.2 ⟨by assumption, by omega, by omega, by first | exact load_cmp.1 (by omega) | (unfold loadLt; omega)⟩)⟩, by omega, back [0, 1] rfl rfl ⟨rfl, rfl, trivial⟩ (by repeat' (first | exact trivial | exact rfl | refine And.intro ?_ ?_))⟩
        | (exfalso; omega)
  · repeat' (first | refine o1 ?_ | refine o2 ?_ | refine k1 ?_ | refine k2 ?_ | refine k3 ?_ | refine k7 ?_ | refine k8 ?_ | refine And.intro ?_ ?_ | (intro h; first | exact Bool.noConfusion h | exact nz _ h | exact nl h | (simp at h; done) | (simp at h; first | (exfalso; omega) | skip) | skip) | (change retOk _ _ _ _; refine ret_pure rfl trivial ?_) | refine eqv_len_map ?_ | fail)
    all_goals first
      | exact congrArg vbool (pB_t ⟨by assumption, by omega, by omega, by assumption, fun j hj => hall j (by omega)⟩).symm
end Go.Proofs.YtfdjcpodkhpgcaaGreat.Cw

/-
  Contracts: valid models.
-/
namespace Go.Proofs.YtfdjcpodkhpgcaaGreat.Cw
open Go.Cw Go.Proofs
set_option linter.unusedVariables false
set_option maxRecDepth 100000
set_option maxHeartbeats 1600000

theorem c_valid1 (m : Model) (o : Opt) (ho : o.charges.length ≤ 9223372036854775807) : PCall Tryz.prog 28 [ag o.row, .pv (.ia m.cells)] (fun r => r = vbool (pB (¬ chargesP m o))) := by
  refine acall_of tok mixed 8 rfl (fn := Tryz.f28) (c := Tryz.f28.body.getD .skip) (by kernel_rfl) (by kernel_rfl) (by kernel_rfl) rfl 0 rfl ?_
  repeat' (first | refine o1 ?_ | refine o2 ?_ | refine k1 ?_ | refine k2 ?_ | refine k7 ?_ | (change retOk _ _ _ _; refine ret_pure rfl trivial ?_) | (change vcFun _ _ _ _ _; refine call_eq rfl (by repeat' (first | trivial | refine And.intro ?_ ?_ | (show 0 + _ ≤ List.length _; simp))) ALeL.refl (c_charged m o ho) rfl ?_) | fail)
  all_goals first
    | exact congrArg vbool (pB_eq (by simp))
theorem c_valid2 (m : Model) (c : Count) (hc : c.loads.length ≤ 9223372036854775807) : PCall Tryz.prog 33 [ag c.row, .pv (.ia m.cells)] (fun r => r = vbool (pB (¬ countP_ m c))) := by
  refine acall_of tok mixed 8 rfl (fn := Tryz.f33) (c := Tryz.f33.body.getD .skip) (by kernel_rfl) (by kernel_rfl) (by kernel_rfl) rfl 0 rfl ?_
  repeat' (first | refine o1 ?_ | refine o2 ?_ | refine k1 ?_ | refine k2 ?_ | refine k7 ?_ | (change retOk _ _ _ _; refine ret_pure rfl trivial ?_) | (change vcFun _ _ _ _ _; refine call_eq rfl (by repeat' (first | trivial | refine And.intro ?_ ?_ | (show 0 + _ ≤ List.length _; simp))) ALeL.refl (c_counted m c hc) rfl ?_) | fail)
  all_goals first
    | exact congrArg vbool (pB_eq (by simp))
theorem all_mem {α : Type} {l : List α} {p : α → Prop} {n : Nat} (hn : l.length ≤ n) (h : ∀ j, j < n → ∀ x, l[j]? = some x → p x) : ∀ x ∈ l, p x := fun x hx => by
  obtain ⟨j, hj⟩ := List.getElem?_of_mem hx
  exact h j (by have := (List.getElem?_eq_some_iff.1 hj).1; omega) x hj
theorem any_no {l : List Opt} {m : Model} (h : (l.any fun o => pB (¬ chargesP m o)) = false) : ∀ o ∈ l, chargesP m o := by
  simpa [List.any_eq_false] using h
theorem good_c {m : Model} (g : goodP m) {i : Nat} {l : List Opt} (hl : m.classes[i]? = some l) : ∀ o ∈ l, chargesP m o := g.1 l (List.mem_of_getElem? hl)
theorem c_valid (m : Model) (hl : Laid m) : PCall Tryz.prog 11 [ag m.cells] (fun r => r = vint .i64 (modelE m)) := by
  by_cases hz : sizedP m
  · refine acall_of tok mixed 52 rfl (fn := Tryz.f11) (c := Tryz.f11.body.getD .skip) (by kernel_rfl) (by kernel_rfl) (by kernel_rfl) rfl 0 rfl ?_
    have hcn := hz.1
    have hpn := hz.2.2.1
    have hon := hz.2.2.2.1
    repeat' (first | refine o1 ?_ | refine o2 ?_ | refine k1 ?_ | refine k2 ?_ | refine k3 ?_ | refine k4 ?_ | refine k6 ?_ | refine k7 ?_ | refine And.intro ?_ ?_ | (intro h; first | exact Bool.noConfusion h | exact nz _ h | exact nl h | (simp at h; done) | (simp at h; first | (exfalso; omega) | skip) | skip) | (change retOk _ _ _ _; refine ret_pure rfl trivial ?_) | refine eqv_len_map ?_ | (change vcFun _ _ _ _ _; refine call_eq rfl (by repeat' (first | trivial | refine And.intro ?_ ?_ | (show 0 + _ ≤ List.length _; simp))) ALeL.refl (c_large m) rfl ?_) | fail)
    all_goals first
      | (exfalso; exact (by assumption : ¬ sizedP m) hz)
      | skip
    refine loop_at (fun i : Nat => [(12, vint .i64 i)]) (fun _ => []) (fun i => i ≤ m.classes.length ∧ ∀ j, j < i → ∀ l, m.classes[j]? = some l → ∀ o ∈ l, chargesP m o) (fun i => m.classes.length - i) 0 ⟨by omega, fun j hj => by omega⟩ (by repeat' (first | exact trivial | exact ⟨_, rfl, ALe.refl⟩ | refine And.intro ?_ ?_)) (by repeat' (first | exact trivial | exact rfl | refine And.intro ?_ ?_)) ?_
    intro i ⟨hi, hall⟩
    rcases Nat.lt_or_ge i m.classes.length with hlt | hge
    · obtain ⟨l, hl1⟩ := getE hlt
      have hll := hz.2.1 l (List.mem_of_getElem? hl1)
      repeat' (first | refine o1 ?_ | refine o2 ?_ | refine k1 ?_ | refine k2 ?_ | refine k3 ?_ | refine k4 ?_ | refine k6 ?_ | refine k7 ?_ | refine And.intro ?_ ?_ | (intro h; first | exact Bool.noConfusion h | exact nz _ h | exact nl h | (simp at h; done) | (simp at h; first | (exfalso; omega) | skip) | skip) | (change retOk _ _ _ _; refine ret_pure rfl trivial ?_) | refine eqv_wrap (by omega) (by omega) ?_ | refine ⟨_, _, (by first | rfl | assumption), at_map (by assumption), ?_⟩ | (change vcFun _ _ _ _ _; refine call_eq rfl (by repeat' (first | trivial | refine And.intro ?_ ?_ | (show 0 + _ ≤ List.length _; simp))) ALeL.refl (c_any_opt l 28 [.ia m.cells] (fun o => pB (¬ chargesP m o)) (by omega) (fun o ho => c_valid1 m o (hl.ch l (List.mem_of_getElem? hl1) o ho))) rfl ?_) | fail)
      all_goals first
        | (refine congrArg (vint .i64) (mE1 hz fun g => ?_).symm; obtain ⟨o, ho, hno⟩ := (by assumption : ∃ x, x ∈ l ∧ ¬ chargesP m x); exact hno (good_c g hl1 o ho))
        | exact ⟨i + 1, ⟨by omega, all_lt_succ hall fun l' h' => by rw [hl1] at h'; cases h'; assumption⟩, by omega, back [0] rfl rfl ⟨rfl, trivial⟩ (by repeat' (first | exact trivial | exact rfl | refine And.intro ?_ ?_))⟩
    · have hch : ∀ l ∈ m.classes, ∀ o ∈ l, chargesP m o := fun l hl => by
        obtain ⟨j, hj⟩ := List.getElem?_of_mem hl
        exact hall j (by have := (List.getElem?_eq_some_iff.1 hj).1; omega) l hj
      repeat' (first | refine o1 ?_ | refine o2 ?_ | refine k1 ?_ | refine k2 ?_ | refine k3 ?_ | refine k4 ?_ | refine k8 ?_ | refine And.intro ?_ ?_ | (intro h; first | exact Bool.noConfusion h | exact nz _ h | exact nl h | (simp at h; done) | (simp at h; first | (exfalso; omega) | skip) | skip) | refine eqv_len_map ?_ | fail)
      refine loop_at (fun i : Nat => [(23, vint .i64 i)]) (fun _ => []) (fun i => i ≤ m.pairs.length ∧ ∀ j, j < i → pairAt m j) (fun i => m.pairs.length - i) 0 ⟨by omega, fun j hj => by omega⟩ (by repeat' (first | exact trivial | exact ⟨_, rfl, ALe.refl⟩ | refine And.intro ?_ ?_)) (by repeat' (first | exact trivial | exact rfl | refine And.intro ?_ ?_)) ?_
      intro i ⟨hi, hall2⟩
      rcases Nat.lt_or_ge i m.pairs.length with hlt | hge
      · obtain ⟨p, hp⟩ := getE hlt
        rcases i with _ | k
        · have hpz := pairAt_zero hp
          repeat' (first | (refine idx_sl (k := 0) (at_map hp) (by omega) ?_) | refine o1 ?_ | refine o2 ?_ | refine k1 ?_ | refine k2 ?_ | refine k3 ?_ | refine k4 ?_ | refine k6 ?_ | refine k7 ?_ | refine k8 ?_ | refine And.intro ?_ ?_ | refine o3 ?_ | refine o4 ?_ | (intro h; first | exact Bool.noConfusion h | exact nz _ h | exact nl h | (simp at h; done) | (simp at h; first | (exfalso; omega) | skip) | skip) | (change retOk _ _ _ _; refine ret_pure rfl trivial ?_) | exact (by kernel_rfl : drawOk _ _ = true) | refine eqv_wrap (by omega) (by omega) ?_ | (change vcFunD _ _ _ _ _; refine callD_eq rfl (by repeat' (first | trivial | refine And.intro ?_ ?_ | (show 0 + _ ≤ List.length _; simp))) ALeL.refl (c_paired m p hz) rfl ?_) | fail)
          all_goals first
            | (refine congrArg (vint .i64) (mE1 hz fun g => ?_).symm; exact absurd (hpz.1 (g.2.1 _ hlt)) (by assumption))
            | exact ⟨1, ⟨by omega, all_lt_succ hall2 (hpz.2 (by assumption))⟩, by omega, back [0] rfl rfl ⟨rfl, trivial⟩ (by repeat' (first | exact trivial | exact rfl | refine And.intro ?_ ?_))⟩
            | (exfalso; simp_all; done)
        · obtain ⟨q, hq⟩ := getE (show k < m.pairs.length by omega)
          have hpz := pairAt_next hp hq
          repeat' (first | (refine idx_sl (k := k + 1) (at_map hp) (by omega) ?_) | (refine idx_sl (k := k) (at_map hq) (by omega) ?_) | refine o1 ?_ | refine o2 ?_ | refine k1 ?_ | refine k2 ?_ | refine k3 ?_ | refine k4 ?_ | refine k6 ?_ | refine k7 ?_ | refine And.intro ?_ ?_ | refine o3 ?_ | refine o4 ?_ | (intro h; first | exact Bool.noConfusion h | exact nz _ h | exact nl h | (simp at h; done) | (simp at h; first | (exfalso; omega) | skip) | skip) | (change retOk _ _ _ _; refine ret_pure rfl trivial ?_) | exact (by kernel_rfl : drawOk _ _ = true) | refine eqv_wrap (by omega) (by omega) ?_ | (change vcFunD _ _ _ _ _; refine callD_eq rfl (by repeat' (first | trivial | refine And.intro ?_ ?_ | (show 0 + _ ≤ List.length _; simp))) ALeL.refl (c_paired m p hz) rfl ?_) | (change vcFunD _ _ _ _ _; refine callD_eq rfl (by repeat' (first | trivial | refine And.intro ?_ ?_ | (show 0 + _ ≤ List.length _; simp))) ALeL.refl (c_order q p) rfl ?_) | fail)
          all_goals first
            | (refine congrArg (vint .i64) (mE1 hz fun g => ?_).symm; have g1 := hpz.1 (g.2.1 _ hlt); first | exact absurd g1.1 (by assumption) | (have := pair_cmp.2 g1.2; omega))
            | exact ⟨k + 2, ⟨by omega, all_lt_succ hall2 (hpz.2 ⟨by assumption, pair_cmp.1 (by omega)⟩)⟩, by omega, back [0] rfl rfl ⟨rfl, trivial⟩ (by repeat' (first | exact trivial | exact rfl | refine And.intro ?_ ?_))⟩
      · have hpa : ∀ i, i < m.pairs.length → pairAt m i := fun j hj => hall2 j (by omega)
        repeat' (first | refine o1 ?_ | refine o2 ?_ | refine k1 ?_ | refine k2 ?_ | refine k3 ?_ | refine k6 ?_ | refine k7 ?_ | refine k8 ?_ | refine And.intro ?_ ?_ | (intro h; first | exact Bool.noConfusion h | exact nz _ h | exact nl h | (simp at h; done) | (simp at h; first | (exfalso; omega) | skip) | skip) | (change retOk _ _ _ _; refine ret_pure rfl trivial ?_) | (change vcFun _ _ _ _ _; refine call_eq rfl (by repeat' (first | trivial | refine And.intro ?_ ?_ | (show 0 + _ ≤ List.length _; simp))) ALeL.refl (c_any_count m.counts 33 [.ia m.cells] (fun c => pB (¬ countP_ m c)) (by omega) (fun c hc => c_valid2 m c (hl.ld c hc))) rfl ?_) | fail)
        all_goals first
          | (refine congrArg (vint .i64) (mE1 hz fun g => ?_).symm; obtain ⟨c, hc, hno⟩ := (by assumption : ∃ x, x ∈ m.counts ∧ ¬ countP_ m x); exact hno (g.2.2 c hc))
          | exact congrArg (vint .i64) (mE0 hz ⟨hch, hpa, by assumption⟩).symm
  · refine acall_of tok mixed 52 rfl (fn := Tryz.f11) (c := Tryz.f11.body.getD .skip) (by kernel_rfl) (by kernel_rfl) (by kernel_rfl) rfl 0 rfl ?_
    repeat' (first | refine o1 ?_ | refine o2 ?_ | refine k1 ?_ | refine k2 ?_ | refine k3 ?_ | refine k4 ?_ | refine k6 ?_ | refine k7 ?_ | refine And.intro ?_ ?_ | (intro h; first | exact Bool.noConfusion h | exact nz _ h | exact nl h | (simp at h; done) | (simp at h; first | (exfalso; omega) | skip) | skip) | (change retOk _ _ _ _; refine ret_pure rfl trivial ?_) | refine eqv_len_map ?_ | (change vcFun _ _ _ _ _; refine call_eq rfl (by repeat' (first | trivial | refine And.intro ?_ ?_ | (show 0 + _ ≤ List.length _; simp))) ALeL.refl (c_large m) rfl ?_) | fail)
    all_goals first
      | exact congrArg (vint .i64) (mE2 hz).symm
      | (exfalso; exact hz (by assumption))
theorem c_rvalid (m : Model) (hl : Laid m) : PCall Tryz.prog 12 [ag m.cells] (fun r => r = vint .i64 (modelE m)) := by
  by_cases hz : sizedP m
  · refine acall_of tok mixed 105 rfl (fn := Tryz.f12) (c := Tryz.f12.body.getD .skip) (by kernel_rfl) (by kernel_rfl) (by kernel_rfl) rfl 0 rfl ?_
    have hcn := hz.1
    have hpn := hz.2.2.1
    have hon := hz.2.2.2.1
    repeat' (first | refine o1 ?_ | refine o2 ?_ | refine k1 ?_ | refine k2 ?_ | refine k3 ?_ | refine k4 ?_ | refine k6 ?_ | refine k7 ?_ | refine And.intro ?_ ?_ | (intro h; first | exact Bool.noConfusion h | exact nz _ h | exact nl h | (simp at h; done) | (simp at h; first | (exfalso; omega) | skip) | skip) | (change retOk _ _ _ _; refine ret_pure rfl trivial ?_) | (change vcFun _ _ _ _ _; refine call_eq rfl (by repeat' (first | trivial | refine And.intro ?_ ?_ | (show 0 + _ ≤ List.length _; simp))) ALeL.refl (c_sized m hl) rfl ?_) | fail)
    all_goals first
      | (exfalso; exact (by assumption : ¬ sizedP m) hz)
      | skip
    refine loop_at (fun i : Nat => [(3, vint .i64 i)]) (fun _ => []) (fun i => i ≤ m.classes.length ∧ ∀ j, j < i → ∀ l, m.classes[j]? = some l → ∀ o ∈ l, chargesP m o) (fun i => m.classes.length - i) 0 ⟨by omega, fun j hj => by omega⟩ (by repeat' (first | exact trivial | exact ⟨_, rfl, ALe.refl⟩ | refine And.intro ?_ ?_)) (by repeat' (first | exact trivial | exact rfl | refine And.intro ?_ ?_)) ?_
    intro i ⟨hi, hall⟩
    rcases Nat.lt_or_ge i m.classes.length with hlt | hge
    · obtain ⟨l, hl1⟩ := getE hlt
      have hll := hz.2.1 l (List.mem_of_getElem? hl1)
      have hmem := List.mem_of_getElem? hl1
      repeat' (first | refine o1 ?_ | refine o2 ?_ | refine k1 ?_ | refine k2 ?_ | refine k3 ?_ | refine k4 ?_ | refine k6 ?_ | refine And.intro ?_ ?_ | (intro h; first | exact Bool.noConfusion h | exact nz _ h | exact nl h | (simp at h; done) | (simp at h; first | (exfalso; omega) | skip) | skip) | refine eqv_len_map ?_ | fail)
      refine loop_at (fun i : Nat => [(4, vint .i64 i)]) (fun _ => []) (fun i => i ≤ l.length ∧ ∀ j, j < i → ∀ o, l[j]? = some o → chargesP m o) (fun i => l.length - i) 0 ⟨by omega, fun j hj => by omega⟩ (by repeat' (first | exact trivial | exact ⟨_, rfl, ALe.refl⟩ | refine And.intro ?_ ?_)) (by repeat' (first | exact trivial | exact rfl | refine And.intro ?_ ?_)) ?_
      intro k ⟨hk, hallk⟩
      rcases Nat.lt_or_ge k l.length with hkl | hkg
      · obtain ⟨o, ho⟩ := getE hkl
        have hcl := hl.ch l hmem o (List.mem_of_getElem? ho)
        repeat' (first | (refine idx_sl (k := i) (at_map hl1) (by omega) ?_) | (refine idx_sl (k := k) (at_map ho) (by omega) ?_) | refine o1 ?_ | refine o2 ?_ | refine k1 ?_ | refine k2 ?_ | refine k3 ?_ | refine k4 ?_ | refine k6 ?_ | refine And.intro ?_ ?_ | (intro h; first | exact Bool.noConfusion h | exact nz _ h | exact nl h | (simp at h; done) | (simp at h; first | (exfalso; omega) | skip) | skip) | refine eqv_len_map ?_ | fail)
        refine loop_at (fun i : Nat => [(6, vint .i64 i)]) (fun _ => []) (fun i => i ≤ o.charges.length ∧ ∀ j, j < i → chargeAt m o.charges j) (fun i => o.charges.length - i) 0 ⟨by omega, fun j hj => by omega⟩ (by repeat' (first | exact trivial | exact ⟨_, rfl, ALe.refl⟩ | refine And.intro ?_ ?_)) (by repeat' (first | exact trivial | exact rfl | refine And.intro ?_ ?_)) ?_
        intro n ⟨hn, halln⟩
        rcases Nat.lt_or_ge n o.charges.length with hnl | hng
        · obtain ⟨c, hc⟩ := getE hnl
          have hgood : goodP m → chargeAt m o.charges n := fun g => good_c g hl1 o (List.mem_of_getElem? ho) n hnl
          rcases n with _ | n
          · repeat' (first | (refine idx_sl (k := 0) (at_map hc) (by omega) ?_) | refine o1 ?_ | refine o2 ?_ | refine k1 ?_ | refine k2 ?_ | refine k3 ?_ | refine k4 ?_ | refine k6 ?_ | refine k7 ?_ | refine k8 ?_ | refine And.intro ?_ ?_ | refine o3 ?_ | refine o4 ?_ | (intro h; first | exact Bool.noConfusion h | exact nz _ h | exact nl h | (simp at h; done) | (simp at h; first | (exfalso; omega) | skip) | skip) | (change retOk _ _ _ _; refine ret_pure rfl trivial ?_) | exact (by kernel_rfl : drawOk _ _ = true) | refine eqv_len_map ?_ | refine eqv_wrap (by omega) (by omega) ?_ | (change vcFunD _ _ _ _ _; refine callD_eq rfl (by repeat' (first | trivial | refine And.intro ?_ ?_ | (show 0 + _ ≤ List.length _; simp))) ALeL.refl (c_rnamed m c.rule) rfl ?_) | (change vcFunD _ _ _ _ _; refine callD_eq rfl (by repeat' (first | trivial | refine And.intro ?_ ?_ | (show 0 + _ ≤ List.length _; simp))) ALeL.refl (c_rcost c.cost) rfl ?_) | fail)
            all_goals first
              | (refine congrArg (vint .i64) (mE1 hz fun g => ?_).symm; obtain ⟨g1, g2, g3⟩ := hgood g c hc; first | exact absurd g1 (by assumption) | exact absurd g2 (by assumption))
              | exact ⟨1, ⟨by omega, all_lt_succ halln (charge_zero hc (by assumption) (by assumption))⟩, by omega, back [0] rfl rfl ⟨rfl, trivial⟩ (by repeat' (first | exact trivial | exact rfl | refine And.intro ?_ ?_))⟩
              | (exfalso; simp_all; done)
          · obtain ⟨b, hb⟩ := getE (show n < o.charges.length by omega)
            repeat' (first | (refine idx_sl (k := n + 1) (at_map hc) (by omega) ?_) | (refine idx_sl (k := n) (at_map hb) (by omega) ?_) | refine o1 ?_ | refine o2 ?_ | refine k1 ?_ | refine k2 ?_ | refine k3 ?_ | refine k4 ?_ | refine k6 ?_ | refine k7 ?_ | refine And.intro ?_ ?_ | refine o3 ?_ | refine o4 ?_ | (intro h; first | exact Bool.noConfusion h | exact nz _ h | exact nl h | (simp at h; done) | (simp at h; first | (exfalso; omega) | skip) | skip) | (change retOk _ _ _ _; refine ret_pure rfl trivial ?_) | exact (by kernel_rfl : drawOk _ _ = true) | refine eqv_len_map ?_ | refine eqv_wrap (by omega) (by omega) ?_ | (change vcFunD _ _ _ _ _; refine callD_eq rfl (by repeat' (first | trivial | refine And.intro ?_ ?_ | (show 0 + _ ≤ List.length _; simp))) ALeL.refl (c_rnamed m c.rule) rfl ?_) | (change vcFunD _ _ _ _ _; refine callD_eq rfl (by repeat' (first | trivial | refine And.intro ?_ ?_ | (show 0 + _ ≤ List.length _; simp))) ALeL.refl (c_rcost c.cost) rfl ?_) | fail)
            all_goals first
              | (refine congrArg (vint .i64) (mE1 hz fun g => ?_).symm; obtain ⟨g1, g2, g3⟩ := hgood g c hc; first | exact absurd g1 (by assumption) | exact absurd g2 (by assumption) | (have := g3 n b rfl hb; omega))
              | exact ⟨n + 2, ⟨by omega, all_lt_succ halln (charge_next hc hb (by assumption) (by assumption) (by omega))⟩, by omega, back [0] rfl rfl ⟨rfl, trivial⟩ (by repeat' (first | exact trivial | exact rfl | refine And.intro ?_ ?_))⟩
        · repeat' (first | refine o1 ?_ | refine o2 ?_ | refine k1 ?_ | refine k2 ?_ | refine k3 ?_ | refine k8 ?_ | refine And.intro ?_ ?_ | (intro h; first | exact Bool.noConfusion h | exact nz _ h | exact nl h | (simp at h; done) | (simp at h; first | (exfalso; omega) | skip) | skip) | refine eqv_len_map ?_ | refine eqv_wrap (by omega) (by omega) ?_ | fail)
          all_goals first
            | exact ⟨k + 1, ⟨by omega, all_lt_succ hallk fun o' h' => by rw [ho] at h'; cases h'; exact fun j hj => halln j (by omega)⟩, by omega, back [0] rfl rfl ⟨rfl, trivial⟩ (by repeat' (first | exact trivial | exact rfl | refine And.intro ?_ ?_))⟩
      · repeat' (first | refine o1 ?_ | refine o2 ?_ | refine k1 ?_ | refine k2 ?_ | refine k3 ?_ | refine k8 ?_ | refine And.intro ?_ ?_ | (intro h; first | exact Bool.noConfusion h | exact nz _ h | exact nl h | (simp at h; done) | (simp at h; first | (exfalso; omega) | skip) | skip) | refine eqv_len_map ?_ | refine eqv_wrap (by omega) (by omega) ?_ | refine ⟨_, _, (by first | rfl | assumption), at_map (by assumption), ?_⟩ | fail)
        all_goals first
          | exact ⟨i + 1, ⟨by omega, all_lt_succ hall fun l' h' => by rw [hl1] at h'; cases h'; exact all_mem hkg hallk⟩, by omega, back [0] rfl rfl ⟨rfl, trivial⟩ (by repeat' (first | exact trivial | exact rfl | refine And.intro ?_ ?_))⟩
    · have hch : ∀ l ∈ m.classes, ∀ o ∈ l, chargesP m o := fun l hl => by
        obtain ⟨j, hj⟩ := List.getElem?_of_mem hl
        exact hall j (by have := (List.getElem?_eq_some_iff.1 hj).1; omega) l hj
      repeat' (first | refine o1 ?_ | refine o2 ?_ | refine k1 ?_ | refine k2 ?_ | refine k3 ?_ | refine k4 ?_ | refine k8 ?_ | refine And.intro ?_ ?_ | (intro h; first | exact Bool.noConfusion h | exact nz _ h | exact nl h | (simp at h; done) | (simp at h; first | (exfalso; omega) | skip) | skip) | refine eqv_len_map ?_ | fail)
      refine loop_at (fun i : Nat => [(7, vint .i64 i)]) (fun _ => []) (fun i => i ≤ m.pairs.length ∧ ∀ j, j < i → pairAt m j) (fun i => m.pairs.length - i) 0 ⟨by omega, fun j hj => by omega⟩ (by repeat' (first | exact trivial | exact ⟨_, rfl, ALe.refl⟩ | refine And.intro ?_ ?_)) (by repeat' (first | exact trivial | exact rfl | refine And.intro ?_ ?_)) ?_
      intro i ⟨hi, hall2⟩
      rcases Nat.lt_or_ge i m.pairs.length with hlt | hge
      · obtain ⟨p, hp⟩ := getE hlt
        rcases i with _ | k
        · repeat' (first | refine o1 ?_ | refine o2 ?_ | refine k1 ?_ | refine k2 ?_ | refine k3 ?_ | refine k4 ?_ | refine k6 ?_ | refine k7 ?_ | refine k8 ?_ | refine And.intro ?_ ?_ | (intro h; first | exact Bool.noConfusion h | exact nz _ h | exact nl h | (simp at h; done) | (simp at h; first | (exfalso; omega) | skip) | skip) | (change retOk _ _ _ _; refine ret_pure rfl trivial ?_) | refine eqv_len_map ?_ | refine eqv_wrap (by omega) (by omega) ?_ | (change vcFun _ _ _ _ _; refine call_eq rfl (by repeat' (first | trivial | refine And.intro ?_ ?_ | (show 0 + _ ≤ List.length _; simp))) ALeL.refl (c_rpaired0 m p hz hp) rfl ?_) | fail)
          all_goals first
            | (refine congrArg (vint .i64) (mE1 hz fun g => ?_).symm; exact absurd (g.2.1 _ hlt) (by assumption))
            | exact ⟨1, ⟨by omega, all_lt_succ hall2 (by assumption)⟩, by omega, back [0] rfl rfl ⟨rfl, trivial⟩ (by repeat' (first | exact trivial | exact rfl | refine And.intro ?_ ?_))⟩
            | (exfalso; simp_all; done)
        · obtain ⟨q, hq⟩ := getE (show k < m.pairs.length by omega)
          repeat' (first | refine o1 ?_ | refine o2 ?_ | refine k1 ?_ | refine k2 ?_ | refine k3 ?_ | refine k4 ?_ | refine k6 ?_ | refine k7 ?_ | refine And.intro ?_ ?_ | (intro h; first | exact Bool.noConfusion h | exact nz _ h | exact nl h | (simp at h; done) | (simp at h; first | (exfalso; omega) | skip) | skip) | (change retOk _ _ _ _; refine ret_pure rfl trivial ?_) | refine eqv_len_map ?_ | refine eqv_wrap (by omega) (by omega) ?_ | (change vcFun _ _ _ _ _; refine call_eq rfl (by repeat' (first | trivial | refine And.intro ?_ ?_ | (show 0 + _ ≤ List.length _; simp))) ALeL.refl (c_rpairedS m k q hq p hz hp) rfl ?_) | fail)
          all_goals first
            | (refine congrArg (vint .i64) (mE1 hz fun g => ?_).symm; exact absurd (g.2.1 _ hlt) (by assumption))
            | exact ⟨k + 2, ⟨by omega, all_lt_succ hall2 (by assumption)⟩, by omega, back [0] rfl rfl ⟨rfl, trivial⟩ (by repeat' (first | exact trivial | exact rfl | refine And.intro ?_ ?_))⟩
      · have hpa : ∀ i, i < m.pairs.length → pairAt m i := fun j hj => hall2 j (by omega)
        repeat' (first | refine o1 ?_ | refine o2 ?_ | refine k1 ?_ | refine k2 ?_ | refine k3 ?_ | refine k4 ?_ | refine k8 ?_ | refine And.intro ?_ ?_ | (intro h; first | exact Bool.noConfusion h | exact nz _ h | exact nl h | (simp at h; done) | (simp at h; first | (exfalso; omega) | skip) | skip) | refine eqv_len_map ?_ | fail)
        refine loop_at (fun i : Nat => [(8, vint .i64 i)]) (fun _ => []) (fun i => i ≤ m.counts.length ∧ ∀ j, j < i → ∀ c, m.counts[j]? = some c → countP_ m c) (fun i => m.counts.length - i) 0 ⟨by omega, fun j hj => by omega⟩ (by repeat' (first | exact trivial | exact ⟨_, rfl, ALe.refl⟩ | refine And.intro ?_ ?_)) (by repeat' (first | exact trivial | exact rfl | refine And.intro ?_ ?_)) ?_
        intro i ⟨hi, hall3⟩
        rcases Nat.lt_or_ge i m.counts.length with hlt | hge
        · obtain ⟨c, hc⟩ := getE hlt
          repeat' (first | (refine idx_sl (k := i) (at_map hc) (by omega) ?_) | refine o1 ?_ | refine o2 ?_ | refine k1 ?_ | refine k2 ?_ | refine k3 ?_ | refine k4 ?_ | refine k6 ?_ | refine k7 ?_ | refine And.intro ?_ ?_ | refine o3 ?_ | refine o4 ?_ | (intro h; first | exact Bool.noConfusion h | exact nz _ h | exact nl h | (simp at h; done) | (simp at h; first | (exfalso; omega) | skip) | skip) | (change retOk _ _ _ _; refine ret_pure rfl trivial ?_) | exact (by kernel_rfl : drawOk _ _ = true) | refine eqv_len_map ?_ | refine eqv_wrap (by omega) (by omega) ?_ | (change vcFunD _ _ _ _ _; refine callD_eq rfl (by repeat' (first | trivial | refine And.intro ?_ ?_ | (show 0 + _ ≤ List.length _; simp))) ALeL.refl (c_rcounted m c (hl.ld c (List.mem_of_getElem? hc))) rfl ?_) | fail)
          all_goals first
            | (refine congrArg (vint .i64) (mE1 hz fun g => ?_).symm; exact absurd (g.2.2 c (List.mem_of_getElem? hc)) (by assumption))
            | exact ⟨i + 1, ⟨by omega, all_lt_succ hall3 fun c' h' => by rw [hc] at h'; cases h'; assumption⟩, by omega, back [0] rfl rfl ⟨rfl, trivial⟩ (by repeat' (first | exact trivial | exact rfl | refine And.intro ?_ ?_))⟩
        · repeat' (first | refine o1 ?_ | refine o2 ?_ | refine k1 ?_ | refine k2 ?_ | refine k3 ?_ | refine k7 ?_ | refine k8 ?_ | refine And.intro ?_ ?_ | (intro h; first | exact Bool.noConfusion h | exact nz _ h | exact nl h | (simp at h; done) | (simp at h; first | (exfalso; omega) | skip) | skip) | (change retOk _ _ _ _; refine ret_pure rfl trivial ?_) | refine eqv_len_map ?_ | fail)
          all_goals first
            | exact congrArg (vint .i64) (mE0 hz ⟨hch, hpa, all_mem hge hall3⟩).symm
  · refine acall_of tok mixed 105 rfl (fn := Tryz.f12) (c := Tryz.f12.body.getD .skip) (by kernel_rfl) (by kernel_rfl) (by kernel_rfl) rfl 0 rfl ?_
    repeat' (first | refine o1 ?_ | refine o2 ?_ | refine k1 ?_ | refine k2 ?_ | refine k3 ?_ | refine k4 ?_ | refine k6 ?_ | refine k7 ?_ | refine And.intro ?_ ?_ | (intro h; first | exact Bool.noConfusion h | exact nz _ h | exact nl h | (simp at h; done) | (simp at h; first | (exfalso; omega) | skip) | skip) | (change retOk _ _ _ _; refine ret_pure rfl trivial ?_) | (change vcFun _ _ _ _ _; refine call_eq rfl (by repeat' (first | trivial | refine And.intro ?_ ?_ | (show 0 + _ ≤ List.length _; simp))) ALeL.refl (c_sized m hl) rfl ?_) | fail)
    all_goals first
      | exact congrArg (vint .i64) (mE2 hz).symm
      | (exfalso; exact hz (by assumption))
end Go.Proofs.YtfdjcpodkhpgcaaGreat.Cw

/-
  Contracts: complete plans.
-/
namespace Go.Proofs.YtfdjcpodkhpgcaaGreat.Cw
open Go.Cw Go.Proofs
set_option linter.unusedVariables false
set_option maxRecDepth 100000
set_option maxHeartbeats 1600000

noncomputable def idxN (l : List Int) (s : Int) : Int := idxB (fun q => pB (q = s)) l
theorem idxN_has {l : List Int} {s : Int} : decide (idxN l s ≥ 0) = pB (s ∈ l) := by
  unfold idxN
  rw [idxB_any]
  by_cases h : s ∈ l
  · rw [pB_t h]; exact List.any_eq_true.2 ⟨s, h, pB_t rfl⟩
  · rw [pB_f h]; exact List.any_eq_false.2 fun q hq => by rw [pB_f (fun e : q = s => h (e ▸ hq))]; simp
theorem c_indexN (l : List Int) (s : Int) (hl : l.length ≤ 100000) : PCall Tryz.prog 58 [.pv (encInts l), vint .i64 s] (fun r => r = vint .i64 (idxN l s)) := by
  refine acall_of tok mixed 19 rfl (fn := Tryz.f58) (c := Tryz.f58.body.getD .skip) (by kernel_rfl) (by kernel_rfl) (by kernel_rfl) rfl 0 rfl ?_
  repeat' (first | refine o1 ?_ | refine o2 ?_ | refine k1 ?_ | refine k2 ?_ | refine k4 ?_ | refine eqv_len_map ?_ | fail)
  refine loop_at (fun i : Nat => [(8, vint .i64 i)]) (fun _ => []) (fun i => i ≤ l.length ∧ ∀ j, j < i → ∀ q, l[j]? = some q → pB (q = s) = false) (fun i => l.length - i) 0 ⟨by omega, fun j hj => by omega⟩ (by repeat' (first | exact trivial | exact ⟨_, rfl, ALe.refl⟩ | refine And.intro ?_ ?_)) (by repeat' (first | exact trivial)) ?_
  intro i ⟨hi, hall⟩
  rcases Nat.lt_or_ge i l.length with hlt | hge
  · obtain ⟨q, hq⟩ := getE hlt
    repeat' (first | refine o1 ?_ | refine o2 ?_ | refine k1 ?_ | refine k2 ?_ | refine k3 ?_ | refine k4 ?_ | refine k6 ?_ | refine k7 ?_ | refine And.intro ?_ ?_ | (intro h; first | exact Bool.noConfusion h | exact nz _ h | exact nl h | (simp at h; done) | (simp at h; first | (exfalso; omega) | skip) | skip) | (change retOk _ _ _ _; refine ret_pure rfl trivial ?_) | refine eqv_wrap (by omega) (by omega) ?_ | refine ⟨_, _, (by first | rfl | assumption), at_map (by assumption), ?_⟩ | fail)
    all_goals first
      | exact congrArg (vint .i64) (idxB_at hall hq (pB_t (by omega))).symm
      | exact ⟨i + 1, ⟨by omega, all_lt_succ hall fun q' h' => by rw [hq] at h'; cases h'; exact pB_f fun e => by omega⟩, by omega, back [] rfl rfl trivial (by repeat' (first | exact trivial | exact rfl | refine And.intro ?_ ?_))⟩
  · repeat' (first | refine o1 ?_ | refine o2 ?_ | refine k1 ?_ | refine k2 ?_ | refine k3 ?_ | refine k7 ?_ | refine k8 ?_ | refine And.intro ?_ ?_ | (intro h; first | exact Bool.noConfusion h | exact nz _ h | exact nl h | (simp at h; done) | (simp at h; first | (exfalso; omega) | skip) | skip) | (change retOk _ _ _ _; refine ret_pure rfl trivial ?_) | fail)
    all_goals first
      | exact congrArg (vint .i64) (idxB_none fun j hj => hall j (by omega)).symm
theorem c_containsN (l : List Int) (s : Int) (hl : l.length ≤ 100000) : PCall Tryz.prog 41 [.pv (encInts l), vint .i64 s] (fun r => r = vbool (pB (s ∈ l))) := by
  refine acall_of tok mixed 9 rfl (fn := Tryz.f41) (c := Tryz.f41.body.getD .skip) (by kernel_rfl) (by kernel_rfl) (by kernel_rfl) rfl 0 rfl ?_
  repeat' (first | refine o1 ?_ | refine o2 ?_ | refine k1 ?_ | refine k2 ?_ | refine k7 ?_ | (change retOk _ _ _ _; refine ret_pure rfl trivial ?_) | (change vcFun _ _ _ _ _; refine call_eq rfl (by repeat' (first | trivial | refine And.intro ?_ ?_ | (show 0 + _ ≤ List.length _; simp))) ALeL.refl (c_indexN l s hl) rfl ?_) | fail)
  exact congrArg vbool idxN_has

def planP (m : Model) (plan : List Int) : Prop := plan.length = m.classes.length ∧ ∀ i, i < plan.length → ∀ o, plan[i]? = some o → optionP m i o
def plannedP (m : Model) (plan : List Int) : Prop := plan.length = m.classes.length ∧ ∀ i, i < plan.length → ∀ o, plan[i]? = some o → o = -1 ∨ optionP m i o
theorem plan_of {m : Model} {plan : List Int} : planP m plan ↔ plannedP m plan ∧ ¬ (-1 : Int) ∈ plan := by
  constructor
  · rintro ⟨h1, h2⟩
    refine ⟨⟨h1, fun i hi o ho => .inr (h2 i hi o ho)⟩, fun h => ?_⟩
    obtain ⟨j, hj⟩ := List.getElem?_of_mem h
    have := h2 j (List.getElem?_eq_some_iff.1 hj).1 _ hj
    obtain ⟨_, g, _⟩ := this
    omega
  · rintro ⟨⟨h1, h2⟩, h3⟩
    refine ⟨h1, fun i hi o ho => (h2 i hi o ho).elim (fun e => ?_) id⟩
    subst e; exact absurd (List.mem_of_getElem? ho) h3
noncomputable def completeE (m : Model) (plan : List Int) : Int := if modelE m = 0 then (if pB (planP m plan) then 0 else 17) else modelE m
theorem cE0 {m : Model} {plan : List Int} (h : modelE m = 0) (hp : planP m plan) : completeE m plan = 0 := by unfold completeE; rw [if_pos h, if_pos (pB_t hp)]
theorem cE1 {m : Model} {plan : List Int} (h : modelE m = 0) (hp : ¬ planP m plan) : completeE m plan = 17 := by unfold completeE; rw [if_pos h, if_neg (by rw [pB_f hp]; simp)]
theorem cE2 {m : Model} {plan : List Int} (h : ¬ modelE m = 0) : completeE m plan = modelE m := by unfold completeE; rw [if_neg h]
theorem model_sized {m : Model} (h : modelE m = 0) : sizedP m := Classical.byContradiction fun hn => by rw [mE2 hn] at h; cases h
theorem c_planned (m : Model) (plan : List Int) (hz : sizedP m) : PCall Tryz.prog 40 [ag m.cells, .pv (encInts plan)] (fun r => r = vbool (pB (plannedP m plan))) := by
  refine acall_of tok mixed 30 rfl (fn := Tryz.f40) (c := Tryz.f40.body.getD .skip) (by kernel_rfl) (by kernel_rfl) (by kernel_rfl) rfl 0 rfl ?_
  have hcn := hz.1
  repeat' (first | refine o1 ?_ | refine o2 ?_ | refine k1 ?_ | refine k2 ?_ | refine k3 ?_ | refine k4 ?_ | refine k6 ?_ | refine k7 ?_ | refine And.intro ?_ ?_ | (intro h; first | exact Bool.noConfusion h | exact nz _ h | exact nl h | (simp at h; done) | (simp at h; first | (exfalso; omega) | skip) | skip) | (change retOk _ _ _ _; refine ret_pure rfl trivial ?_) | refine eqv_len_map ?_ | fail)
  all_goals first
    | exact congrArg vbool (pB_f fun h => by have := h.1; omega).symm
    | skip
  have hpl : plan.length = m.classes.length := by omega
  refine loop_at (fun i : Nat => [(15, vint .i64 i)]) (fun _ => []) (fun i => i ≤ plan.length ∧ ∀ j, j < i → ∀ o, plan[j]? = some o → o = -1 ∨ optionP m j o) (fun i => plan.length - i) 0 ⟨by omega, fun j hj => by omega⟩ (by repeat' (first | exact trivial | exact ⟨_, rfl, ALe.refl⟩ | refine And.intro ?_ ?_)) (by repeat' (first | exact trivial | exact rfl | refine And.intro ?_ ?_)) ?_
  intro i ⟨hi, hall⟩
  rcases Nat.lt_or_ge i plan.length with hlt | hge
  · obtain ⟨o, ho⟩ := getE hlt
    repeat' (first | refine o1 ?_ | refine o2 ?_ | refine k1 ?_ | refine k2 ?_ | refine k3 ?_ | refine k4 ?_ | refine k6 ?_ | refine k7 ?_ | refine And.intro ?_ ?_ | (intro h; first | exact Bool.noConfusion h | exact nz _ h | exact nl h | (simp at h; done) | (simp at h; first | (exfalso; omega) | skip) | skip) | (change retOk _ _ _ _; refine ret_pure rfl trivial ?_) | refine eqv_wrap (by omega) (by omega) ?_ | refine ⟨_, _, (by first | rfl | assumption), at_map (by assumption), ?_⟩ | (change vcFun _ _ _ _ _; refine call_eq rfl (by repeat' (first | trivial | refine And.intro ?_ ?_ | (show 0 + _ ≤ List.length _; simp))) ALeL.refl (c_option m i o) rfl ?_) | fail)
    all_goals first
      | (refine congrArg vbool (pB_f fun h => ?_).symm; exact (h.2 i hlt o ho).elim (fun g => absurd g (by assumption)) (fun g => absurd g (by assumption)))
      | exact ⟨i + 1, ⟨by omega, all_lt_succ hall fun o' h' => by rw [ho] at h'; cases h'; first | exact .inl (by omega) | exact .inr (by assumption)⟩, by omega, back [0] rfl rfl ⟨rfl, trivial⟩ (by repeat' (first | exact trivial | exact rfl | refine And.intro ?_ ?_))⟩
  · repeat' (first | refine o1 ?_ | refine o2 ?_ | refine k1 ?_ | refine k2 ?_ | refine k3 ?_ | refine k7 ?_ | refine k8 ?_ | refine And.intro ?_ ?_ | (intro h; first | exact Bool.noConfusion h | exact nz _ h | exact nl h | (simp at h; done) | (simp at h; first | (exfalso; omega) | skip) | skip) | (change retOk _ _ _ _; refine ret_pure rfl trivial ?_) | fail)
    all_goals first
      | exact congrArg vbool (pB_t ⟨hpl, fun j hj => hall j (by omega)⟩).symm
theorem c_complete (m : Model) (plan : List Int) (hl : Laid m) : PCall Tryz.prog 13 [ag m.cells, .pv (encInts plan)] (fun r => r = vint .i64 (completeE m plan)) := by
  by_cases h0 : modelE m = 0
  · have hz := model_sized h0
    have hcn := hz.1
    by_cases hp : plannedP m plan
    · have hpl := hp.1
      refine acall_of tok mixed 19 rfl (fn := Tryz.f13) (c := Tryz.f13.body.getD .skip) (by kernel_rfl) (by kernel_rfl) (by kernel_rfl) rfl 0 rfl ?_
      repeat' (first | refine o1 ?_ | refine o2 ?_ | refine k1 ?_ | refine k2 ?_ | refine k3 ?_ | refine k6 ?_ | refine k7 ?_ | refine And.intro ?_ ?_ | (intro h; first | exact Bool.noConfusion h | exact nz _ h | exact nl h | (simp at h; done) | (simp at h; first | (exfalso; omega) | skip) | skip) | (change retOk _ _ _ _; refine ret_pure rfl trivial ?_) | (change vcFun _ _ _ _ _; refine call_eq rfl (by repeat' (first | trivial | refine And.intro ?_ ?_ | (show 0 + _ ≤ List.length _; simp))) ALeL.refl (c_valid m hl) rfl ?_) | (change vcFun _ _ _ _ _; refine call_eq rfl (by repeat' (first | trivial | refine And.intro ?_ ?_ | (show 0 + _ ≤ List.length _; simp))) ALeL.refl (c_planned m plan hz) rfl ?_) | (change vcFun _ _ _ _ _; refine call_eq rfl (by repeat' (first | trivial | refine And.intro ?_ ?_ | (show 0 + _ ≤ List.length _; simp))) ALeL.refl (c_containsN plan (-1) (by omega)) rfl ?_) | fail)
      all_goals first
        | exact congrArg (vint .i64) (cE0 h0 (plan_of.2 ⟨hp, by assumption⟩)).symm
        | exact congrArg (vint .i64) (cE1 h0 (fun h => (plan_of.1 h).2 (by assumption))).symm
        | (exfalso; exact (by assumption : ¬ modelE m = 0) h0)
        | (exfalso; exact (by assumption : ¬ plannedP m plan) hp)
    · refine acall_of tok mixed 19 rfl (fn := Tryz.f13) (c := Tryz.f13.body.getD .skip) (by kernel_rfl) (by kernel_rfl) (by kernel_rfl) rfl 0 rfl ?_
      repeat' (first | refine o1 ?_ | refine o2 ?_ | refine k1 ?_ | refine k2 ?_ | refine k3 ?_ | refine k6 ?_ | refine k7 ?_ | refine And.intro ?_ ?_ | (intro h; first | exact Bool.noConfusion h | exact nz _ h | exact nl h | (simp at h; done) | (simp at h; first | (exfalso; omega) | skip) | skip) | (change retOk _ _ _ _; refine ret_pure rfl trivial ?_) | (change vcFun _ _ _ _ _; refine call_eq rfl (by repeat' (first | trivial | refine And.intro ?_ ?_ | (show 0 + _ ≤ List.length _; simp))) ALeL.refl (c_valid m hl) rfl ?_) | (change vcFun _ _ _ _ _; refine call_eq rfl (by repeat' (first | trivial | refine And.intro ?_ ?_ | (show 0 + _ ≤ List.length _; simp))) ALeL.refl (c_planned m plan hz) rfl ?_) | fail)
      all_goals first
        | exact congrArg (vint .i64) (cE1 h0 (fun h => hp (plan_of.1 h).1)).symm
        | (exfalso; exact (by assumption : ¬ modelE m = 0) h0)
        | (exfalso; exact hp (by assumption))
  · refine acall_of tok mixed 19 rfl (fn := Tryz.f13) (c := Tryz.f13.body.getD .skip) (by kernel_rfl) (by kernel_rfl) (by kernel_rfl) rfl 0 rfl ?_
    repeat' (first | refine o1 ?_ | refine o2 ?_ | refine k1 ?_ | refine k2 ?_ | refine k3 ?_ | refine k7 ?_ | refine And.intro ?_ ?_ | (intro h; first | exact Bool.noConfusion h | exact nz _ h | exact nl h | (simp at h; done) | (simp at h; first | (exfalso; omega) | skip) | skip) | (change retOk _ _ _ _; refine ret_pure rfl trivial ?_) | (change vcFun _ _ _ _ _; refine call_eq rfl (by repeat' (first | trivial | refine And.intro ?_ ?_ | (show 0 + _ ≤ List.length _; simp))) ALeL.refl (c_valid m hl) rfl ?_) | fail)
    all_goals first
      | exact congrArg (vint .i64) (cE2 h0).symm
      | (exfalso; exact h0 (by assumption))
theorem c_rcomplete (m : Model) (plan : List Int) (hl : Laid m) : PCall Tryz.prog 14 [ag m.cells, .pv (encInts plan)] (fun r => r = vint .i64 (completeE m plan)) := by
  by_cases h0 : modelE m = 0
  · have hz := model_sized h0
    have hcn := hz.1
    refine acall_of tok mixed 32 rfl (fn := Tryz.f14) (c := Tryz.f14.body.getD .skip) (by kernel_rfl) (by kernel_rfl) (by kernel_rfl) rfl 0 rfl ?_
    repeat' (first | refine o1 ?_ | refine o2 ?_ | refine k1 ?_ | refine k2 ?_ | refine k3 ?_ | refine k4 ?_ | refine k6 ?_ | refine k7 ?_ | refine And.intro ?_ ?_ | (intro h; first | exact Bool.noConfusion h | exact nz _ h | exact nl h | (simp at h; done) | (simp at h; first | (exfalso; omega) | skip) | skip) | (change retOk _ _ _ _; refine ret_pure rfl trivial ?_) | refine eqv_len_map ?_ | (change vcFun _ _ _ _ _; refine call_eq rfl (by repeat' (first | trivial | refine And.intro ?_ ?_ | (show 0 + _ ≤ List.length _; simp))) ALeL.refl (c_rvalid m hl) rfl ?_) | fail)
    all_goals first
      | exact congrArg (vint .i64) (cE1 h0 (fun h => by have := h.1; omega)).symm
      | (exfalso; exact (by assumption : ¬ modelE m = 0) h0)
      | skip
    have hpl : plan.length = m.classes.length := by omega
    refine loop_at (fun i : Nat => [(6, vint .i64 i)]) (fun _ => []) (fun i => i ≤ plan.length ∧ ∀ j, j < i → ∀ o, plan[j]? = some o → optionP m j o) (fun i => plan.length - i) 0 ⟨by omega, fun j hj => by omega⟩ (by repeat' (first | exact trivial | exact ⟨_, rfl, ALe.refl⟩ | refine And.intro ?_ ?_)) (by repeat' (first | exact trivial | exact rfl | refine And.intro ?_ ?_)) ?_
    intro i ⟨hi, hall⟩
    rcases Nat.lt_or_ge i plan.length with hlt | hge
    · obtain ⟨o, ho⟩ := getE hlt
      repeat' (first | (refine idx_sl (k := i) (at_map ho) (by omega) ?_) | refine o1 ?_ | refine o2 ?_ | refine k1 ?_ | refine k2 ?_ | refine k3 ?_ | refine k4 ?_ | refine k6 ?_ | refine k7 ?_ | refine And.intro ?_ ?_ | refine o3 ?_ | refine o4 ?_ | (intro h; first | exact Bool.noConfusion h | exact nz _ h | exact nl h | (simp at h; done) | (simp at h; first | (exfalso; omega) | skip) | skip) | (change retOk _ _ _ _; refine ret_pure rfl trivial ?_) | exact (by kernel_rfl : drawOk _ _ = true) | refine eqv_len_map ?_ | refine eqv_wrap (by omega) (by omega) ?_ | (change vcFunD _ _ _ _ _; refine callD_eq rfl (by repeat' (first | trivial | refine And.intro ?_ ?_ | (show 0 + _ ≤ List.length _; simp))) ALeL.refl (c_roption m i o) rfl ?_) | fail)
      all_goals first
        | (refine congrArg (vint .i64) (cE1 h0 fun h => ?_).symm; exact absurd (h.2 i hlt o ho) (by assumption))
        | exact ⟨i + 1, ⟨by omega, all_lt_succ hall fun o' h' => by rw [ho] at h'; cases h'; assumption⟩, by omega, back [0] rfl rfl ⟨rfl, trivial⟩ (by repeat' (first | exact trivial | exact rfl | refine And.intro ?_ ?_))⟩
    · repeat' (first | refine o1 ?_ | refine o2 ?_ | refine k1 ?_ | refine k2 ?_ | refine k3 ?_ | refine k7 ?_ | refine k8 ?_ | refine And.intro ?_ ?_ | (intro h; first | exact Bool.noConfusion h | exact nz _ h | exact nl h | (simp at h; done) | (simp at h; first | (exfalso; omega) | skip) | skip) | (change retOk _ _ _ _; refine ret_pure rfl trivial ?_) | refine eqv_len_map ?_ | fail)
      all_goals first
        | exact congrArg (vint .i64) (cE0 h0 ⟨hpl, fun j hj => hall j (by omega)⟩).symm
  · refine acall_of tok mixed 32 rfl (fn := Tryz.f14) (c := Tryz.f14.body.getD .skip) (by kernel_rfl) (by kernel_rfl) (by kernel_rfl) rfl 0 rfl ?_
    repeat' (first | refine o1 ?_ | refine o2 ?_ | refine k1 ?_ | refine k2 ?_ | refine k3 ?_ | refine k7 ?_ | refine And.intro ?_ ?_ | (intro h; first | exact Bool.noConfusion h | exact nz _ h | exact nl h | (simp at h; done) | (simp at h; first | (exfalso; omega) | skip) | skip) | (change retOk _ _ _ _; refine ret_pure rfl trivial ?_) | (change vcFun _ _ _ _ _; refine call_eq rfl (by repeat' (first | trivial | refine And.intro ?_ ?_ | (show 0 + _ ≤ List.length _; simp))) ALeL.refl (c_rvalid m hl) rfl ?_) | fail)
    all_goals first
      | exact congrArg (vint .i64) (cE2 h0).symm
      | (exfalso; exact h0 (by assumption))
theorem c_sameInts (l : List Int) (hl : l.length ≤ 100000) : PCall Tryz.prog 16 [.pv (encInts l), .pv (encInts l)] (fun r => r = vbool true) := by
  refine acall_of tok mixed 26 rfl (fn := Tryz.f16) (c := Tryz.f16.body.getD .skip) (by kernel_rfl) (by kernel_rfl) (by kernel_rfl) rfl 0 rfl ?_
  repeat' (first | refine o1 ?_ | refine o2 ?_ | refine k1 ?_ | refine k2 ?_ | refine k3 ?_ | refine k4 ?_ | refine k6 ?_ | refine And.intro ?_ ?_ | (intro h; first | exact Bool.noConfusion h | exact nz _ h | exact nl h | (simp at h; done) | (simp at h; first | (exfalso; omega) | skip) | skip) | refine eqv_len_map ?_ | fail)
  refine loop_at (fun i : Nat => [(5, vint .i64 i)]) (fun _ => []) (fun i => i ≤ l.length) (fun i => l.length - i) 0 (by omega) (by repeat' (first | exact trivial | exact ⟨_, rfl, ALe.refl⟩ | refine And.intro ?_ ?_)) (by repeat' (first | exact trivial)) ?_
  intro i hi
  rcases Nat.lt_or_ge i l.length with hlt | hge
  · obtain ⟨x, hx⟩ := getE hlt
    repeat' (first | (refine idx_sl (k := i) (at_map hx) (by omega) ?_) | refine o1 ?_ | refine o2 ?_ | refine k1 ?_ | refine k2 ?_ | refine k3 ?_ | refine k4 ?_ | refine k6 ?_ | refine And.intro ?_ ?_ | refine o3 ?_ | refine o4 ?_ | (intro h; first | exact Bool.noConfusion h | exact nz _ h | exact nl h | (simp at h; done) | (simp at h; first | (exfalso; omega) | skip) | skip) | exact (by kernel_rfl : drawOk _ _ = true) | refine eqv_len_map ?_ | refine eqv_wrap (by omega) (by omega) ?_ | fail)
    all_goals first
      | exact ⟨i + 1, by omega, by omega, back [] rfl rfl trivial (by repeat' (first | exact trivial | exact rfl | refine And.intro ?_ ?_))⟩
      | (exfalso; simp_all; done)
  · repeat' (first | refine o1 ?_ | refine o2 ?_ | refine k1 ?_ | refine k2 ?_ | refine k3 ?_ | refine k7 ?_ | refine k8 ?_ | refine And.intro ?_ ?_ | (intro h; first | exact Bool.noConfusion h | exact nz _ h | exact nl h | (simp at h; done) | (simp at h; first | (exfalso; omega) | skip) | skip) | (change retOk _ _ _ _; refine ret_pure rfl trivial ?_) | refine eqv_len_map ?_ | fail)
    exact rfl
theorem c_samePlaces (l : List Placed) (hl : l.length ≤ 100000) : PCall Tryz.prog 15 [.pv (.sl 5 (l.map Placed.row)), .pv (.sl 5 (l.map Placed.row))] (fun r => r = vbool true) := by
  refine acall_of tok mixed 26 rfl (fn := Tryz.f15) (c := Tryz.f15.body.getD .skip) (by kernel_rfl) (by kernel_rfl) (by kernel_rfl) rfl 0 rfl ?_
  repeat' (first | refine o1 ?_ | refine o2 ?_ | refine k1 ?_ | refine k2 ?_ | refine k3 ?_ | refine k4 ?_ | refine k6 ?_ | refine And.intro ?_ ?_ | (intro h; first | exact Bool.noConfusion h | exact nz _ h | exact nl h | (simp at h; done) | (simp at h; first | (exfalso; omega) | skip) | skip) | refine eqv_len_map ?_ | fail)
  refine loop_at (fun i : Nat => [(5, vint .i64 i)]) (fun _ => []) (fun i => i ≤ l.length) (fun i => l.length - i) 0 (by omega) (by repeat' (first | exact trivial | exact ⟨_, rfl, ALe.refl⟩ | refine And.intro ?_ ?_)) (by repeat' (first | exact trivial)) ?_
  intro i hi
  rcases Nat.lt_or_ge i l.length with hlt | hge
  · obtain ⟨x, hx⟩ := getE hlt
    repeat' (first | (refine idx_sl (k := i) (at_map hx) (by omega) ?_) | refine o1 ?_ | refine o2 ?_ | refine k1 ?_ | refine k2 ?_ | refine k3 ?_ | refine k4 ?_ | refine k6 ?_ | refine And.intro ?_ ?_ | refine o3 ?_ | refine o4 ?_ | (intro h; first | exact Bool.noConfusion h | exact nz _ h | exact nl h | (simp at h; done) | (simp at h; first | (exfalso; omega) | skip) | skip) | exact (by kernel_rfl : drawOk _ _ = true) | refine eqv_len_map ?_ | refine eqv_wrap (by omega) (by omega) ?_ | fail)
    all_goals first
      | exact ⟨i + 1, by omega, by omega, back [] rfl rfl trivial (by repeat' (first | exact trivial | exact rfl | refine And.intro ?_ ?_))⟩
      | (exfalso; simp_all; done)
  · repeat' (first | refine o1 ?_ | refine o2 ?_ | refine k1 ?_ | refine k2 ?_ | refine k3 ?_ | refine k7 ?_ | refine k8 ?_ | refine And.intro ?_ ?_ | (intro h; first | exact Bool.noConfusion h | exact nz _ h | exact nl h | (simp at h; done) | (simp at h; first | (exfalso; omega) | skip) | skip) | (change retOk _ _ _ _; refine ret_pure rfl trivial ?_) | refine eqv_len_map ?_ | fail)
    exact rfl
end Go.Proofs.YtfdjcpodkhpgcaaGreat.Cw

/-
  Slices that grow; results that are read.
-/
namespace Go.Proofs.YtfdjcpodkhpgcaaGreat.Cw
open Go.Cw Go.Proofs
set_option linter.unusedVariables false
theorem app_cons {r x : List PV} {rs : List (List PV)} {K : Go.Cw.Rows → Nat → Prop} (h : K (.p (r :: (rs ++ [x]))) ((rs ++ [x]).length + 1)) : eqv (Go.Cw.Rows.p (List.drop 0 (r :: rs) ++ List.take 1 (List.drop 0 [x]))) fun rr => eqv (rowsLen rr) (K rr) :=
  ⟨_, rfl, _, by simp [rowsLen], h⟩
theorem app_consm {α : Type} {f : α → List PV} {e0 : α} (e : α) {l : List α} {x : List PV} (hx : x = f e) {K : Go.Cw.Rows → Nat → Prop} (h : K (.p (f e0 :: (l ++ [e]).map f)) (((l ++ [e]).map f).length + 1)) : eqv (Go.Cw.Rows.p (List.drop 0 (f e0 :: l.map f) ++ List.take 1 (List.drop 0 [x]))) fun rr => eqv (rowsLen rr) (K rr) :=
  ⟨_, by simp [hx], _, by simp [rowsLen], h⟩
def nilA : AV := .pv (.val (.slice none 0 0))
/-- A slice of pure rows that grows by append: nil, or the whole of an object. -/
def slP (id z : Nat) : List (List PV) → AV
  | [] => nilA
  | r :: l => .ms id z 0 (r :: l).length
def obP (ty z : Nat) : List (List PV) → Option AObj
  | [] => none
  | r :: l => some ⟨ty, z, false, .p (r :: l)⟩
/-- ALe, not looked into. -/
structure Leq (r x : AV) : Prop where
  le : ALe r x
theorem whole_le {α : Type} {f : α → List PV} {z n : Nat} {l : List α} (h : l.length ≤ n) : PLe (.sl z (List.take n (List.drop 0 (l.map f)))) (.sl z (l.map f)) := by
  rw [List.drop_zero, List.take_of_length_le (by simpa using h)]
  exact PLe.refl
end Go.Proofs.YtfdjcpodkhpgcaaGreat.Cw

/-
  Contracts: the places of a plan.
-/
namespace Go.Proofs.YtfdjcpodkhpgcaaGreat.Cw
open Go.Cw Go.Proofs
set_option linter.unusedVariables false
set_option maxRecDepth 100000
set_option maxHeartbeats 1600000

def plc (m : Model) (plan : List Int) (i : Nat) : Option Placed := match m.classes[i]?, plan[i]? with
  | some l, some o => (l[o.toNat]?).map Opt.place
  | _, _ => none
def placesTo (m : Model) (plan : List Int) (n : Nat) : List Placed := (List.range n).filterMap (plc m plan)
theorem places_next {m : Model} {plan : List Int} {i n : Nat} {l : List Opt} {x : Opt} (hl : m.classes[i]? = some l) (ho : plan[i]? = some (n : Int)) (hx : l[n]? = some x) : placesTo m plan (i + 1) = placesTo m plan i ++ [x.place] := by
  unfold placesTo
  rw [List.range_succ, List.filterMap_append]
  have : plc m plan i = some x.place := by unfold plc; rw [hl, ho]; simp [hx]
  simp [this]
theorem places_len {m : Model} {plan : List Int} {n : Nat} : (placesTo m plan n).length ≤ n := by
  have := List.length_filterMap_le (plc m plan) (List.range n)
  rw [List.length_range] at this
  exact this
noncomputable def placesV (m : Model) (plan : List Int) : List Placed := if completeE m plan = 0 then placesTo m plan plan.length else []
theorem complete_plan {m : Model} {plan : List Int} (h : completeE m plan = 0) : sizedP m ∧ planP m plan := by
  by_cases h0 : modelE m = 0
  · refine ⟨model_sized h0, Classical.byContradiction fun hp => ?_⟩
    rw [cE1 h0 hp] at h; cases h
  · rw [cE2 h0] at h; exact absurd h h0
def mbox (m : Model) : Option AObj := some ⟨26, 4, false, .box [.pv (.sl 1 (m.classes.map optsRow)), .pv (.sl 4 (m.pairs.map Pair.row)), .pv (.sl 4 (m.counts.map Count.row)), vint .i64 m.rules]⟩
theorem c_placement0 (m : Model) (plan : List Int) (hl : Laid m) : PCall Tryz.prog 6 [ag m.cells, .pv (encInts plan)] (fun r => Leq r (.tup [.pv (.sl 5 ((placesV m plan).map Placed.row)), vint .i64 (completeE m plan)])) := by
  by_cases h0 : completeE m plan = 0
  · obtain ⟨hz, hp⟩ := complete_plan h0
    have hcn := hz.1
    have hpl := hp.1
    refine acall_of tok mixed 37 rfl (fn := Tryz.f6) (c := Tryz.f6.body.getD .skip) (by kernel_rfl) (by kernel_rfl) (by kernel_rfl) rfl 0 rfl ?_
    repeat' (first | refine o1 ?_ | refine o2 ?_ | refine k1 ?_ | refine k2 ?_ | refine k3 ?_ | refine k4 ?_ | refine k6 ?_ | refine And.intro ?_ ?_ | (intro h; first | exact Bool.noConfusion h | exact nz _ h | exact nl h | (simp at h; done) | (simp at h; first | (exfalso; omega) | skip) | skip) | refine eqv_len_map ?_ | (change vcFun _ _ _ _ _; refine call_eq rfl (by repeat' (first | trivial | refine And.intro ?_ ?_ | (show 0 + _ ≤ List.length _; simp))) ALeL.refl (c_complete m plan hl) rfl ?_) | fail)
    all_goals first
      | (exfalso; exact (by assumption : ¬ completeE m plan = 0) h0)
      | skip
    refine loop_in (fun x : Nat × List Placed => [(7, slP 1 5 (x.2.map Placed.row)), (18, vint .i64 x.1)]) (fun x => [mbox m, obP 50 5 (x.2.map Placed.row)]) (fun x => x.1 ≤ plan.length ∧ x.2 = placesTo m plan x.1) (fun x => plan.length - x.1) (0, []) ⟨by simp, rfl⟩ ⟨?_, ?_⟩
    · exact back [0, 1] rfl rfl (by repeat' (first | exact trivial | exact rfl | refine And.intro ?_ ?_)) (by repeat' (first | exact trivial | exact rfl | refine And.intro ?_ ?_))
    rintro ⟨i, ps⟩ ⟨hi, hps⟩
    dsimp only at hi hps
    have hpn := places_len (m := m) (plan := plan) (n := i)
    rw [← hps] at hpn
    rcases Nat.lt_or_ge i plan.length with hlt | hge
    · obtain ⟨o, ho⟩ := getE hlt
      obtain ⟨l, hl1⟩ := getE (show i < m.classes.length by omega)
      obtain ⟨g1, g2, l', g3, g4⟩ := hp.2 i hlt o ho
      obtain ⟨n, rfl⟩ := Int.eq_ofNat_of_zero_le g2
      rw [Int.toNat_natCast, hl1] at g3
      cases g3
      obtain ⟨x, hx⟩ := getE (show n < l.length by omega)
      have hnext := places_next hl1 ho hx
      rw [← hps] at hnext
      rcases ps with _ | ⟨p0, ps⟩
      · dsimp only [slP, obP, nilA, List.map, List.length_cons, List.length_nil, mbox]
        repeat' (first | (refine idx_sl (k := i) (at_map hl1) (by omega) ?_) | (refine idx_sl (k := n) (at_map hx) (by omega) ?_) | (refine idx_sl (k := i) (at_map ho) (by omega) ?_) | refine o1 ?_ | refine o2 ?_ | refine k1 ?_ | refine k2 ?_ | refine k3 ?_ | refine k4 ?_ | refine k6 ?_ | refine And.intro ?_ ?_ | (intro h; first | exact Bool.noConfusion h | exact nz _ h | exact nl h | (simp at h; done) | (simp at h; first | (exfalso; omega) | skip) | skip) | (refine (?_ : srcLen _ = rowsLen _); rfl) | exact Nat.le_of_ble_eq_true rfl | refine eqv_wrap (by omega) (by omega) ?_ | refine eqv_to _ (app_first rfl) (eqv_to 1 rfl ?_) | fail)
        exact ⟨(i + 1, [x.place]), ⟨by show i + 1 ≤ _; omega, hnext.symm⟩, (by show _ - (i + 1) < _; omega), back [0, 3] rfl rfl (by repeat' (first | exact trivial | exact rfl | refine And.intro ?_ ?_)) (by repeat' (first | exact trivial | exact rfl | refine And.intro ?_ ?_))⟩
      · simp only [List.length_cons] at hpn
        dsimp only [slP, obP, nilA, List.map, List.length_cons, List.length_nil, mbox]
        repeat' (first | (refine idx_sl (k := i) (at_map hl1) (by omega) ?_) | (refine idx_sl (k := n) (at_map hx) (by omega) ?_) | (refine idx_sl (k := i) (at_map ho) (by omega) ?_) | (refine app_consm (f := Placed.row) x.place rfl ?_) | refine o1 ?_ | refine o2 ?_ | refine k1 ?_ | refine k2 ?_ | refine k3 ?_ | refine k4 ?_ | refine k6 ?_ | refine And.intro ?_ ?_ | (intro h; first | exact Bool.noConfusion h | exact nz _ h | exact nl h | (simp at h; done) | (simp at h; first | (exfalso; omega) | skip) | skip) | (refine (?_ : srcLen _ = rowsLen _); rfl) | refine eqv_wrap (by omega) (by omega) ?_ | (refine (?_ : _ ≤ 140737488355328); simp [rowsLen] <;> omega) | (refine (?_ : _ ≤ 9223372036854775807); simp [rowsLen] <;> omega) | (refine (?_ : _ = rowsLen _); simp [rowsLen] <;> omega) | fail)
        exact ⟨(i + 1, p0 :: (ps ++ [x.place])), ⟨by show i + 1 ≤ _; omega, hnext.symm⟩, (by show _ - (i + 1) < _; omega), back [0, 3] rfl rfl (by repeat' (first | exact trivial | exact rfl | refine And.intro ?_ ?_)) (by repeat' (first | exact trivial | exact rfl | refine And.intro ?_ ?_))⟩
    · obtain rfl : i = plan.length := by omega
      have hv : placesV m plan = ps := by unfold placesV; rw [if_pos h0, ← hps]
      rw [hv, h0]
      rcases ps with _ | ⟨p0, ps⟩
      · dsimp only [slP, obP, nilA, List.map, List.length_cons, List.length_nil, mbox]
        repeat' (first | refine o1 ?_ | refine o2 ?_ | refine k1 ?_ | refine k2 ?_ | refine k3 ?_ | refine k7 ?_ | refine k8 ?_ | refine And.intro ?_ ?_ | (intro h; first | exact Bool.noConfusion h | exact nz _ h | exact nl h | (simp at h; done) | (simp at h; first | (exfalso; omega) | skip) | skip) | (change retOk _ _ _ _; refine ret_pure rfl trivial ?_) | fail)
        exact ⟨ALe.tup ⟨ALe.pv PLe.nil, ALe.refl, trivial⟩⟩
      · dsimp only [slP, obP, nilA, List.map, List.length_cons, List.length_nil, mbox]
        repeat' (first | refine o1 ?_ | refine o2 ?_ | refine k1 ?_ | refine k2 ?_ | refine k3 ?_ | refine k7 ?_ | refine k8 ?_ | refine And.intro ?_ ?_ | (intro h; first | exact Bool.noConfusion h | exact nz _ h | exact nl h | (simp at h; done) | (simp at h; first | (exfalso; omega) | skip) | skip) | fail)
        change retOk _ _ _ _
        refine ret_pure rfl (by repeat' (first | trivial | refine And.intro ?_ ?_ | (show 0 + _ ≤ List.length _; simp))) ?_
        exact ⟨ALe.tup ⟨ALe.pv (whole_le (f := Placed.row) (l := p0 :: ps) (by simp)), ALe.refl, trivial⟩⟩
  · refine acall_of tok mixed 37 rfl (fn := Tryz.f6) (c := Tryz.f6.body.getD .skip) (by kernel_rfl) (by kernel_rfl) (by kernel_rfl) rfl 0 rfl ?_
    repeat' (first | refine o1 ?_ | refine o2 ?_ | refine k1 ?_ | refine k2 ?_ | refine k3 ?_ | refine k7 ?_ | refine And.intro ?_ ?_ | (intro h; first | exact Bool.noConfusion h | exact nz _ h | exact nl h | (simp at h; done) | (simp at h; first | (exfalso; omega) | skip) | skip) | (change retOk _ _ _ _; refine ret_pure rfl trivial ?_) | (change vcFun _ _ _ _ _; refine call_eq rfl (by repeat' (first | trivial | refine And.intro ?_ ?_ | (show 0 + _ ≤ List.length _; simp))) ALeL.refl (c_complete m plan hl) rfl ?_) | fail)
    all_goals first
      | (exfalso; exact h0 (by assumption))
      | skip
    unfold placesV
    rw [if_neg h0]
    exact ⟨ALe.tup ⟨ALe.pv PLe.nil, ALe.refl, trivial⟩⟩
theorem c_placement (m : Model) (plan : List Int) (hl : Laid m) : PCall Tryz.prog 6 [ag m.cells, .pv (encInts plan)] (fun r => r = .tup [.pv (.sl 5 ((placesV m plan).map Placed.row)), vint .i64 (completeE m plan)]) :=
  (c_placement0 m plan hl).weak fun r h => ⟨_, h.le, rfl⟩
theorem c_rplacement0 (m : Model) (plan : List Int) (hl : Laid m) : PCall Tryz.prog 7 [ag m.cells, .pv (encInts plan)] (fun r => Leq r (.tup [.pv (.sl 5 ((placesV m plan).map Placed.row)), vint .i64 (completeE m plan)])) := by
  by_cases h0 : completeE m plan = 0
  · obtain ⟨hz, hp⟩ := complete_plan h0
    have hcn := hz.1
    have hpl := hp.1
    refine acall_of tok mixed 37 rfl (fn := Tryz.f7) (c := Tryz.f7.body.getD .skip) (by kernel_rfl) (by kernel_rfl) (by kernel_rfl) rfl 0 rfl ?_
    repeat' (first | refine o1 ?_ | refine o2 ?_ | refine k1 ?_ | refine k2 ?_ | refine k3 ?_ | refine k4 ?_ | refine k6 ?_ | refine And.intro ?_ ?_ | (intro h; first | exact Bool.noConfusion h | exact nz _ h | exact nl h | (simp at h; done) | (simp at h; first | (exfalso; omega) | skip) | skip) | (change vcFun _ _ _ _ _; refine call_eq rfl (by repeat' (first | trivial | refine And.intro ?_ ?_ | (show 0 + _ ≤ List.length _; simp))) ALeL.refl (c_rcomplete m plan hl) rfl ?_) | fail)
    all_goals first
      | (exfalso; exact (by assumption : ¬ completeE m plan = 0) h0)
      | skip
    refine loop_in (fun x : Nat × List Placed => [(7, slP 1 5 (x.2.map Placed.row)), (8, vint .i64 x.1)]) (fun x => [mbox m, obP 50 5 (x.2.map Placed.row)]) (fun x => x.1 ≤ plan.length ∧ x.2 = placesTo m plan x.1) (fun x => plan.length - x.1) (0, []) ⟨by simp, rfl⟩ ⟨?_, ?_⟩
    · exact back [0, 1] rfl rfl (by repeat' (first | exact trivial | exact rfl | refine And.intro ?_ ?_)) (by repeat' (first | exact trivial | exact rfl | refine And.intro ?_ ?_))
    rintro ⟨i, ps⟩ ⟨hi, hps⟩
    dsimp only at hi hps
    have hpn := places_len (m := m) (plan := plan) (n := i)
    rw [← hps] at hpn
    rcases Nat.lt_or_ge i plan.length with hlt | hge
    · obtain ⟨o, ho⟩ := getE hlt
      obtain ⟨l, hl1⟩ := getE (show i < m.classes.length by omega)
      obtain ⟨g1, g2, l', g3, g4⟩ := hp.2 i hlt o ho
      obtain ⟨n, rfl⟩ := Int.eq_ofNat_of_zero_le g2
      rw [Int.toNat_natCast, hl1] at g3
      cases g3
      obtain ⟨x, hx⟩ := getE (show n < l.length by omega)
      have hnext := places_next hl1 ho hx
      rw [← hps] at hnext
      rcases ps with _ | ⟨p0, ps⟩
      · dsimp only [slP, obP, nilA, List.map, List.length_cons, List.length_nil, mbox]
        repeat' (first | (refine idx_sl (k := i) (at_map hl1) (by omega) ?_) | (refine idx_sl (k := n) (at_map hx) (by omega) ?_) | (refine idx_sl (k := i) (at_map ho) (by omega) ?_) | refine o1 ?_ | refine o2 ?_ | refine k1 ?_ | refine k2 ?_ | refine k3 ?_ | refine k4 ?_ | refine k6 ?_ | refine And.intro ?_ ?_ | refine o3 ?_ | refine o4 ?_ | (intro h; first | exact Bool.noConfusion h | exact nz _ h | exact nl h | (simp at h; done) | (simp at h; first | (exfalso; omega) | skip) | skip) | (refine (?_ : srcLen _ = rowsLen _); rfl) | exact Nat.le_of_ble_eq_true rfl | exact (by kernel_rfl : drawOk _ _ = true) | refine eqv_len_map ?_ | refine eqv_wrap (by omega) (by omega) ?_ | refine eqv_to _ (app_first rfl) (eqv_to 1 rfl ?_) | fail)
        exact ⟨(i + 1, [x.place]), ⟨by show i + 1 ≤ _; omega, hnext.symm⟩, (by show _ - (i + 1) < _; omega), back [0, 3] rfl rfl (by repeat' (first | exact trivial | exact rfl | refine And.intro ?_ ?_)) (by repeat' (first | exact trivial | exact rfl | refine And.intro ?_ ?_))⟩
      · simp only [List.length_cons] at hpn
        dsimp only [slP, obP, nilA, List.map, List.length_cons, List.length_nil, mbox]
        repeat' (first | (refine idx_sl (k := i) (at_map hl1) (by omega) ?_) | (refine idx_sl (k := n) (at_map hx) (by omega) ?_) | (refine idx_sl (k := i) (at_map ho) (by omega) ?_) | (refine app_consm (f := Placed.row) x.place rfl ?_) | refine o1 ?_ | refine o2 ?_ | refine k1 ?_ | refine k2 ?_ | refine k3 ?_ | refine k4 ?_ | refine k6 ?_ | refine And.intro ?_ ?_ | refine o3 ?_ | refine o4 ?_ | (intro h; first | exact Bool.noConfusion h | exact nz _ h | exact nl h | (simp at h; done) | (simp at h; first | (exfalso; omega) | skip) | skip) | (refine (?_ : srcLen _ = rowsLen _); rfl) | exact (by kernel_rfl : drawOk _ _ = true) | refine eqv_len_map ?_ | refine eqv_wrap (by omega) (by omega) ?_ | (refine (?_ : _ ≤ 140737488355328); simp [rowsLen] <;> omega) | (refine (?_ : _ ≤ 9223372036854775807); simp [rowsLen] <;> omega) | (refine (?_ : _ = rowsLen _); simp [rowsLen] <;> omega) | fail)
        exact ⟨(i + 1, p0 :: (ps ++ [x.place])), ⟨by show i + 1 ≤ _; omega, hnext.symm⟩, (by show _ - (i + 1) < _; omega), back [0, 3] rfl rfl (by repeat' (first | exact trivial | exact rfl | refine And.intro ?_ ?_)) (by repeat' (first | exact trivial | exact rfl | refine And.intro ?_ ?_))⟩
    · obtain rfl : i = plan.length := by omega
      have hv : placesV m plan = ps := by unfold placesV; rw [if_pos h0, ← hps]
      rw [hv, h0]
      rcases ps with _ | ⟨p0, ps⟩
      · dsimp only [slP, obP, nilA, List.map, List.length_cons, List.length_nil, mbox]
        repeat' (first | refine o1 ?_ | refine o2 ?_ | refine k1 ?_ | refine k2 ?_ | refine k3 ?_ | refine k7 ?_ | refine k8 ?_ | refine And.intro ?_ ?_ | (intro h; first | exact Bool.noConfusion h | exact nz _ h | exact nl h | (simp at h; done) | (simp at h; first | (exfalso; omega) | skip) | skip) | (change retOk _ _ _ _; refine ret_pure rfl trivial ?_) | refine eqv_len_map ?_ | fail)
        exact ⟨ALe.tup ⟨ALe.pv PLe.nil, ALe.refl, trivial⟩⟩
      · dsimp only [slP, obP, nilA, List.map, List.length_cons, List.length_nil, mbox]
        repeat' (first | refine o1 ?_ | refine o2 ?_ | refine k1 ?_ | refine k2 ?_ | refine k3 ?_ | refine k7 ?_ | refine k8 ?_ | refine And.intro ?_ ?_ | (intro h; first | exact Bool.noConfusion h | exact nz _ h | exact nl h | (simp at h; done) | (simp at h; first | (exfalso; omega) | skip) | skip) | refine eqv_len_map ?_ | fail)
        change retOk _ _ _ _
        refine ret_pure rfl (by repeat' (first | trivial | refine And.intro ?_ ?_ | (show 0 + _ ≤ List.length _; simp))) ?_
        exact ⟨ALe.tup ⟨ALe.pv (whole_le (f := Placed.row) (l := p0 :: ps) (by simp)), ALe.refl, trivial⟩⟩
  · refine acall_of tok mixed 37 rfl (fn := Tryz.f7) (c := Tryz.f7.body.getD .skip) (by kernel_rfl) (by kernel_rfl) (by kernel_rfl) rfl 0 rfl ?_
    repeat' (first | refine o1 ?_ | refine o2 ?_ | refine k1 ?_ | refine k2 ?_ | refine k3 ?_ | refine k7 ?_ | refine And.intro ?_ ?_ | (intro h; first | exact Bool.noConfusion h | exact nz _ h | exact nl h | (simp at h; done) | (simp at h; first | (exfalso; omega) | skip) | skip) | (change retOk _ _ _ _; refine ret_pure rfl trivial ?_) | (change vcFun _ _ _ _ _; refine call_eq rfl (by repeat' (first | trivial | refine And.intro ?_ ?_ | (show 0 + _ ≤ List.length _; simp))) ALeL.refl (c_rcomplete m plan hl) rfl ?_) | fail)
    all_goals first
      | (exfalso; exact h0 (by assumption))
      | skip
    unfold placesV
    rw [if_neg h0]
    exact ⟨ALe.tup ⟨ALe.pv PLe.nil, ALe.refl, trivial⟩⟩
theorem c_rplacement (m : Model) (plan : List Int) (hl : Laid m) : PCall Tryz.prog 7 [ag m.cells, .pv (encInts plan)] (fun r => r = .tup [.pv (.sl 5 ((placesV m plan).map Placed.row)), vint .i64 (completeE m plan)]) :=
  (c_rplacement0 m plan hl).weak fun r h => ⟨_, h.le, rfl⟩
end Go.Proofs.YtfdjcpodkhpgcaaGreat.Cw

/-
  Contracts: the plan of places.
-/
namespace Go.Proofs.YtfdjcpodkhpgcaaGreat.Cw
open Go.Cw Go.Proofs
set_option linter.unusedVariables false
set_option maxRecDepth 100000
set_option maxHeartbeats 1600000

def sameB (a b : Placed) : Bool := decide (a.time.weeks = b.time.weeks ∧ a.time.day = b.time.day ∧ a.time.start = b.time.start ∧ a.time.len = b.time.len ∧ a.room = b.room)
theorem c_plan1 (x : Opt) (p : List Placed) (i : Nat) (q : Placed) (hq : p[i]? = some q) : PCall Tryz.prog 24 [ag x.row, .pv (.ia [.sl 5 (p.map Placed.row)]), .pv (.ia [ei i])] (fun r => r = vbool (sameB x.place q)) := by
  have hi := (List.getElem?_eq_some_iff.1 hq).1
  refine acall_of tok mixed 12 rfl (fn := Tryz.f24) (c := Tryz.f24.body.getD .skip) (by kernel_rfl) (by kernel_rfl) (by kernel_rfl) rfl 0 rfl ?_
  repeat' (first | (refine idx_sl (k := i) (at_map hq) (by omega) ?_) | refine o1 ?_ | refine o2 ?_ | refine k1 ?_ | refine k2 ?_ | refine k7 ?_ | refine And.intro ?_ ?_ | refine o3 ?_ | refine o4 ?_ | (change retOk _ _ _ _; refine ret_pure rfl trivial ?_) | exact (by kernel_rfl : drawOk _ _ = true) | fail)
  exact congrArg vbool (by rw [Bool.eq_iff_iff]; simp [sameB, and_assoc])
noncomputable def fnd (m : Model) (p : List Placed) (i : Nat) : Int := match m.classes[i]?, p[i]? with
  | some l, some q => idxB (fun x : Opt => sameB x.place q) l
  | _, _ => -1
theorem fnd_at {m : Model} {p : List Placed} {i : Nat} {l : List Opt} {q : Placed} (hl : m.classes[i]? = some l) (hq : p[i]? = some q) : fnd m p i = idxB (fun x : Opt => sameB x.place q) l := by unfold fnd; rw [hl, hq]
def findsP (m : Model) (p : List Placed) : Prop := modelE m = 0 ∧ p.length = m.classes.length ∧ ∀ i, i < m.classes.length → 0 ≤ fnd m p i
noncomputable def fndTo (m : Model) (p : List Placed) (n : Nat) : List Int := (List.range n).map (fnd m p)
theorem fnd_next {m : Model} {p : List Placed} {n : Nat} : fndTo m p (n + 1) = fndTo m p n ++ [fnd m p n] := by
  unfold fndTo
  rw [List.range_succ, List.map_append]; rfl
theorem fnd_len {m : Model} {p : List Placed} {n : Nat} : (fndTo m p n).length = n := by unfold fndTo; simp
noncomputable def planV (m : Model) (p : List Placed) : List Int := if pB (findsP m p) then fndTo m p m.classes.length else []
theorem plan_no {m : Model} {p : List Placed} (h : ¬ findsP m p) : Leq (.tup [.pv (.val (.slice none 0 0)), vbool false]) (.tup [.pv (encInts (planV m p)), vbool (pB (findsP m p))]) := by
  unfold planV
  rw [pB_f h]
  exact ⟨ALe.tup ⟨ALe.pv PLe.nil, ALe.refl, trivial⟩⟩
theorem planV_t {m : Model} {p : List Placed} (h : findsP m p) : planV m p = fndTo m p m.classes.length := by unfold planV; rw [pB_t h, if_pos rfl]
def pbox (p : List Placed) : Option AObj := some ⟨28, 1, false, .box [.pv (.sl 5 (p.map Placed.row))]⟩
theorem c_plan0 (m : Model) (p : List Placed) (hl : Laid m) : PCall Tryz.prog 8 [ag m.cells, .pv (.sl 5 (p.map Placed.row))] (fun r => Leq r (.tup [.pv (encInts (planV m p)), vbool (pB (findsP m p))])) := by
  by_cases h0 : modelE m = 0 ∧ p.length = m.classes.length
  · obtain ⟨h0, hpl⟩ := h0
    have hz := model_sized h0
    have hcn := hz.1
    refine acall_of tok mixed 40 rfl (fn := Tryz.f8) (c := Tryz.f8.body.getD .skip) (by kernel_rfl) (by kernel_rfl) (by kernel_rfl) rfl 0 rfl ?_
    repeat' (first | refine o1 ?_ | refine o2 ?_ | refine k1 ?_ | refine k2 ?_ | refine k3 ?_ | refine k4 ?_ | refine k6 ?_ | refine And.intro ?_ ?_ | (intro h; first | exact Bool.noConfusion h | exact nz _ h | exact nl h | (simp at h; done) | (simp at h; first | (exfalso; omega) | skip) | skip) | refine eqv_len_map ?_ | (change vcFun _ _ _ _ _; refine call_eq rfl (by repeat' (first | trivial | refine And.intro ?_ ?_ | (show 0 + _ ≤ List.length _; simp))) ALeL.refl (c_valid m hl) rfl ?_) | fail)
    all_goals first
      | (exfalso; exact (by assumption : ¬ modelE m = 0) h0)
      | (exfalso; omega)
      | skip
    refine loop_in (fun x : Nat × List Int => [(6, slP 2 1 (x.2.map fun n => [ei n])), (24, vint .i64 x.1)]) (fun x => [mbox m, pbox p, obP 3 1 (x.2.map fun n => [ei n])]) (fun x => x.1 ≤ m.classes.length ∧ x.2 = fndTo m p x.1 ∧ ∀ j, j < x.1 → 0 ≤ fnd m p j) (fun x => m.classes.length - x.1) (0, []) ⟨by simp, rfl, fun j hj => absurd hj (Nat.not_lt_zero _)⟩ ⟨?_, ?_⟩
    · exact back [0, 1, 2] rfl rfl (by repeat' (first | exact trivial | exact rfl | refine And.intro ?_ ?_)) (by repeat' (first | exact trivial | exact rfl | refine And.intro ?_ ?_))
    rintro ⟨i, ps⟩ ⟨hi, hps, hall⟩
    dsimp only at hi hps hall
    have hpn := fnd_len (m := m) (p := p) (n := i)
    rw [← hps] at hpn
    rcases Nat.lt_or_ge i m.classes.length with hlt | hge
    · obtain ⟨l, hl1⟩ := getE hlt
      have hll := hz.2.1 l (List.mem_of_getElem? hl1)
      obtain ⟨q, hq⟩ := getE (show i < p.length by omega)
      have hf := fnd_at hl1 hq
      have hnext := fnd_next (m := m) (p := p) (n := i)
      rw [← hps, hf] at hnext
      have hn : 0 ≤ idxB (fun x : Opt => sameB x.place q) l → 0 ≤ fnd m p i := fun h => by rw [hf]; exact h
      rcases ps with _ | ⟨p0, ps⟩
      · skip
        dsimp only [slP, obP, nilA, List.map, List.length_cons, List.length_nil, mbox, pbox]
        repeat' (first | refine o1 ?_ | refine o2 ?_ | refine k1 ?_ | refine k2 ?_ | refine k3 ?_ | refine k4 ?_ | refine k6 ?_ | refine k7 ?_ | refine And.intro ?_ ?_ | (intro h; first | exact Bool.noConfusion h | exact nz _ h | exact nl h | (simp at h; done) | (simp at h; first | (exfalso; omega) | skip) | skip) | (change retOk _ _ _ _; refine ret_pure rfl trivial ?_) | (refine (?_ : srcLen _ = rowsLen _); rfl) | exact Nat.le_of_ble_eq_true rfl | exact (by kernel_rfl : drawOk _ _ = true) | refine eqv_wrap (by omega) (by omega) ?_ | refine ⟨_, _, (by first | rfl | assumption), at_map (by assumption), ?_⟩ | refine eqv_to _ (app_first rfl) (eqv_to 1 rfl ?_) | (change vcFun _ _ _ _ _; refine call_eq rfl (by repeat' (first | trivial | refine And.intro ?_ ?_ | (show 0 + _ ≤ List.length _; simp))) ALeL.refl (c_index_opt l 24 [.ia [.sl 5 (p.map Placed.row)], .ia [ei i]] (fun x : Opt => sameB x.place q) (by omega) (fun x _ => c_plan1 x p i q hq)) rfl ?_) | fail)
        all_goals first
          | exact plan_no fun g => by have := g.2.2 i hlt; rw [hf] at this; omega
          | exact ⟨(i + 1, [idxB (fun x : Opt => sameB x.place q) l]), ⟨by show i + 1 ≤ _; omega, hnext.symm, all_lt_succ hall (hn (by assumption))⟩, (by show _ - (i + 1) < _; omega), back [0, 1, 5] rfl rfl (by repeat' (first | exact trivial | exact rfl | refine And.intro ?_ ?_)) (by repeat' (first | exact trivial | exact rfl | refine And.intro ?_ ?_))⟩
      · simp only [List.length_cons] at hpn
        dsimp only [slP, obP, nilA, List.map, List.length_cons, List.length_nil, mbox, pbox]
        repeat' (first | (refine app_consm (f := fun n => [ei n]) (idxB (fun x : Opt => sameB x.place q) l) rfl ?_) | refine o1 ?_ | refine o2 ?_ | refine k1 ?_ | refine k2 ?_ | refine k3 ?_ | refine k4 ?_ | refine k6 ?_ | refine k7 ?_ | refine And.intro ?_ ?_ | (intro h; first | exact Bool.noConfusion h | exact nz _ h | exact nl h | (simp at h; done) | (simp at h; first | (exfalso; omega) | skip) | skip) | (change retOk _ _ _ _; refine ret_pure rfl trivial ?_) | (refine (?_ : srcLen _ = rowsLen _); rfl) | exact (by kernel_rfl : drawOk _ _ = true) | refine eqv_wrap (by omega) (by omega) ?_ | refine ⟨_, _, (by first | rfl | assumption), at_map (by assumption), ?_⟩ | (refine (?_ : _ ≤ 140737488355328); simp [rowsLen] <;> omega) | (refine (?_ : _ ≤ 9223372036854775807); simp [rowsLen] <;> omega) | (refine (?_ : _ = rowsLen _); simp [rowsLen] <;> omega) | (change vcFun _ _ _ _ _; refine call_eq rfl (by repeat' (first | trivial | refine And.intro ?_ ?_ | (show 0 + _ ≤ List.length _; simp))) ALeL.refl (c_index_opt l 24 [.ia [.sl 5 (p.map Placed.row)], .ia [ei i]] (fun x : Opt => sameB x.place q) (by omega) (fun x _ => c_plan1 x p i q hq)) rfl ?_) | fail)
        all_goals first
          | exact plan_no fun g => by have := g.2.2 i hlt; rw [hf] at this; omega
          | exact ⟨(i + 1, p0 :: (ps ++ [idxB (fun x : Opt => sameB x.place q) l])), ⟨by show i + 1 ≤ _; omega, hnext.symm, all_lt_succ hall (hn (by assumption))⟩, (by show _ - (i + 1) < _; omega), back [0, 1, 5] rfl rfl (by repeat' (first | exact trivial | exact rfl | refine And.intro ?_ ?_)) (by repeat' (first | exact trivial | exact rfl | refine And.intro ?_ ?_))⟩
    · have hfin : findsP m p := ⟨h0, hpl, fun j hj => hall j (by omega)⟩
      obtain rfl : i = m.classes.length := by omega
      rw [planV_t hfin, pB_t hfin, ← hps]
      rcases ps with _ | ⟨p0, ps⟩
      · dsimp only [slP, obP, nilA, List.map, List.length_cons, List.length_nil, mbox, pbox]
        repeat' (first | refine o1 ?_ | refine o2 ?_ | refine k1 ?_ | refine k2 ?_ | refine k3 ?_ | refine k7 ?_ | refine k8 ?_ | refine And.intro ?_ ?_ | (intro h; first | exact Bool.noConfusion h | exact nz _ h | exact nl h | (simp at h; done) | (simp at h; first | (exfalso; omega) | skip) | skip) | (change retOk _ _ _ _; refine ret_pure rfl trivial ?_) | fail)
        exact ⟨ALe.tup ⟨ALe.pv PLe.nil, ALe.refl, trivial⟩⟩
      · dsimp only [slP, obP, nilA, List.map, List.length_cons, List.length_nil, mbox, pbox]
        repeat' (first | refine o1 ?_ | refine o2 ?_ | refine k1 ?_ | refine k2 ?_ | refine k3 ?_ | refine k7 ?_ | refine k8 ?_ | refine And.intro ?_ ?_ | (intro h; first | exact Bool.noConfusion h | exact nz _ h | exact nl h | (simp at h; done) | (simp at h; first | (exfalso; omega) | skip) | skip) | fail)
        change retOk _ _ _ _
        refine ret_pure rfl (by repeat' (first | trivial | refine And.intro ?_ ?_ | (show 0 + _ ≤ List.length _; simp))) ?_
        exact ⟨ALe.tup ⟨ALe.pv (whole_le (f := fun n => [ei n]) (l := p0 :: ps) (by simp)), ALe.refl, trivial⟩⟩
  · refine acall_of tok mixed 40 rfl (fn := Tryz.f8) (c := Tryz.f8.body.getD .skip) (by kernel_rfl) (by kernel_rfl) (by kernel_rfl) rfl 0 rfl ?_
    repeat' (first | refine o1 ?_ | refine o2 ?_ | refine k1 ?_ | refine k2 ?_ | refine k3 ?_ | refine k7 ?_ | refine And.intro ?_ ?_ | (intro h; first | exact Bool.noConfusion h | exact nz _ h | exact nl h | (simp at h; done) | (simp at h; first | (exfalso; omega) | skip) | skip) | (change retOk _ _ _ _; refine ret_pure rfl trivial ?_) | refine eqv_len_map ?_ | (change vcFun _ _ _ _ _; refine call_eq rfl (by repeat' (first | trivial | refine And.intro ?_ ?_ | (show 0 + _ ≤ List.length _; simp))) ALeL.refl (c_valid m hl) rfl ?_) | fail)
    all_goals first
      | exact plan_no fun g => h0 ⟨g.1, g.2.1⟩
      | (exfalso; exact h0 ⟨by assumption, by omega⟩)
theorem c_plan (m : Model) (p : List Placed) (hl : Laid m) : PCall Tryz.prog 8 [ag m.cells, .pv (.sl 5 (p.map Placed.row))] (fun r => r = .tup [.pv (encInts (planV m p)), vbool (pB (findsP m p))]) :=
  (c_plan0 m p hl).weak fun r h => ⟨_, h.le, rfl⟩
theorem same_f {o : Opt} {q : Placed} (h : ¬ (sameB o.place q = true)) : sameB o.place q = false := by simpa using h
theorem idx_hit {l : List Opt} {q : Placed} {k : Nat} {x : Opt} (hall : ∀ j, j < k → ∀ y, l[j]? = some y → sameB y.place q = false) (hx : l[k]? = some x) (h : sameB x.place q = true) : idxB (fun x : Opt => sameB x.place q) l = k := idxB_at (p := fun x : Opt => sameB x.place q) hall hx h
theorem c_rplan0 (m : Model) (p : List Placed) (hl : Laid m) : PCall Tryz.prog 9 [ag m.cells, .pv (.sl 5 (p.map Placed.row))] (fun r => Leq r (.tup [.pv (encInts (planV m p)), vbool (pB (findsP m p))])) := by
  by_cases h0 : modelE m = 0 ∧ p.length = m.classes.length
  · obtain ⟨h0, hpl⟩ := h0
    have hz := model_sized h0
    have hcn := hz.1
    refine acall_of tok mixed 65 rfl (fn := Tryz.f9) (c := Tryz.f9.body.getD .skip) (by kernel_rfl) (by kernel_rfl) (by kernel_rfl) rfl 0 rfl ?_
    repeat' (first | refine o1 ?_ | refine o2 ?_ | refine k1 ?_ | refine k2 ?_ | refine k3 ?_ | refine k4 ?_ | refine k6 ?_ | refine And.intro ?_ ?_ | (intro h; first | exact Bool.noConfusion h | exact nz _ h | exact nl h | (simp at h; done) | (simp at h; first | (exfalso; omega) | skip) | skip) | refine eqv_len_map ?_ | (change vcFun _ _ _ _ _; refine call_eq rfl (by repeat' (first | trivial | refine And.intro ?_ ?_ | (show 0 + _ ≤ List.length _; simp))) ALeL.refl (c_rvalid m hl) rfl ?_) | fail)
    all_goals first
      | (exfalso; exact (by assumption : ¬ modelE m = 0) h0)
      | (exfalso; omega)
      | skip
    refine loop_in (fun x : Nat × List Int => [(6, slP 1 1 (x.2.map fun n => [ei n])), (7, vint .i64 x.1)]) (fun x => [mbox m, obP 3 1 (x.2.map fun n => [ei n])]) (fun x => x.1 ≤ m.classes.length ∧ x.2 = fndTo m p x.1 ∧ ∀ j, j < x.1 → 0 ≤ fnd m p j) (fun x => m.classes.length - x.1) (0, []) ⟨by simp, rfl, fun j hj => absurd hj (Nat.not_lt_zero _)⟩ ⟨?_, ?_⟩
    · exact back [0, 1] rfl rfl (by repeat' (first | exact trivial | exact rfl | refine And.intro ?_ ?_)) (by repeat' (first | exact trivial | exact rfl | refine And.intro ?_ ?_))
    rintro ⟨i, ps⟩ ⟨hi, hps, hall⟩
    dsimp only at hi hps hall
    have hpn := fnd_len (m := m) (p := p) (n := i)
    rw [← hps] at hpn
    rcases Nat.lt_or_ge i m.classes.length with hlt | hge
    · obtain ⟨l, hl1⟩ := getE hlt
      have hll := hz.2.1 l (List.mem_of_getElem? hl1)
      obtain ⟨q, hq⟩ := getE (show i < p.length by omega)
      have hf := fnd_at hl1 hq
      have hnext := fnd_next (m := m) (p := p) (n := i)
      rw [← hps, hf] at hnext
      have hn : 0 ≤ idxB (fun x : Opt => sameB x.place q) l → 0 ≤ fnd m p i := fun h => by rw [hf]; exact h
      rcases ps with _ | ⟨p0, ps⟩
      · skip
        dsimp only [slP, obP, nilA, List.map, List.length_cons, List.length_nil, mbox]
        repeat' (first | refine o1 ?_ | refine o2 ?_ | refine k1 ?_ | refine k2 ?_ | refine k3 ?_ | refine k4 ?_ | refine k6 ?_ | refine And.intro ?_ ?_ | (intro h; first | exact Bool.noConfusion h | exact nz _ h | exact nl h | (simp at h; done) | (simp at h; first | (exfalso; omega) | skip) | skip) | refine eqv_len_map ?_ | fail)
        refine loop_at (fun k : Nat => [(8, vint .i64 k)]) (fun _ => []) (fun k => k ≤ l.length ∧ ∀ j, j < k → ∀ y, l[j]? = some y → sameB y.place q = false) (fun k => l.length - k) 0 ⟨by omega, fun j hj => by omega⟩ (by repeat' (first | exact trivial | exact ⟨_, rfl, ALe.refl⟩ | refine And.intro ?_ ?_)) (by repeat' (first | exact trivial | exact rfl | refine And.intro ?_ ?_)) ?_
        intro k ⟨hk, hallk⟩
        rcases Nat.lt_or_ge k l.length with hkl | hkg
        · obtain ⟨x, hx⟩ := getE hkl
          repeat' (first | (refine idx_sl (k := i) (at_map hl1) (by omega) ?_) | (refine idx_sl (k := i) (at_map hq) (by omega) ?_) | (refine idx_sl (k := k) (at_map hx) (by omega) ?_) | refine o1 ?_ | refine o2 ?_ | refine k1 ?_ | refine k2 ?_ | refine k3 ?_ | refine k4 ?_ | refine k6 ?_ | refine k8 ?_ | refine And.intro ?_ ?_ | refine o3 ?_ | refine o4 ?_ | (intro h; first | exact Bool.noConfusion h | exact nz _ h | exact nl h | (simp at h; done) | (simp at h; first | (exfalso; omega) | skip) | skip) | (refine (?_ : srcLen _ = rowsLen _); rfl) | exact Nat.le_of_ble_eq_true rfl | exact (by kernel_rfl : drawOk _ _ = true) | refine eqv_len_map ?_ | refine eqv_wrap (by omega) (by omega) ?_ | refine eqv_to _ (app_first rfl) (eqv_to 1 rfl ?_) | fail)
          all_goals first
            | (exfalso; omega)
            | exact ⟨k + 1, ⟨by omega, all_lt_succ hallk fun y hy => by rw [hx] at hy; cases hy; exact decide_eq_false (by omega)⟩, by omega, back [0, 1] rfl rfl (by repeat' (first | exact trivial | exact rfl | refine And.intro ?_ ?_)) (by repeat' (first | exact trivial | exact rfl | refine And.intro ?_ ?_))⟩
            | (have hk2 := idx_hit (q := q) hallk hx (decide_eq_true (by omega))
               rw [hk2] at hnext hf
               exact ⟨(i + 1, [(k : Int)]), ⟨by show i + 1 ≤ _; omega, hnext.symm, all_lt_succ hall (by rw [hf]; omega)⟩, (by show _ - (i + 1) < _; omega), back [0, 3] rfl rfl (by repeat' (first | exact trivial | exact rfl | refine And.intro ?_ ?_)) (by repeat' (first | exact trivial | exact rfl | refine And.intro ?_ ?_))⟩)
        · repeat' (first | (refine idx_sl (k := i) (at_map hl1) (by omega) ?_) | refine o1 ?_ | refine o2 ?_ | refine k1 ?_ | refine k2 ?_ | refine k3 ?_ | refine k7 ?_ | refine k8 ?_ | refine And.intro ?_ ?_ | refine o3 ?_ | refine o4 ?_ | (intro h; first | exact Bool.noConfusion h | exact nz _ h | exact nl h | (simp at h; done) | (simp at h; first | (exfalso; omega) | skip) | skip) | (change retOk _ _ _ _; refine ret_pure rfl trivial ?_) | exact (by kernel_rfl : drawOk _ _ = true) | refine eqv_len_map ?_ | fail)
          all_goals first
            | (exfalso; omega)
            | exact plan_no fun g => by have := g.2.2 i hlt; rw [hf, idxB_none (p := fun x : Opt => sameB x.place q) fun j hj => hallk j (by omega)] at this; omega
      · simp only [List.length_cons] at hpn
        dsimp only [slP, obP, nilA, List.map, List.length_cons, List.length_nil, mbox]
        repeat' (first | refine o1 ?_ | refine o2 ?_ | refine k1 ?_ | refine k2 ?_ | refine k3 ?_ | refine k4 ?_ | refine k6 ?_ | refine And.intro ?_ ?_ | (intro h; first | exact Bool.noConfusion h | exact nz _ h | exact nl h | (simp at h; done) | (simp at h; first | (exfalso; omega) | skip) | skip) | refine eqv_len_map ?_ | fail)
        refine loop_at (fun k : Nat => [(8, vint .i64 k)]) (fun _ => []) (fun k => k ≤ l.length ∧ ∀ j, j < k → ∀ y, l[j]? = some y → sameB y.place q = false) (fun k => l.length - k) 0 ⟨by omega, fun j hj => by omega⟩ (by repeat' (first | exact trivial | exact ⟨_, rfl, ALe.refl⟩ | refine And.intro ?_ ?_)) (by repeat' (first | exact trivial | exact rfl | refine And.intro ?_ ?_)) ?_
        intro k ⟨hk, hallk⟩
        rcases Nat.lt_or_ge k l.length with hkl | hkg
        · obtain ⟨x, hx⟩ := getE hkl
          repeat' (first | (refine idx_sl (k := i) (at_map hl1) (by omega) ?_) | (refine idx_sl (k := i) (at_map hq) (by omega) ?_) | (refine idx_sl (k := k) (at_map hx) (by omega) ?_) | (refine app_consm (f := fun n => [ei n]) (k : Int) rfl ?_) | refine o1 ?_ | refine o2 ?_ | refine k1 ?_ | refine k2 ?_ | refine k3 ?_ | refine k4 ?_ | refine k6 ?_ | refine k8 ?_ | refine And.intro ?_ ?_ | refine o3 ?_ | refine o4 ?_ | (intro h; first | exact Bool.noConfusion h | exact nz _ h | exact nl h | (simp at h; done) | (simp at h; first | (exfalso; omega) | skip) | skip) | (refine (?_ : srcLen _ = rowsLen _); rfl) | exact (by kernel_rfl : drawOk _ _ = true) | refine eqv_len_map ?_ | refine eqv_wrap (by omega) (by omega) ?_ | (refine (?_ : _ ≤ 140737488355328); simp [rowsLen] <;> omega) | (refine (?_ : _ ≤ 9223372036854775807); simp [rowsLen] <;> omega) | (refine (?_ : _ = rowsLen _); simp [rowsLen] <;> omega) | fail)
          all_goals first
            | (exfalso; omega)
            | exact ⟨k + 1, ⟨by omega, all_lt_succ hallk fun y hy => by rw [hx] at hy; cases hy; exact decide_eq_false (by omega)⟩, by omega, back [0, 1] rfl rfl (by repeat' (first | exact trivial | exact rfl | refine And.intro ?_ ?_)) (by repeat' (first | exact trivial | exact rfl | refine And.intro ?_ ?_))⟩
            | (have hk2 := idx_hit (q := q) hallk hx (decide_eq_true (by omega))
               rw [hk2] at hnext hf
               exact ⟨(i + 1, p0 :: (ps ++ [(k : Int)])), ⟨by show i + 1 ≤ _; omega, hnext.symm, all_lt_succ hall (by rw [hf]; omega)⟩, (by show _ - (i + 1) < _; omega), back [0, 3] rfl rfl (by repeat' (first | exact trivial | exact rfl | refine And.intro ?_ ?_)) (by repeat' (first | exact trivial | exact rfl | refine And.intro ?_ ?_))⟩)
        · repeat' (first | (refine idx_sl (k := i) (at_map hl1) (by omega) ?_) | refine o1 ?_ | refine o2 ?_ | refine k1 ?_ | refine k2 ?_ | refine k3 ?_ | refine k7 ?_ | refine k8 ?_ | refine And.intro ?_ ?_ | refine o3 ?_ | refine o4 ?_ | (intro h; first | exact Bool.noConfusion h | exact nz _ h | exact nl h | (simp at h; done) | (simp at h; first | (exfalso; omega) | skip) | skip) | (change retOk _ _ _ _; refine ret_pure rfl trivial ?_) | exact (by kernel_rfl : drawOk _ _ = true) | refine eqv_len_map ?_ | fail)
          all_goals first
            | (exfalso; omega)
            | exact plan_no fun g => by have := g.2.2 i hlt; rw [hf, idxB_none (p := fun x : Opt => sameB x.place q) fun j hj => hallk j (by omega)] at this; omega
    · have hfin : findsP m p := ⟨h0, hpl, fun j hj => hall j (by omega)⟩
      obtain rfl : i = m.classes.length := by omega
      rw [planV_t hfin, pB_t hfin, ← hps]
      rcases ps with _ | ⟨p0, ps⟩
      · dsimp only [slP, obP, nilA, List.map, List.length_cons, List.length_nil, mbox]
        repeat' (first | refine o1 ?_ | refine o2 ?_ | refine k1 ?_ | refine k2 ?_ | refine k3 ?_ | refine k7 ?_ | refine k8 ?_ | refine And.intro ?_ ?_ | (intro h; first | exact Bool.noConfusion h | exact nz _ h | exact nl h | (simp at h; done) | (simp at h; first | (exfalso; omega) | skip) | skip) | (change retOk _ _ _ _; refine ret_pure rfl trivial ?_) | refine eqv_len_map ?_ | fail)
        all_goals first
          | exact ⟨ALe.tup ⟨ALe.pv PLe.nil, ALe.refl, trivial⟩⟩
      · dsimp only [slP, obP, nilA, List.map, List.length_cons, List.length_nil, mbox]
        repeat' (first | refine o1 ?_ | refine o2 ?_ | refine k1 ?_ | refine k2 ?_ | refine k3 ?_ | refine k7 ?_ | refine k8 ?_ | refine And.intro ?_ ?_ | (intro h; first | exact Bool.noConfusion h | exact nz _ h | exact nl h | (simp at h; done) | (simp at h; first | (exfalso; omega) | skip) | skip) | refine eqv_len_map ?_ | fail)
        change retOk _ _ _ _
        refine ret_pure rfl (by repeat' (first | trivial | refine And.intro ?_ ?_ | (show 0 + _ ≤ List.length _; simp))) ?_
        exact ⟨ALe.tup ⟨ALe.pv (whole_le (f := fun n => [ei n]) (l := p0 :: ps) (by simp)), ALe.refl, trivial⟩⟩
  · refine acall_of tok mixed 65 rfl (fn := Tryz.f9) (c := Tryz.f9.body.getD .skip) (by kernel_rfl) (by kernel_rfl) (by kernel_rfl) rfl 0 rfl ?_
    repeat' (first | refine o1 ?_ | refine o2 ?_ | refine k1 ?_ | refine k2 ?_ | refine k3 ?_ | refine k7 ?_ | refine And.intro ?_ ?_ | (intro h; first | exact Bool.noConfusion h | exact nz _ h | exact nl h | (simp at h; done) | (simp at h; first | (exfalso; omega) | skip) | skip) | (change retOk _ _ _ _; refine ret_pure rfl trivial ?_) | refine eqv_len_map ?_ | (change vcFun _ _ _ _ _; refine call_eq rfl (by repeat' (first | trivial | refine And.intro ?_ ?_ | (show 0 + _ ≤ List.length _; simp))) ALeL.refl (c_rvalid m hl) rfl ?_) | fail)
    all_goals first
      | exact plan_no fun g => h0 ⟨g.1, g.2.1⟩
      | (exfalso; exact h0 ⟨by assumption, by omega⟩)
theorem c_rplan (m : Model) (p : List Placed) (hl : Laid m) : PCall Tryz.prog 9 [ag m.cells, .pv (.sl 5 (p.map Placed.row))] (fun r => r = .tup [.pv (encInts (planV m p)), vbool (pB (findsP m p))]) :=
  (c_rplan0 m p hl).weak fun r h => ⟨_, h.le, rfl⟩
theorem placesV_len {m : Model} {plan : List Int} : (placesV m plan).length ≤ 24 := by
  unfold placesV
  split
  · rename_i h
    obtain ⟨hz, hp⟩ := complete_plan h
    have h1 := places_len (m := m) (plan := plan) (n := plan.length)
    have h2 := hp.1
    have h3 := hz.1
    omega
  · simp
theorem planV_len {m : Model} {p : List Placed} : (planV m p).length ≤ 24 := by
  unfold planV
  by_cases h : findsP m p
  · rw [if_pos (pB_t h), fnd_len]
    exact (model_sized h.1).1
  · rw [if_neg (by rw [pB_f h]; simp)]; simp
end Go.Proofs.YtfdjcpodkhpgcaaGreat.Cw

/-
  The example with which each law of chapter 17 begins: it answers true. No conditions.
-/
namespace Go.Proofs.YtfdjcpodkhpgcaaGreat.Cw
open Go.Cw Go.Proofs
theorem awake_ok : PCall Tryz.prog 10 [] (fun r => r = vbool true) := by
  have h : exFun T F 100000 20 10 [] [] = some (vbool true, []) := by kernel_rfl
  exact (exFun_ok tok fok mixed 100000 20 10 [] [] _ _ h).mono fun r H' e => ⟨e.2, e.1⟩
end Go.Proofs.YtfdjcpodkhpgcaaGreat.Cw

/-
  What the laws on models are handed.
-/
namespace Go.Proofs.YtfdjcpodkhpgcaaGreat.Cw
open Go.Cw Go.Proofs
set_option linter.unusedVariables false
set_option maxRecDepth 100000

theorem in_int {qs : List PV} (h : PTy T 3 qs) : ∃ n : Int, qs = [ei n] := by
  obtain ⟨n, h, _⟩ := kd_int (by kernel_rfl) h
  exact ⟨n, h⟩
theorem in_ints {qs : List PV} (h : PTy T 27 qs) : ∃ l : List Int, qs = [encInts l] := by
  obtain ⟨l, h, _⟩ := kd_slice (fun s => [ei s]) (fun _ => True) (e := 3) (z := 1) (by kernel_rfl) (fun r hr => by obtain ⟨s, h⟩ := in_int hr; exact ⟨s, h, trivial⟩) h
  exact ⟨l, h⟩
theorem in_time {qs : List PV} (h : PTy T 48 qs) : ∃ x : Time, qs = x.row := by
  obtain ⟨_, _, rfl, h1, h⟩ := kd_cons (kd_struct (ts := [3, 3, 3, 3]) (by kernel_rfl) h)
  obtain ⟨_, _, rfl, h2, h⟩ := kd_cons h
  obtain ⟨_, _, rfl, h3, h⟩ := kd_cons h
  obtain ⟨_, _, rfl, h4, h⟩ := kd_cons h
  obtain rfl := kd_nil h
  obtain ⟨a, rfl⟩ := in_int h1
  obtain ⟨b, rfl⟩ := in_int h2
  obtain ⟨c, rfl⟩ := in_int h3
  obtain ⟨d, rfl⟩ := in_int h4
  exact ⟨⟨a, b, c, d⟩, rfl⟩
theorem in_placed {qs : List PV} (h : PTy T 50 qs) : ∃ x : Placed, qs = x.row := by
  obtain ⟨_, _, rfl, h1, h⟩ := kd_cons (kd_struct (ts := [48, 3]) (by kernel_rfl) h)
  obtain ⟨_, _, rfl, h2, h⟩ := kd_cons h
  obtain rfl := kd_nil h
  obtain ⟨a, rfl⟩ := in_time h1
  obtain ⟨b, rfl⟩ := in_int h2
  exact ⟨⟨a, b⟩, rfl⟩
theorem in_placeds {qs : List PV} (h : PTy T 28 qs) : ∃ l : List Placed, qs = [.sl 5 (l.map Placed.row)] := by
  obtain ⟨l, h, _⟩ := kd_slice Placed.row (fun _ => True) (e := 50) (z := 5) (by kernel_rfl) (fun r hr => by obtain ⟨s, h⟩ := in_placed hr; exact ⟨s, h, trivial⟩) h
  exact ⟨l, h⟩
theorem in_charge {qs : List PV} (h : PTy T 96 qs) : ∃ x : Charge, qs = x.row := by
  obtain ⟨_, _, rfl, h1, h⟩ := kd_cons (kd_struct (ts := [3, 3]) (by kernel_rfl) h)
  obtain ⟨_, _, rfl, h2, h⟩ := kd_cons h
  obtain rfl := kd_nil h
  obtain ⟨a, rfl⟩ := in_int h1
  obtain ⟨b, rfl⟩ := in_int h2
  exact ⟨⟨a, b⟩, rfl⟩
theorem in_charges {qs : List PV} (h : PTy T 51 qs) : ∃ l : List Charge, qs = [.sl 2 (l.map Charge.row)] ∧ l.length ≤ 9223372036854775807 := by
  obtain ⟨l, h, hb, _⟩ := kd_slice Charge.row (fun _ => True) (e := 96) (z := 2) (by kernel_rfl) (fun r hr => by obtain ⟨s, h⟩ := in_charge hr; exact ⟨s, h, trivial⟩) h
  exact ⟨l, h, hb⟩
theorem in_opt {qs : List PV} (h : PTy T 53 qs) : ∃ x : Opt, qs = x.row ∧ x.charges.length ≤ 9223372036854775807 := by
  obtain ⟨_, _, rfl, h1, h⟩ := kd_cons (kd_struct (ts := [50, 51]) (by kernel_rfl) h)
  obtain ⟨_, _, rfl, h2, h⟩ := kd_cons h
  obtain rfl := kd_nil h
  obtain ⟨a, rfl⟩ := in_placed h1
  obtain ⟨b, rfl, hb⟩ := in_charges h2
  exact ⟨⟨a, b⟩, rfl, hb⟩
theorem in_opts {qs : List PV} (h : PTy T 54 qs) : ∃ l : List Opt, qs = optsRow l ∧ ∀ x ∈ l, x.charges.length ≤ 9223372036854775807 := by
  obtain ⟨l, h, _, hb⟩ := kd_slice Opt.row (fun x : Opt => x.charges.length ≤ 9223372036854775807) (e := 53) (z := 6) (by kernel_rfl) (fun r hr => in_opt hr) h
  exact ⟨l, h, hb⟩
theorem in_classes {qs : List PV} (h : PTy T 22 qs) : ∃ l : List (List Opt), qs = [.sl 1 (l.map optsRow)] ∧ l.length ≤ 9223372036854775807 ∧ ∀ x ∈ l, ∀ o ∈ x, o.charges.length ≤ 9223372036854775807 := by
  obtain ⟨l, h, h1, hb⟩ := kd_slice optsRow (fun l : List Opt => ∀ x ∈ l, x.charges.length ≤ 9223372036854775807) (e := 54) (z := 1) (by kernel_rfl) (fun r hr => in_opts hr) h
  exact ⟨l, h, h1, hb⟩
theorem in_pair {qs : List PV} (h : PTy T 82 qs) : ∃ x : Pair, qs = x.row := by
  obtain ⟨_, _, rfl, h1, h⟩ := kd_cons (kd_struct (ts := [3, 3, 3, 27]) (by kernel_rfl) h)
  obtain ⟨_, _, rfl, h2, h⟩ := kd_cons h
  obtain ⟨_, _, rfl, h3, h⟩ := kd_cons h
  obtain ⟨_, _, rfl, h4, h⟩ := kd_cons h
  obtain rfl := kd_nil h
  obtain ⟨a, rfl⟩ := in_int h1
  obtain ⟨b, rfl⟩ := in_int h2
  obtain ⟨c, rfl⟩ := in_int h3
  obtain ⟨d, rfl⟩ := in_ints h4
  exact ⟨⟨a, b, c, d⟩, rfl⟩
theorem in_pairs {qs : List PV} (h : PTy T 23 qs) : ∃ l : List Pair, qs = [.sl 4 (l.map Pair.row)] ∧ l.length ≤ 9223372036854775807 := by
  obtain ⟨l, h, hb, _⟩ := kd_slice Pair.row (fun _ => True) (e := 82) (z := 4) (by kernel_rfl) (fun r hr => by obtain ⟨s, h⟩ := in_pair hr; exact ⟨s, h, trivial⟩) h
  exact ⟨l, h, hb⟩
theorem in_load {qs : List PV} (h : PTy T 105 qs) : ∃ x : Load, qs = x.row := by
  obtain ⟨_, _, rfl, h1, h⟩ := kd_cons (kd_struct (ts := [3, 3, 3]) (by kernel_rfl) h)
  obtain ⟨_, _, rfl, h2, h⟩ := kd_cons h
  obtain ⟨_, _, rfl, h3, h⟩ := kd_cons h
  obtain rfl := kd_nil h
  obtain ⟨a, rfl⟩ := in_int h1
  obtain ⟨b, rfl⟩ := in_int h2
  obtain ⟨c, rfl⟩ := in_int h3
  exact ⟨⟨a, b, c⟩, rfl⟩
theorem in_loads {qs : List PV} (h : PTy T 89 qs) : ∃ l : List Load, qs = [.sl 3 (l.map Load.row)] ∧ l.length ≤ 9223372036854775807 := by
  obtain ⟨l, h, hb, _⟩ := kd_slice Load.row (fun _ => True) (e := 105) (z := 3) (by kernel_rfl) (fun r hr => by obtain ⟨s, h⟩ := in_load hr; exact ⟨s, h, trivial⟩) h
  exact ⟨l, h, hb⟩
theorem in_count {qs : List PV} (h : PTy T 91 qs) : ∃ x : Count, qs = x.row ∧ x.loads.length ≤ 9223372036854775807 := by
  obtain ⟨_, _, rfl, h1, h⟩ := kd_cons (kd_struct (ts := [3, 89, 3, 3]) (by kernel_rfl) h)
  obtain ⟨_, _, rfl, h2, h⟩ := kd_cons h
  obtain ⟨_, _, rfl, h3, h⟩ := kd_cons h
  obtain ⟨_, _, rfl, h4, h⟩ := kd_cons h
  obtain rfl := kd_nil h
  obtain ⟨a, rfl⟩ := in_int h1
  obtain ⟨b, rfl, hb⟩ := in_loads h2
  obtain ⟨c, rfl⟩ := in_int h3
  obtain ⟨d, rfl⟩ := in_int h4
  exact ⟨⟨a, b, c, d⟩, rfl, hb⟩
theorem in_counts {qs : List PV} (h : PTy T 24 qs) : ∃ l : List Count, qs = [.sl 4 (l.map Count.row)] ∧ ∀ x ∈ l, x.loads.length ≤ 9223372036854775807 := by
  obtain ⟨l, h, _, hb⟩ := kd_slice Count.row (fun x : Count => x.loads.length ≤ 9223372036854775807) (e := 91) (z := 4) (by kernel_rfl) (fun r hr => in_count hr) h
  exact ⟨l, h, hb⟩
theorem in_model {qs : List PV} (h : PTy T 26 qs) : ∃ x : Model, qs = x.cells ∧ Laid x := by
  obtain ⟨_, _, rfl, h1, h⟩ := kd_cons (kd_struct (ts := [22, 23, 24, 3]) (by kernel_rfl) h)
  obtain ⟨_, _, rfl, h2, h⟩ := kd_cons h
  obtain ⟨_, _, rfl, h3, h⟩ := kd_cons h
  obtain ⟨_, _, rfl, h4, h⟩ := kd_cons h
  obtain rfl := kd_nil h
  obtain ⟨a, rfl, b1, b2⟩ := in_classes h1
  obtain ⟨b, rfl, b3⟩ := in_pairs h2
  obtain ⟨c, rfl, b4⟩ := in_counts h3
  obtain ⟨d, rfl⟩ := in_int h4
  exact ⟨⟨a, b, c, d⟩, rfl, b1, b3, b2, b4⟩
theorem args_model {ts : List TypeId} {al : List AV} (h : ArgsOk T (26 :: ts) al) : ∃ (x : Model) (al' : _), al = ag x.cells :: al' ∧ Laid x ∧ ArgsOk T ts al' := by
  obtain ⟨qs, al', rfl, h1, h2⟩ := args_agg (by kernel_rfl) h
  obtain ⟨x, rfl, h3⟩ := in_model h1
  exact ⟨x, al', rfl, h3, h2⟩
theorem args_ints {ts : List TypeId} {al : List AV} (h : ArgsOk T (27 :: ts) al) : ∃ (l : List Int) (al' : _), al = .pv (encInts l) :: al' ∧ ArgsOk T ts al' := by
  obtain ⟨q, al', rfl, h1, h2⟩ := args_one (by kernel_rfl) h
  obtain ⟨l, h⟩ := in_ints h1
  injection h with h; subst h
  exact ⟨l, al', rfl, h2⟩
theorem args_placed {ts : List TypeId} {al : List AV} (h : ArgsOk T (28 :: ts) al) : ∃ (l : List Placed) (al' : _), al = .pv (.sl 5 (l.map Placed.row)) :: al' ∧ ArgsOk T ts al' := by
  obtain ⟨q, al', rfl, h1, h2⟩ := args_one (by kernel_rfl) h
  obtain ⟨l, h⟩ := in_placeds h1
  injection h with h; subst h
  exact ⟨l, al', rfl, h2⟩
end Go.Proofs.YtfdjcpodkhpgcaaGreat.Cw

/-
  Contracts: dice.
-/
namespace Go.Proofs.YtfdjcpodkhpgcaaGreat.Cw
open Go.Cw Go.Proofs
set_option linter.unusedVariables false
set_option maxRecDepth 100000

def modI (a m : Int) : Int := if m < 1 then 0 else a % m

theorem tmod_mod {a m : Int} (h : 1 ≤ m) : (if a.tmod m < 0 then a.tmod m + m else a.tmod m) = a % m := by
  rw [Int.tmod_eq_emod]
  have h1 := Int.emod_nonneg a (show m ≠ 0 by omega)
  have h2 := Int.emod_lt_of_pos a (show 0 < m by omega)
  split
  · simp only [Int.ofNat_zero, Int.sub_zero]; rw [if_neg (by omega)]
  · rename_i h3
    have : (m.natAbs : Int) = m := by omega
    rw [this, if_pos (by omega)]; omega

theorem c_mod (a m : Int) (hm : m ≤ 9223372036854775807) : PCall Tryz.prog 59 [vint .i64 a, vint .i64 m] (fun r => r = vint .i64 (modI a m)) := by
  refine acall_of tok mixed 16 rfl (fn := Tryz.f59) (c := Tryz.f59.body.getD .skip) (by kernel_rfl) (by kernel_rfl) (by kernel_rfl) rfl 0 rfl ?_
  repeat' (first | refine o1 ?_ | refine o2 ?_ | refine k1 ?_ | refine k2 ?_ | refine k3 ?_ | refine k6 ?_ | refine k7 ?_ | refine And.intro ?_ ?_ | (intro h; first | exact Bool.noConfusion h | exact nz _ h | exact nl h | (simp at h; done) | (simp at h; first | (exfalso; omega) | skip) | skip) | (change retOk _ _ _ _; refine ret_pure rfl trivial ?_) | fail)
  case' refine_2.refine_2 =>
    have ht := tmod_mod (a := a) (m := m) (by omega)
    have h1 := Int.emod_nonneg a (show m ≠ 0 by omega)
    have h2 := Int.emod_lt_of_pos a (show 0 < m by omega)
    refine eqv_rfl ?_
    generalize a.tmod m = q at *
    have hq : q < 0 → q + m = a % m := fun h => by rw [if_pos h] at ht; exact ht
    repeat' (first | refine o1 ?_ | refine o2 ?_ | refine k1 ?_ | refine k2 ?_ | refine k3 ?_ | refine k6 ?_ | refine k7 ?_ | refine And.intro ?_ ?_ | (intro h; first | exact Bool.noConfusion h | exact nz _ h | exact nl h | (simp at h; done) | (simp at h; first | (exfalso; omega) | skip) | skip) | (change retOk _ _ _ _; refine ret_pure rfl trivial ?_) | refine eqv_wrap (by omega) (by omega) ?_ | fail)
  all_goals first
    | (exfalso; omega)
    | (refine congrArg (vint .i64) ?_; unfold modI; rw [if_neg (by omega)]; exact hq (by assumption))
    | (refine congrArg (vint .i64) ?_; unfold modI; rw [if_neg (by omega), ← ht, if_neg (by omega)])
    | (refine congrArg (vint .i64) ?_; unfold modI; rw [if_pos (by omega)])

def dice (t : List Int) (k : Nat) : Option AObj := some ⟨101, 2, false, .box [.pv (encInts t), vint .i64 k]⟩
def nextV (t : List Int) (k : Nat) (n : Int) : Int := match t[k]? with
  | some x => modI x n
  | none => 0
def nextK (t : List Int) (k : Nat) : Nat := if k < t.length then k + 1 else k

theorem nextV_range (t : List Int) (k : Nat) {n : Int} (h : 1 ≤ n) : 0 ≤ nextV t k n ∧ nextV t k n < n := by
  unfold nextV
  split
  · unfold modI; rw [if_neg (by omega)]; exact ⟨Int.emod_nonneg _ (by omega), Int.emod_lt_of_pos _ (by omega)⟩
  · omega

theorem c_next (t : List Int) (k : Nat) (n : Int) (ht : t.length ≤ 400) (hk : k ≤ t.length) (hn : n ≤ 9223372036854775807) :
    ACall Tryz.prog 43 [.ptr 0 2 0 0, vint .i64 n] [dice t k] (fun r H' => r = vint .i64 (nextV t k n) ∧ H' = [dice t (nextK t k)]) := by
  refine acall_of tok mixed 35 rfl (fn := Tryz.f43) (c := Tryz.f43.body.getD .skip) (by kernel_rfl) (by kernel_rfl) (by kernel_rfl) rfl 1 rfl ?_
  repeat' (first | refine o1 ?_ | refine o2 ?_ | refine k1 ?_ | refine k2 ?_ | refine k3 ?_ | refine k6 ?_ | refine k7 ?_ | refine And.intro ?_ ?_ | refine o3 ?_ | refine o4 ?_ | (intro h; first | exact Bool.noConfusion h | exact nz _ h | exact nl h | (simp at h; done) | (simp at h; first | (exfalso; omega) | skip) | skip) | exact (by kernel_rfl : drawOk _ _ = true) | refine eqv_len_map ?_ | refine eqv_wrap (by omega) (by omega) ?_ | fail)
  case' refine_1 =>
    refine ret_obj [0] [dice t (nextK t k)] rfl rfl ⟨(by rw [nextK, if_neg (by omega)]; rfl), trivial⟩ (r' := vint .i64 0) rfl ⟨?_, rfl⟩
    simp [nextV, List.getElem?_eq_none h]
  case' refine_2 =>
    obtain ⟨x, hx⟩ := getE h
    repeat' (first | refine o3 ?_ | refine idx_sl (at_map (by assumption)) (by omega) ?_ | fail)
    change vcFunD _ _ _ _ _
    refine callD_eq rfl (by repeat' (first | trivial)) ALeL.refl (c_mod x n hn) rfl ?_
    repeat' (first | refine k7 ?_ | refine And.intro ?_ ?_ | refine o3 ?_ | refine o4 ?_ | exact (by kernel_rfl : drawOk _ _ = true) | fail)
    refine ret_obj [0] [dice t (nextK t k)] rfl rfl ⟨(by rw [nextK, if_pos h]; rfl), trivial⟩ (r' := vint .i64 (modI x n)) rfl ⟨?_, rfl⟩
    simp [nextV, hx]

theorem c_one (t : List Int) (k : Nat) (n : Int) (ht : t.length ≤ 400) (hk : k ≤ t.length) (hn : n ≤ 9223372036854775807) (hn1 : 1 ≤ n) :
    ACall Tryz.prog 21 [.ptr 0 2 0 0, vint .i64 n] [dice t k] (fun r H' => r = vbool (decide (nextV t k n = n - 1)) ∧ H' = [dice t (nextK t k)]) := by
  refine acall_of tok mixed 11 rfl (fn := Tryz.f21) (c := Tryz.f21.body.getD .skip) (by kernel_rfl) (by kernel_rfl) (by kernel_rfl) rfl 1 rfl ?_
  repeat' (first | refine o1 ?_ | refine o2 ?_ | refine k1 ?_ | refine k2 ?_ | fail)
  change vcFun _ _ _ _ _
  refine call_obj [0] [dice t k] [.ptr 0 2 0 0, vint .i64 n] rfl ⟨rfl, trivial⟩ rfl (c_next t k n ht hk hn) ?_
  rintro r H' ⟨rfl, rfl⟩
  repeat' (first | refine o1 ?_ | refine o2 ?_ | refine k7 ?_ | refine And.intro ?_ ?_ | exact Nat.le_of_ble_eq_true rfl | refine eqv_wrap (by omega) (by omega) ?_ | fail)
  refine ret_obj [0] [dice t (nextK t k)] rfl rfl ⟨rfl, trivial⟩ (r' := vbool (decide (nextV t k n = n - 1))) rfl ⟨rfl, rfl⟩

def Nxt (t : List Int) (k : Nat) (n v : Int) (k2 : Nat) : Prop := ACall Tryz.prog 43 [.ptr 0 2 0 0, vint .i64 n] [dice t k] (fun r H' => r = vint .i64 v ∧ H' = [dice t k2])
theorem nextK_le {t : List Int} {k : Nat} (h : k ≤ t.length) : nextK t k ≤ t.length := by unfold nextK; split <;> omega

theorem next_ex (t : List Int) (k : Nat) (n : Int) (ht : t.length ≤ 400) (hk : k ≤ t.length) (hn : n ≤ 9223372036854775807) (h1 : 1 ≤ n) :
    ∃ v k2, 0 ≤ v ∧ v < n ∧ k2 ≤ t.length ∧ Nxt t k n v k2 :=
  ⟨_, _, (nextV_range t k h1).1, (nextV_range t k h1).2, nextK_le hk, c_next t k n ht hk hn⟩

def One (t : List Int) (k : Nat) (n : Int) (b : Bool) (k2 : Nat) : Prop := ACall Tryz.prog 21 [.ptr 0 2 0 0, vint .i64 n] [dice t k] (fun r H' => r = vbool b ∧ H' = [dice t k2])
theorem one_ex (t : List Int) (k : Nat) (n : Int) (ht : t.length ≤ 400) (hk : k ≤ t.length) (hn : n ≤ 9223372036854775807) (h1 : 1 ≤ n) :
    ∃ b k2, k2 ≤ t.length ∧ One t k n b k2 :=
  ⟨_, _, nextK_le hk, c_one t k n ht hk hn h1⟩
theorem c_roll (t : List Int) : ACall Tryz.prog 18 [.pv (encInts t)] [] (fun r H' => r = .ptr 0 2 0 0 ∧ H' = [dice t 0]) := by
  refine acall_of tok mixed 6 rfl (fn := Tryz.f18) (c := Tryz.f18.body.getD .skip) (by kernel_rfl) (by kernel_rfl) (by kernel_rfl) rfl 0 rfl ?_
  repeat' (first | refine o1 ?_ | refine o2 ?_ | refine k1 ?_ | refine k2 ?_ | refine k7 ?_ | fail)
  refine ret_obj [0] [dice t 0] rfl rfl ⟨rfl, trivial⟩ (r' := .ptr 0 2 0 0) rfl ⟨rfl, rfl⟩

theorem c_light (t : List Int) : PCall Tryz.prog 17 [.pv (encInts t)] (fun r => r = vbool (decide (t.length ≤ 400))) := by
  refine acall_of tok mixed 6 rfl (fn := Tryz.f17) (c := Tryz.f17.body.getD .skip) (by kernel_rfl) (by kernel_rfl) (by kernel_rfl) rfl 0 rfl ?_
  repeat' (first | refine o1 ?_ | refine o2 ?_ | refine k1 ?_ | refine k2 ?_ | refine k7 ?_ | (change retOk _ _ _ _; refine ret_pure rfl trivial ?_) | refine eqv_len_map ?_ | fail)
  refine congrArg vbool ?_
  simp; omega

end Go.Proofs.YtfdjcpodkhpgcaaGreat.Cw

/-
  Dice: calls in walks.
-/
namespace Go.Proofs.YtfdjcpodkhpgcaaGreat.Cw
open Go.Cw Go.Proofs
set_option linter.unusedVariables false
set_option maxRecDepth 100000

section
variable {t : List Int} {k : Nat} {n : Int} {H : Heap} (i : Nat)
theorem call_next {K : AV → Heap → Prop} (hi : H[i]? = some (dice t k)) (ht : t.length ≤ 400) (hk : k ≤ t.length) (h1 : 1 ≤ n) (hn : n ≤ 9223372036854775807)
    (hK : ∀ v k2, 0 ≤ v → v < n → k2 ≤ t.length → K (vint .i64 v) (H.set i (dice t k2))) : vcFun Tryz.prog 43 [.ptr i 2 0 0, vint .i64 n] H K := by
  obtain ⟨v, k2, a, b, c, hn⟩ := next_ex t k n ht hk hn h1
  refine call_one (i := i) hi (fun _ _ => rfl) [.ptr 0 2 0 0, vint .i64 n] rfl hn ?_
  rintro r H' ⟨rfl, rfl⟩
  exact ⟨_, rfl, fun _ _ => rfl, fun _ _ => rfl, hK v k2 a b c⟩
theorem call_one2 {K : AV → Heap → Prop} (hi : H[i]? = some (dice t k)) (ht : t.length ≤ 400) (hk : k ≤ t.length) (h1 : 1 ≤ n) (hn : n ≤ 9223372036854775807)
    (hK : ∀ b k2, k2 ≤ t.length → K (vbool b) (H.set i (dice t k2))) : vcFun Tryz.prog 21 [.ptr i 2 0 0, vint .i64 n] H K := by
  obtain ⟨v, k2, c, hn⟩ := one_ex t k n ht hk hn h1
  refine call_one (i := i) hi (fun _ _ => rfl) [.ptr 0 2 0 0, vint .i64 n] rfl hn ?_
  rintro r H' ⟨rfl, rfl⟩
  exact ⟨_, rfl, fun _ _ => rfl, fun _ _ => rfl, hK v k2 c⟩
theorem callD_next {K : AV → Upd → List Nat → Prop} (hi : H[i]? = some (dice t k)) (ht : t.length ≤ 400) (hk : k ≤ t.length) (h1 : 1 ≤ n) (hn : n ≤ 9223372036854775807)
    (hK : ∀ v k2, 0 ≤ v → v < n → k2 ≤ t.length → K (vint .i64 v) [(i, dice t k2)] [i]) : vcFunD Tryz.prog 43 [.ptr i 2 0 0, vint .i64 n] H K := by
  obtain ⟨v, k2, a, b, c, hn⟩ := next_ex t k n ht hk hn h1
  exact callD_one (i := i) hi (fun _ _ => rfl) [.ptr 0 2 0 0, vint .i64 n] rfl hn (fun _ _ => rfl) (fun _ _ => rfl) (hK v k2 a b c)
theorem callD_one2 {K : AV → Upd → List Nat → Prop} (hi : H[i]? = some (dice t k)) (ht : t.length ≤ 400) (hk : k ≤ t.length) (h1 : 1 ≤ n) (hn : n ≤ 9223372036854775807)
    (hK : ∀ b k2, k2 ≤ t.length → K (vbool b) [(i, dice t k2)] [i]) : vcFunD Tryz.prog 21 [.ptr i 2 0 0, vint .i64 n] H K := by
  obtain ⟨v, k2, c, hn⟩ := one_ex t k n ht hk hn h1
  exact callD_one (i := i) hi (fun _ _ => rfl) [.ptr 0 2 0 0, vint .i64 n] rfl hn (fun _ _ => rfl) (fun _ _ => rfl) (hK v k2 c)
end

theorem bytes_one {v : Int} {n m : Nat} {K : Str → Prop} (h1 : 0 ≤ v) (h2 : v < 256) (hn : n = m) (h : ∀ s, s.size = 1 → K s) : ∃ b, List.take 1 (List.drop 0 [[PV.val (.int .u8 v)]]) = bytesRows b ∧ n = m ∧ K b := by
  refine ⟨⟨#[v.toNat.toUInt8]⟩, ?_, hn, h _ rfl⟩
  have : ((v.toNat.toUInt8.toNat : Nat) : Int) = v := by
    have : v.toNat.toUInt8.toNat = v.toNat := by simp [Nat.toUInt8]; omega
    omega
  show [[PV.val (.int .u8 v)]] = [[.val (.int .u8 ((v.toNat.toUInt8.toNat : Nat) : Int))]]
  rw [this]
end Go.Proofs.YtfdjcpodkhpgcaaGreat.Cw


