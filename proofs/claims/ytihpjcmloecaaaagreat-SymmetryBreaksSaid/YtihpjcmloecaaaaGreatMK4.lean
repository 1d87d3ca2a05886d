/-
  Part 4 of the proof (Tab, Ty, B0, BP, BQ, SB0, M1, M2, M3, BC, M4, M5, M6, BL, M7, SY1, SB1, SB2, SY2, SY3, SY4, SY5): what later parts use. No conditions.
-/
import Derived.Test.YtihpjcmloecaaaaGreatProg
import Derived.KernelRfl
import Derived.Test.YtihpjcmloecaaaaGreatMK3
namespace Go.Proofs.YtihpjcmloecaaaaGreat.Cw
open Go.Cw Go.Proofs
noncomputable def T : Tab := ⟨.node 105 (.mk 1 8 false .func [.val .nilFunc]) (.node 53 (.mk 1 8 false .func [.val .nilFunc]) (.node 25 (.mk 1 24 false (.slice 51) [.val (.slice none 0 0)]) (.node 13 (.mk 2 24 true (.struct [(0, 9), (1, 12)]) [.val (.string (⟨#[]⟩)), .val (.int .u64 0)]) (.node 7 (.mk 4 24 true (.struct [(0, 2), (1, 3), (2, 4), (3, 6)]) [.val (.int .i64 0), .val (.int .i64 0), .val (.bool false), .val (.int .u8 0)]) (.node 4 (.mk 1 1 false .bool [.val (.bool false)]) (.node 2 (.mk 1 8 false (.int .i64) [.val (.int .i64 0)]) (.node 1 (.mk 1 8 false .func [.val .nilFunc]) .nil .nil)
 (.node 3 (.mk 1 8 false (.int .i64) [.val (.int .i64 0)]) .nil .nil))
 (.node 6 (.mk 1 1 false (.int .u8) [.val (.int .u8 0)]) (.node 5 (.mk 1 1 false (.int .u8) [.val (.int .u8 0)]) .nil .nil) .nil))
 (.node 10 (.mk 1 16 false .str [.val (.string (⟨#[]⟩))]) (.node 9 (.mk 1 16 false .str [.val (.string (⟨#[]⟩))]) (.node 8 (.mk 4 24 true (.struct [(0, 2), (1, 3), (2, 4), (3, 6)]) [.val (.int .i64 0), .val (.int .i64 0), .val (.bool false), .val (.int .u8 0)]) .nil .nil) .nil)
 (.node 12 (.mk 1 8 false (.int .u64) [.val (.int .u64 0)]) (.node 11 (.mk 1 16 false .str [.val (.string (⟨#[]⟩))]) .nil .nil) .nil)))
 (.node 19 (.mk 1 8 true (.struct [(0, 17)]) [.val (.pointer none)]) (.node 16 (.mk 1 8 false (.ptr 199) [.val (.pointer none)]) (.node 15 (.mk 1 8 false (.ptr 196) [.val (.pointer none)]) (.node 14 (.mk 2 24 true (.struct [(0, 9), (1, 12)]) [.val (.string (⟨#[]⟩)), .val (.int .u64 0)]) .nil .nil) .nil)
 (.node 18 (.mk 1 8 true (.struct [(0, 17)]) [.val (.pointer none)]) (.node 17 (.mk 1 8 false (.ptr 207) [.val (.pointer none)]) .nil .nil) .nil))
 (.node 22 (.mk 1 24 false (.slice 3) [.val (.slice none 0 0)]) (.node 21 (.mk 1 4 false (.int .i32) [.val (.int .i32 0)]) (.node 20 (.mk 1 16 false .other [.val .nilIface]) .nil .nil) .nil)
 (.node 24 (.mk 1 8 false .func [.val .nilFunc]) (.node 23 (.mk 1 8 false .func [.val .nilFunc]) .nil .nil) .nil))))
 (.node 39 (.mk 1 8 false .func [.val .nilFunc]) (.node 32 (.mk 1 8 false .func [.val .nilFunc]) (.node 29 (.mk 4 80 true (.struct [(0, 25), (1, 26), (2, 27), (3, 3)]) [.val (.slice none 0 0), .val (.slice none 0 0), .val (.slice none 0 0), .val (.int .i64 0)]) (.node 27 (.mk 1 24 false (.slice 78) [.val (.slice none 0 0)]) (.node 26 (.mk 1 24 false (.slice 72) [.val (.slice none 0 0)]) .nil .nil)
 (.node 28 (.mk 4 80 true (.struct [(0, 25), (1, 26), (2, 27), (3, 3)]) [.val (.slice none 0 0), .val (.slice none 0 0), .val (.slice none 0 0), .val (.int .i64 0)]) .nil .nil))
 (.node 31 (.mk 1 8 false (.ptr 67) [.val (.pointer none)]) (.node 30 (.mk 1 8 false .func [.val .nilFunc]) .nil .nil) .nil))
 (.node 35 (.mk 1 24 false (.slice 22) [.val (.slice none 0 0)]) (.node 34 (.mk 1 24 false (.slice 33) [.val (.slice none 0 0)]) (.node 33 (.mk 2 16 true (.array 2 3) [.val (.int .i64 0), .val (.int .i64 0)]) .nil .nil) .nil)
 (.node 38 (.mk 1 8 false .func [.val .nilFunc]) (.node 37 (.mk 1 8 false .func [.val .nilFunc]) .nil .nil) .nil)))
 (.node 47 (.mk 1 8 false .func [.val .nilFunc]) (.node 42 (.mk 1 8 false (.int .i64) [.val (.int .i64 0)]) (.node 41 (.mk 1 8 false .func [.val .nilFunc]) (.node 40 (.mk 1 8 false .func [.val .nilFunc]) .nil .nil) .nil)
 (.node 45 (.mk 1 8 false .func [.val .nilFunc]) (.node 44 (.mk 1 8 false .func [.val .nilFunc]) .nil .nil) .nil))
 (.node 50 (.mk 1 8 false .func [.val .nilFunc]) (.node 49 (.mk 1 8 false .func [.val .nilFunc]) (.node 48 (.mk 1 8 false .func [.val .nilFunc]) .nil .nil) .nil)
 (.node 52 (.mk 1 8 false .func [.val .nilFunc]) (.node 51 (.mk 1 24 false (.slice 62) [.val (.slice none 0 0)]) .nil .nil) .nil)))))
 (.node 79 (.mk 1 8 false .func [.val .nilFunc]) (.node 67 (.mk 2 32 true (.struct [(0, 22), (1, 3)]) [.val (.slice none 0 0), .val (.int .i64 0)]) (.node 61 (.mk 6 64 true (.struct [(0, 59), (5, 60)]) [.val (.int .i64 0), .val (.int .i64 0), .val (.int .i64 0), .val (.int .i64 0), .val (.int .i64 0), .val (.slice none 0 0)]) (.node 58 (.mk 5 40 true (.struct [(0, 57), (4, 3)]) [.val (.int .i64 0), .val (.int .i64 0), .val (.int .i64 0), .val (.int .i64 0), .val (.int .i64 0)]) (.node 56 (.mk 4 32 true (.struct [(0, 3), (1, 3), (2, 3), (3, 3)]) [.val (.int .i64 0), .val (.int .i64 0), .val (.int .i64 0), .val (.int .i64 0)]) (.node 55 (.mk 1 8 false .func [.val .nilFunc]) .nil .nil)
 (.node 57 (.mk 4 32 true (.struct [(0, 3), (1, 3), (2, 3), (3, 3)]) [.val (.int .i64 0), .val (.int .i64 0), .val (.int .i64 0), .val (.int .i64 0)]) .nil .nil))
 (.node 60 (.mk 1 24 false (.slice 98) [.val (.slice none 0 0)]) (.node 59 (.mk 5 40 true (.struct [(0, 57), (4, 3)]) [.val (.int .i64 0), .val (.int .i64 0), .val (.int .i64 0), .val (.int .i64 0), .val (.int .i64 0)]) .nil .nil) .nil))
 (.node 64 (.mk 1 8 false .func [.val .nilFunc]) (.node 63 (.mk 1 8 false .func [.val .nilFunc]) (.node 62 (.mk 6 64 true (.struct [(0, 59), (5, 60)]) [.val (.int .i64 0), .val (.int .i64 0), .val (.int .i64 0), .val (.int .i64 0), .val (.int .i64 0), .val (.slice none 0 0)]) .nil .nil) .nil)
 (.node 66 (.mk 2 32 true (.struct [(0, 22), (1, 3)]) [.val (.slice none 0 0), .val (.int .i64 0)]) (.node 65 (.mk 1 8 false .func [.val .nilFunc]) .nil .nil) .nil)))
 (.node 73 (.mk 1 8 false .func [.val .nilFunc]) (.node 70 (.mk 1 8 false .func [.val .nilFunc]) (.node 69 (.mk 1 8 false .func [.val .nilFunc]) (.node 68 (.mk 1 8 false .func [.val .nilFunc]) .nil .nil) .nil)
 (.node 72 (.mk 4 48 true (.struct [(0, 3), (1, 3), (2, 3), (3, 22)]) [.val (.int .i64 0), .val (.int .i64 0), .val (.int .i64 0), .val (.slice none 0 0)]) (.node 71 (.mk 4 48 true (.struct [(0, 3), (1, 3), (2, 3), (3, 22)]) [.val (.int .i64 0), .val (.int .i64 0), .val (.int .i64 0), .val (.slice none 0 0)]) .nil .nil) .nil))
 (.node 76 (.mk 1 24 false (.slice 102) [.val (.slice none 0 0)]) (.node 75 (.mk 1 8 false .func [.val .nilFunc]) (.node 74 (.mk 1 24 false (.slice 4) [.val (.slice none 0 0)]) .nil .nil) .nil)
 (.node 78 (.mk 4 48 true (.struct [(0, 3), (1, 76), (2, 3), (3, 3)]) [.val (.int .i64 0), .val (.slice none 0 0), .val (.int .i64 0), .val (.int .i64 0)]) (.node 77 (.mk 4 48 true (.struct [(0, 3), (1, 76), (2, 3), (3, 3)]) [.val (.int .i64 0), .val (.slice none 0 0), .val (.int .i64 0), .val (.int .i64 0)]) .nil .nil) .nil))))
 (.node 93 (.mk 1 8 false .func [.val .nilFunc]) (.node 86 (.mk 1 8 false .func [.val .nilFunc]) (.node 83 (.mk 1 8 false (.map 3 4) [.val (.map none)]) (.node 81 (.mk 1 8 false .func [.val .nilFunc]) (.node 80 (.mk 1 8 false .func [.val .nilFunc]) .nil .nil)
 (.node 82 (.mk 1 8 false (.map 3 3) [.val (.map none)]) .nil .nil))
 (.node 85 (.mk 1 8 false (.map 130 22) [.val (.map none)]) (.node 84 (.mk 1 8 false (.map 130 22) [.val (.map none)]) .nil .nil) .nil))
 (.node 90 (.mk 1 8 false .func [.val .nilFunc]) (.node 89 (.mk 1 8 false .func [.val .nilFunc]) (.node 88 (.mk 1 8 false .func [.val .nilFunc]) .nil .nil) .nil)
 (.node 92 (.mk 1 8 false .func [.val .nilFunc]) (.node 91 (.mk 1 8 false .func [.val .nilFunc]) .nil .nil) .nil)))
 (.node 99 (.mk 1 8 false .func [.val .nilFunc]) (.node 96 (.mk 1 8 false (.ptr 62) [.val (.pointer none)]) (.node 95 (.mk 1 8 false .func [.val .nilFunc]) (.node 94 (.mk 1 8 false .func [.val .nilFunc]) .nil .nil) .nil)
 (.node 98 (.mk 2 16 true (.struct [(0, 3), (1, 3)]) [.val (.int .i64 0), .val (.int .i64 0)]) (.node 97 (.mk 2 16 true (.struct [(0, 3), (1, 3)]) [.val (.int .i64 0), .val (.int .i64 0)]) .nil .nil) .nil))
 (.node 102 (.mk 3 24 true (.struct [(0, 3), (1, 3), (2, 3)]) [.val (.int .i64 0), .val (.int .i64 0), .val (.int .i64 0)]) (.node 101 (.mk 3 24 true (.struct [(0, 3), (1, 3), (2, 3)]) [.val (.int .i64 0), .val (.int .i64 0), .val (.int .i64 0)]) (.node 100 (.mk 1 8 false .func [.val .nilFunc]) .nil .nil) .nil)
 (.node 104 (.mk 1 8 false .func [.val .nilFunc]) (.node 103 (.mk 1 8 false .func [.val .nilFunc]) .nil .nil) .nil))))))
 (.node 157 (.mk 1 8 false .func [.val .nilFunc]) (.node 132 (.mk 1 8 false .func [.val .nilFunc]) (.node 119 (.mk 1 8 false .func [.val .nilFunc]) (.node 113 (.mk 1 8 false .func [.val .nilFunc]) (.node 109 (.mk 1 8 false .func [.val .nilFunc]) (.node 107 (.mk 1 8 false .func [.val .nilFunc]) (.node 106 (.mk 1 8 false .func [.val .nilFunc]) .nil .nil)
 (.node 108 (.mk 1 8 false .func [.val .nilFunc]) .nil .nil))
 (.node 111 (.mk 1 8 false .func [.val .nilFunc]) (.node 110 (.mk 1 8 false .func [.val .nilFunc]) .nil .nil) .nil))
 (.node 116 (.mk 1 8 false .func [.val .nilFunc]) (.node 115 (.mk 1 8 false .func [.val .nilFunc]) (.node 114 (.mk 1 8 false .func [.val .nilFunc]) .nil .nil) .nil)
 (.node 118 (.mk 1 8 false .func [.val .nilFunc]) (.node 117 (.mk 1 8 false .func [.val .nilFunc]) .nil .nil) .nil)))
 (.node 126 (.mk 1 8 false .func [.val .nilFunc]) (.node 123 (.mk 1 8 false .func [.val .nilFunc]) (.node 122 (.mk 1 8 false .func [.val .nilFunc]) (.node 121 (.mk 1 8 false .func [.val .nilFunc]) .nil .nil) .nil)
 (.node 125 (.mk 1 8 false .func [.val .nilFunc]) (.node 124 (.mk 1 8 false .func [.val .nilFunc]) .nil .nil) .nil))
 (.node 129 (.mk 5 40 true (.array 5 3) [.val (.int .i64 0), .val (.int .i64 0), .val (.int .i64 0), .val (.int .i64 0), .val (.int .i64 0)]) (.node 128 (.mk 1 8 false .func [.val .nilFunc]) (.node 127 (.mk 1 8 false .func [.val .nilFunc]) .nil .nil) .nil)
 (.node 131 (.mk 1 8 false .func [.val .nilFunc]) (.node 130 (.mk 5 40 true (.array 5 3) [.val (.int .i64 0), .val (.int .i64 0), .val (.int .i64 0), .val (.int .i64 0), .val (.int .i64 0)]) .nil .nil) .nil))))
 (.node 145 (.mk 1 8 false .func [.val .nilFunc]) (.node 139 (.mk 1 24 true (.struct [(0, 22)]) [.val (.slice none 0 0)]) (.node 136 (.mk 4 32 true (.array 4 3) [.val (.int .i64 0), .val (.int .i64 0), .val (.int .i64 0), .val (.int .i64 0)]) (.node 134 (.mk 1 8 false .func [.val .nilFunc]) (.node 133 (.mk 1 8 false .func [.val .nilFunc]) .nil .nil)
 (.node 135 (.mk 1 8 false .func [.val .nilFunc]) .nil .nil))
 (.node 138 (.mk 1 24 true (.struct [(0, 22)]) [.val (.slice none 0 0)]) (.node 137 (.mk 1 8 false (.ptr 139) [.val (.pointer none)]) .nil .nil) .nil))
 (.node 142 (.mk 1 8 false .func [.val .nilFunc]) (.node 141 (.mk 1 8 false .func [.val .nilFunc]) (.node 140 (.mk 1 8 false .func [.val .nilFunc]) .nil .nil) .nil)
 (.node 144 (.mk 1 8 false .func [.val .nilFunc]) (.node 143 (.mk 1 8 false .func [.val .nilFunc]) .nil .nil) .nil)))
 (.node 151 (.mk 1 8 false .func [.val .nilFunc]) (.node 148 (.mk 1 8 false .func [.val .nilFunc]) (.node 147 (.mk 1 8 false .func [.val .nilFunc]) (.node 146 (.mk 1 8 false .func [.val .nilFunc]) .nil .nil) .nil)
 (.node 150 (.mk 1 8 false .func [.val .nilFunc]) (.node 149 (.mk 1 8 false .func [.val .nilFunc]) .nil .nil) .nil))
 (.node 154 (.mk 1 8 false (.int .u64) [.val (.int .u64 0)]) (.node 153 (.mk 1 8 false .func [.val .nilFunc]) (.node 152 (.mk 1 8 false .func [.val .nilFunc]) .nil .nil) .nil)
 (.node 156 (.mk 1 8 false .func [.val .nilFunc]) (.node 155 (.mk 1 8 false .func [.val .nilFunc]) .nil .nil) .nil)))))
 (.node 183 (.mk 1 8 false (.ptr 3) [.val (.pointer none)]) (.node 171 (.mk 1 8 false .func [.val .nilFunc]) (.node 165 (.mk 1 8 false .func [.val .nilFunc]) (.node 162 (.mk 1 8 false .func [.val .nilFunc]) (.node 159 (.mk 1 8 false (.int .i64) [.val (.int .i64 0)]) (.node 158 (.mk 1 8 false .func [.val .nilFunc]) .nil .nil)
 (.node 161 (.mk 1 8 false .func [.val .nilFunc]) .nil .nil))
 (.node 164 (.mk 1 8 false .func [.val .nilFunc]) (.node 163 (.mk 1 8 false .func [.val .nilFunc]) .nil .nil) .nil))
 (.node 168 (.mk 1 8 false (.int .u64) [.val (.int .u64 0)]) (.node 167 (.mk 1 8 false .func [.val .nilFunc]) (.node 166 (.mk 1 4 false (.int .u32) [.val (.int .u32 0)]) .nil .nil) .nil)
 (.node 170 (.mk 1 8 false .func [.val .nilFunc]) (.node 169 (.mk 1 8 false .func [.val .nilFunc]) .nil .nil) .nil)))
 (.node 177 (.mk 1 8 false .func [.val .nilFunc]) (.node 174 (.mk 1 8 false .func [.val .nilFunc]) (.node 173 (.mk 1 8 false .func [.val .nilFunc]) (.node 172 (.mk 1 8 false .func [.val .nilFunc]) .nil .nil) .nil)
 (.node 176 (.mk 1 8 false .func [.val .nilFunc]) (.node 175 (.mk 1 8 false .func [.val .nilFunc]) .nil .nil) .nil))
 (.node 180 (.mk 1 8 false .func [.val .nilFunc]) (.node 179 (.mk 1 8 false (.int .u64) [.val (.int .u64 0)]) (.node 178 (.mk 1 8 false .func [.val .nilFunc]) .nil .nil) .nil)
 (.node 182 (.mk 1 8 false .func [.val .nilFunc]) (.node 181 (.mk 1 8 false .func [.val .nilFunc]) .nil .nil) .nil))))
 (.node 197 (.mk 0 0 true (.array 0 16) []) (.node 191 (.mk 1 8 false .func [.val .nilFunc]) (.node 187 (.mk 1 8 false .func [.val .nilFunc]) (.node 185 (.mk 1 8 false .func [.val .nilFunc]) (.node 184 (.mk 1 8 false .func [.val .nilFunc]) .nil .nil)
 (.node 186 (.mk 1 8 false .func [.val .nilFunc]) .nil .nil))
 (.node 189 (.mk 1 8 false (.ptr 179) [.val (.pointer none)]) (.node 188 (.mk 1 8 false .func [.val .nilFunc]) .nil .nil) .nil))
 (.node 194 (.mk 1 8 false .func [.val .nilFunc]) (.node 193 (.mk 1 8 false .func [.val .nilFunc]) (.node 192 (.mk 1 8 false .func [.val .nilFunc]) .nil .nil) .nil)
 (.node 196 (.mk 4 40 true (.struct [(0, 17), (1, 17), (2, 17), (3, 9)]) [.val (.pointer none), .val (.pointer none), .val (.pointer none), .val (.string (⟨#[]⟩))]) (.node 195 (.mk 4 40 true (.struct [(0, 17), (1, 17), (2, 17), (3, 9)]) [.val (.pointer none), .val (.pointer none), .val (.pointer none), .val (.string (⟨#[]⟩))]) .nil .nil) .nil)))
 (.node 203 (.mk 1 8 false (.ptr 5) [.val (.pointer none)]) (.node 200 (.mk 1 1 false (.int .u8) [.val (.int .u8 0)]) (.node 199 (.mk 0 0 true (.struct [(0, 197)]) []) (.node 198 (.mk 0 0 true (.struct [(0, 197)]) []) .nil .nil) .nil)
 (.node 202 (.mk 1 8 false .func [.val .nilFunc]) (.node 201 (.mk 1 1 false (.int .u8) [.val (.int .u8 0)]) .nil .nil) .nil))
 (.node 206 (.mk 11 48 true (.struct [(0, 12), (1, 12), (2, 166), (3, 200), (4, 5), (5, 5), (6, 201), (7, 202), (8, 203), (9, 204), (10, 205)]) [.val (.int .u64 0), .val (.int .u64 0), .val (.int .u32 0), .val (.int .u8 0), .val (.int .u8 0), .val (.int .u8 0), .val (.int .u8 0), .val .nilFunc, .val (.pointer none), .val (.int .i32 0), .val (.int .i32 0)]) (.node 205 (.mk 1 4 false (.int .i32) [.val (.int .i32 0)]) (.node 204 (.mk 1 4 false (.int .i32) [.val (.int .i32 0)]) .nil .nil) .nil)
 (.node 208 (.mk 1 8 false .other [.val (.pointer none)]) (.node 207 (.mk 11 48 true (.struct [(0, 12), (1, 12), (2, 166), (3, 200), (4, 5), (5, 5), (6, 201), (7, 202), (8, 203), (9, 204), (10, 205)]) [.val (.int .u64 0), .val (.int .u64 0), .val (.int .u32 0), .val (.int .u8 0), .val (.int .u8 0), .val (.int .u8 0), .val (.int .u8 0), .val .nilFunc, .val (.pointer none), .val (.int .i32 0), .val (.int .i32 0)]) .nil .nil) .nil)))))), [7, 8, 28, 29, 56, 57, 58, 59, 61, 62, 66, 67, 71, 72, 77, 78, 97, 98, 101, 102, 138, 139]⟩
theorem tok : qK Tryz.prog T := qK.of_eq (by kernel_rfl) (by kernel_rfl)
theorem mixed : Tryz.prog.follows .mixedOrders = true := by kernel_rfl
end Go.Proofs.YtihpjcmloecaaaaGreat.Cw
namespace Go.Proofs.YtihpjcmloecaaaaGreat.Cw
open Go.Cw Go.Proofs
set_option linter.unusedVariables false
abbrev Str := ByteArray
def ei (n : Int) : PV := .val (.int .i64 n)
def es (s : Str) : PV := .val (.string s)
def zcC (l : List Str) : PV := .sl 1 (l.map fun s => [es s])
def qN (l : List Int) : PV := .sl 1 (l.map fun x => [ei x])
structure Time where
 (weeks day start len : Int)
def Time.row (t : Time) : List PV := [ei t.weeks, ei t.day, ei t.start, ei t.len]
def zmR (l : List Time) : PV := .sl 4 (l.map Time.row)
structure Grid where
 (days slots begin_ mins : Int)
def Grid.row (g : Grid) : List PV := [ei g.days, ei g.slots, ei g.begin_, ei g.mins]
structure Room where
 (code bld : Str)
 (seats : Int)
 (feats : List Str)
 (closed : List Time)
def Room.row (r : Room) : List PV := [es r.code, es r.bld, ei r.seats, zcC r.feats, zmR r.closed]
def zmS (l : List Room) : PV := .sl 5 (l.map Room.row)
structure Exam where
 (code : Str)
 (len : Int)
 (feats studs : List Str)
def Exam.row (e : Exam) : List PV := [es e.code, ei e.len, zcC e.feats, zcC e.studs]
structure Sitting where
 (day start len cost : Int)
def Sitting.row (s : Sitting) : List PV := [ei s.day, ei s.start, ei s.len, ei s.cost]
structure Gaps where
 (row day near days mixed : Int)
structure Exams where
 (rooms : List Room)
 (exams : List Exam)
 (sits : List Sitting)
 (gaps : Gaps)
def Exams.cells (x : Exams) : List PV := [zmS x.rooms, .sl 4 (x.exams.map Exam.row), .sl 4 (x.sits.map Sitting.row), ei x.gaps.row, ei x.gaps.day, ei x.gaps.near, ei x.gaps.days, ei x.gaps.mixed]
structure Term where
 (first weeks : Int)
 (hols : List Int)
def Term.row (t : Term) : List PV := [ei t.first, ei t.weeks, qN t.hols]
structure Travel where
 (blds : List Str)
 (slots : List (List Int))
def zoW (l : List Int) : List PV := [qN l]
def Travel.row (t : Travel) : List PV := [zcC t.blds, .sl 1 (t.slots.map zoW)]
structure Lecturer where
 (code : Str)
 (away : List Time)
def Lecturer.row (l : Lecturer) : List PV := [es l.code, zmR l.away]
structure Start where
 (day slot : Int)
def Start.row (s : Start) : List PV := [ei s.day, ei s.slot]
structure Class where
 (code course part : Str)
 (len : Int)
 (pats : List Int)
 (seats : Int)
 (feats staff : List Str)
 (starts : List Start)
def Class.row (c : Class) : List PV := [es c.code, es c.course, es c.part, ei c.len, qN c.pats, ei c.seats, zcC c.feats, zcC c.staff, .sl 2 (c.starts.map Start.row)]
structure Curri where
 (code : Str)
 (courses : List Str)
def Curri.row (c : Curri) : List PV := [es c.code, zcC c.courses]
structure Req where
 (student course : Str)
 (prio : Int)
 (instead : List Str)
def Req.row (r : Req) : List PV := [es r.student, es r.course, ei r.prio, zcC r.instead]
structure Reg where
 (grid : Grid)
 (term : Term)
 (rooms : List Room)
 (travel : Travel)
 (staff : List Lecturer)
 (classes : List Class)
 (curris : List Curri)
 (reqs : List Req)
def Reg.cells (r : Reg) : List PV := [ei r.grid.days, ei r.grid.slots, ei r.grid.begin_, ei r.grid.mins, ei r.term.first, ei r.term.weeks, qN r.term.hols, zmS r.rooms, zcC r.travel.blds, .sl 1 (r.travel.slots.map zoW),
 .sl 2 (r.staff.map Lecturer.row), .sl 9 (r.classes.map Class.row), .sl 2 (r.curris.map Curri.row), .sl 4 (r.reqs.map Req.row)]
abbrev ag (l : List PV) : AV := .agg (pvs l)
end Go.Proofs.YtihpjcmloecaaaaGreat.Cw
namespace Go.Proofs.YtihpjcmloecaaaaGreat.Cw
open Go.Cw Go.Proofs
set_option linter.unusedVariables false
noncomputable abbrev pB (p : Prop) : Bool := @decide p (Classical.propDecidable p)
theorem zaM {p : Prop} (h : p) : pB p = true := by simp [h]
theorem zad {p : Prop} (h : ¬ p) : pB p = false := by simp [h]
theorem zgF {p q : Prop} (h : p ↔ q) : pB p = pB q := by simp [h]
theorem zd7 {p : Prop} {b : Bool} (h : b = true ↔ p) : b = pB p := by
 cases b <;> simp at h <;> simp [h]
def firstE (f : Nat → Int) : Nat → Int
 | 0 => 0
 | n + 1 => if firstE f n = 0 then f n else firstE f n
theorem zu {p : Nat → Prop} {i : Nat} (h : ∀ j, j < i → p j) (hi : p i) : ∀ j, j < i + 1 → p j := fun j hj => by
 rcases Nat.lt_or_ge j i with h1 | h1
 · exact h j h1
 · have : j = i := by omega
   subst this; exact hi
theorem mulw {a b : Int} (ha : 0 ≤ a ∧ a ≤ 1000000) (hb : 0 ≤ b ∧ b ≤ 1000000) : 0 ≤ a * b ∧ a * b ≤ 1000000000000 :=
 ⟨Int.mul_nonneg ha.1 hb.1, Int.le_trans (Int.mul_le_mul ha.2 hb.2 hb.1 (by omega)) (by omega)⟩
theorem zpd {a b : Int} {K : Int → Prop} (ha : 0 ≤ a ∧ a ≤ 1000000) (hb : 0 ≤ b ∧ b ≤ 1000000) (h : 0 ≤ a * b → a * b ≤ 1000000000000 → K (a * b)) : eqv (IntKind.i64.wrap (a * b)) K :=
 zc (by have := mulw ha hb; omega) (by have := mulw ha hb; omega) (h (mulw ha hb).1 (mulw ha hb).2)
def zmw {α : Type} (p : α → Bool) (l : List α) : Int := match l.findIdx? p with
 | some i => i
 | none => -1
theorem zd8 {α : Type} {p : α → Bool} {l : List α} {i : Nat} {x : α} (h0 : ∀ j, j < i → ∀ y, l[j]? = some y → p y = false) (hx : l[i]? = some x) (hp : p x = true) : zmw p l = i := by
 have hi := (List.getElem?_eq_some_iff.1 hx).1
 have : l.findIdx? p = some i := by
  rw [List.findIdx?_eq_some_iff_getElem]
  refine ⟨hi, ?_, fun j hj => ?_⟩
  · rw [(List.getElem?_eq_some_iff.1 hx).2]; exact hp
  · have := h0 j hj l[j] (List.getElem?_eq_getElem (by omega))
    simp [this]
 simp [zmw, this]
theorem zdi {α : Type} {p : α → Bool} {l : List α} (h : ∀ j, j < l.length → ∀ y, l[j]? = some y → p y = false) : zmw p l = -1 := by
 have : l.findIdx? p = none := by
  rw [List.findIdx?_eq_none_iff]
  intro x hx
  obtain ⟨i, hi, rfl⟩ := List.getElem_of_mem hx
  exact h i hi _ (List.getElem?_eq_getElem hi)
 simp [zmw, this]
theorem zeF {α : Type} {p : α → Bool} {l : List α} : decide (zmw p l ≥ 0) = l.any p := by
 unfold zmw
 split
 · rename_i i hi
   have := List.findIdx?_eq_some_iff_getElem.1 hi
   obtain ⟨h1, h2, _⟩ := this
   rw [List.any_eq_true.2 ⟨_, List.getElem_mem h1, h2⟩]
   simp
 · rename_i hi
   rw [List.findIdx?_eq_none_iff] at hi
   have : l.any p = false := List.any_eq_false.2 fun x hx => by simp [hi x hx]
   rw [this]; rfl
end Go.Proofs.YtihpjcmloecaaaaGreat.Cw
namespace Go.Proofs.YtihpjcmloecaaaaGreat.Cw
open Go.Cw Go.Proofs
set_option linter.unusedVariables false
theorem zdG {r x : List PV} {rs : List (List PV)} {K : Go.Cw.Rows → Nat → Prop} (h : K (.p (r :: (rs ++ [x]))) ((rs ++ [x]).length + 1)) : eqv (Go.Cw.Rows.p (List.drop 0 (r :: rs) ++ List.take 1 (List.drop 0 [x]))) fun rr => eqv (zb rr) (K rr) :=
 ⟨_, rfl, _, by simp [zb], h⟩
def qj : AV := .pv (.val (.slice none 0 0))
def slP (id z : Nat) : List (List PV) → AV
 | [] => qj
 | r :: l => .ms id z 0 (r :: l).length
def obP (ty z : Nat) : List (List PV) → Option AObj
 | [] => none
 | r :: l => some ⟨ty, z, false, .p (r :: l)⟩
structure Leq (r x : AV) : Prop where
 le : ALe r x
theorem zef {α : Type} {f : α → List PV} {z n : Nat} {l : List α} (h : l.length ≤ n) : PLe (.sl z (List.take n (List.drop 0 (l.map f)))) (.sl z (l.map f)) := by
 rw [List.drop_zero, List.take_of_length_le (by simpa using h)]
 exact PLe.refl
end Go.Proofs.YtihpjcmloecaaaaGreat.Cw
namespace Go.Proofs.YtihpjcmloecaaaaGreat.Cw
open Go Go.Cw Go.Proofs
set_option linter.unusedVariables false
theorem zK {α β : Type} {f : α → β} {l : List α} {x : α} : (l ++ [x]).map f = l.map f ++ [f x] := by simp
section
variable {P : Program} {T : Tab} {id z ty : Nat} {rows : List (List PV)} {r : List PV}
theorem xE {K : AV → Prop} (h : K (slP id z rows)) : zdl (slP id z rows) K := by
 cases rows <;> exact h
theorem zY {l : zq} {K : zq → Prop} (h : zN l fun l' => K (obP ty z rows :: l')) : zN (obP ty z rows :: l) K := by
 rw [zV] at *
 exact h
theorem ze8 : ∀ (dc : qE) {d : Nat} (A B : qE → Prop), (∀ d2, A d2 → B d2) → zb8 dc d A → zb8 dc d B
 | [], d, A, B, hab, ha => hab _ ha
 | (k, bb) :: dc, d, A, B, hab, ha => by
   simp only [zb8] at ha ⊢
   split
   · rename_i hk; rw [hk] at ha; exact ze8 dc A B hab ha
   · rename_i hk; rw [hk] at ha; exact ze8 dc _ _ (fun d2 h2 => hab _ h2) ha
theorem qh (a : List (List PV)) (x : List PV) : slP id z (a ++ [x]) = .ms id z 0 (a.length + 1) := by
 cases a with
 | nil => rfl
 | cons b l => simp [slP]
theorem qi (a : List (List PV)) (x : List PV) : obP ty z (a ++ [x]) = some ⟨ty, z, false, .p (a ++ [x])⟩ := by
 cases a <;> rfl
theorem zji {H : zq} {i site : Nat} {o : Option AObj} (h : H[i]? = some none) : app H [(i, none), (site, o)] = app H [(site, o)] := by
 have : H.set i none = H := by
  apply List.ext_getElem?
  intro k
  rw [List.getElem?_set]
  by_cases e : i = k
  · subst e
    obtain ⟨h1, h2⟩ := List.getElem?_eq_some_iff.1 h
    rw [if_pos rfl, if_pos h1, h]
  · simp [e]
 simp only [app, this]
theorem st_app {site idx b size bytes : Nat} {agg eagg fz : Bool} {zero ezero : List PV} {etk : TK} {s x : Operand} {t : TypeId} {d : Tmp} {Γ : zr} {H : zq} {K : zr → zq → Prop} (hs : ev Γ s = some (slP id z rows)) (hx : ev Γ x = some (.ms idx z 0 1)) (hl : Cw.xb T t = some ⟨size, bytes, agg, .slice ty, zero⟩) (he : Cw.xb T ty = some ⟨z, b, eagg, etk, ezero⟩) (hz : Nat.blt 0 z = true)
 (hi : H[idx]? = some (some ⟨ty, z, fz, .p [r]⟩)) (ho : H[id]? = some (obP ty z rows)) (hb : (rows.length + 1) * b ≤ 140737488355328) (hn : rows.length + 1 ≤ 9223372036854775807)
 (h : zN (app H [(id, none), (site, some ⟨ty, z, false, .p (rows ++ [r])⟩)]) fun H2 => K ((d, .ms site z 0 (rows.length + 1)) :: Γ) H2) :
 zaa P T site (some d) (.call { callee := .builtin .append, args := #[s, x], argTypes := #[t, t] }) Γ H K := by
 have hbq : Nat.beq t t = true := Nat.beq_refl t
 have hzz : Nat.beq z z = true := Nat.beq_refl z
 have hty : Nat.beq ty ty = true := Nat.beq_refl ty
 rw [zV] at h
 cases rows with
 | nil =>
   rw [zji ho] at h
   simp only [zaa, xq, hbq, hs, hx, qX, hl, he, zfG, hzz, hz, xO, hi, Bool.and_self, Bool.true_and, slP, qj, zR, zdL, zdl, zkJ, zV]
   refine ⟨rfl, by simpa [zb] using hb, by simp [zb], fun _ => ?_, fun e => by simp [zb] at e⟩
   exact h
 | cons a l =>
   simp only [zaa, xq, hbq, hs, hx, qX, hl, he, zfG, hzz, hz, xO, hi, ho, obP, Bool.and_self, Bool.true_and, slP, zR, zdL, zdl, zkJ, zV, Bool.not_false, hty, zdO, xn, List.drop_zero]
   refine ⟨by simp [zb], rfl, by simpa [zb] using hb, by simpa [zb] using hn, ?_⟩
   have e : zb (.p (a :: l ++ List.take 1 [r])) = (a :: l).length + 1 := by simp [zb]
   rw [e]
   exact h
theorem zbP {n site idx b size bytes : Nat} {agg eagg fz : Bool} {zero ezero : List PV} {etk : TK} {s x : Operand} {t : TypeId} {d : Tmp} {Γ : zr} {H : zq} {K : zr → zq → Prop} {o : Oper} {all l : List Oper} {dc : qE}
 (hop : o.op = .call { callee := .builtin .append, args := #[s, x], argTypes := #[t, t] }) (hg : o.guard = none) (hd : o.dst = some d) (hdn : Nat.blt d n = true) (hs : ev Γ s = some (slP id z rows)) (hx : ev Γ x = some (.ms idx z 0 1)) (hl : Cw.xb T t = some ⟨size, bytes, agg, .slice ty, zero⟩) (he : Cw.xb T ty = some ⟨z, b, eagg, etk, ezero⟩) (hz : Nat.blt 0 z = true)
 (hi : H[idx]? = some (some ⟨ty, z, fz, .p [r]⟩)) (ho : H[id]? = some (obP ty z rows)) (hb : (rows.length + 1) * b ≤ 140737488355328) (hn : rows.length + 1 ≤ 9223372036854775807)
 (h : zb8 dc d fun d2 => zN (app H [(id, none), (site, some ⟨ty, z, false, .p (rows ++ [r])⟩)]) fun H2 => zjq P T n all l (site + 1) K d2 ((d, .ms site z 0 (rows.length + 1)) :: Γ) H2) :
 zjq P T n all (o :: l) site K dc Γ H := by
 refine ziH ?_
 have e1 : zbm n o = true := by unfold zbm; rw [hd]; exact hdn
 have e2 : zU o.op = true := by rw [hop]; rfl
 rw [e1, e2]
 show qr all Γ dc o.guard _ _
 rw [hg]
 simp only [qr, zcS, hd, hop, zbQ, qY]
 have key : ∀ d2, (zN (app H [(id, none), (site, some ⟨ty, z, false, .p (rows ++ [r])⟩)]) fun H2 => zjq P T n all l (site + 1) K d2 ((d, .ms site z 0 (rows.length + 1)) :: Γ) H2) → zaa P T site (some d) (.call { callee := .builtin .append, args := #[s, x], argTypes := #[t, t] }) Γ H (zjq P T n all l (site + 1) K d2) := fun d2 hh =>
  st_app hs hx hl he hz hi ho hb hn hh
 have mono : ∀ (dc : qE) (A B : qE → Prop), (∀ d2, A d2 → B d2) → zb8 dc d A → zb8 dc d B := by
  intro dc
  induction dc with
  | nil => intro A B hab ha; exact hab _ ha
  | cons q dc ih =>
    obtain ⟨k, bb⟩ := q
    intro A B hab ha
    simp only [zb8] at ha ⊢
    split
    · rename_i hk; rw [hk] at ha; exact ih A B hab ha
    · rename_i hk; rw [hk] at ha; exact ih _ _ (fun d2 h2 => hab _ h2) ha
 exact mono dc _ _ key h
theorem st_appD {site idx b size bytes : Nat} {agg eagg fz : Bool} {zero ezero : List PV} {etk : TK} {s x : Operand} {t : TypeId} {d : Tmp} {Γ : zr} {H : zq} {K : zr → zq → List Nat × List Nat → Prop} (hs : ev Γ s = some (slP id z rows)) (hx : ev Γ x = some (.ms idx z 0 1)) (hl : Cw.xb T t = some ⟨size, bytes, agg, .slice ty, zero⟩) (he : Cw.xb T ty = some ⟨z, b, eagg, etk, ezero⟩) (hz : Nat.blt 0 z = true)
 (hi : H[idx]? = some (some ⟨ty, z, fz, .p [r]⟩)) (ho : H[id]? = some (obP ty z rows)) (hb : (rows.length + 1) * b ≤ 140737488355328) (hn : rows.length + 1 ≤ 9223372036854775807)
 (h : (zN (app H [(id, none), (site, some ⟨ty, z, false, .p (rows ++ [r])⟩)]) fun H2 => K ((d, .ms site z 0 (rows.length + 1)) :: Γ) H2 ([idx], [site])) ∧ zN (app H [(id, none), (site, some ⟨ty, z, false, .p (rows ++ [r])⟩)]) fun H2 => K ((d, .ms site z 0 (rows.length + 1)) :: Γ) H2 ([id, idx], [id, site])) :
 zcU P T site (some d) (.call { callee := .builtin .append, args := #[s, x], argTypes := #[t, t] }) Γ H K := by
 have hbq : Nat.beq t t = true := Nat.beq_refl t
 have hzz : Nat.beq z z = true := Nat.beq_refl z
 have hty : Nat.beq ty ty = true := Nat.beq_refl ty
 simp only [zV] at h
 obtain ⟨h1, h2⟩ := h
 cases rows with
 | nil =>
   rw [zji ho] at h1
   simp only [zcU, xq, hbq, hs, hx, qX, hl, he, zfG, hzz, hz, xO, hi, Bool.and_self, Bool.true_and, slP, qj, zR, zdL, zdl, zkJ, zV]
   refine ⟨rfl, by simpa [zb] using hb, by simp [zb], fun _ => ?_, fun e => by simp [zb] at e⟩
   exact h1
 | cons a l =>
   simp only [zcU, xq, hbq, hs, hx, qX, hl, he, zfG, hzz, hz, xO, hi, ho, obP, Bool.and_self, Bool.true_and, slP, zR, zdL, zdl, zkJ, zV, Bool.not_false, hty, zdO, xn, List.drop_zero]
   refine ⟨by simp [zb], rfl, by simpa [zb] using hb, by simpa [zb] using hn, ?_⟩
   have e : zb (.p (a :: l ++ List.take 1 [r])) = (a :: l).length + 1 := by simp [zb]
   rw [e]
   exact h2
theorem zb6 {n site idx b size bytes : Nat} {agg eagg fz : Bool} {zero ezero : List PV} {etk : TK} {s x : Operand} {t : TypeId} {d : Tmp} {Γ : zr} {H : zq} {KD : List (List Nat × List Nat) → zr → zq → Prop} {fs : List (List Nat × List Nat)} {o : Oper} {all l : List Oper} {dc : qE}
 (hop : o.op = .call { callee := .builtin .append, args := #[s, x], argTypes := #[t, t] }) (hg : o.guard = none) (hd : o.dst = some d) (hdn : Nat.blt d n = true) (hs : ev Γ s = some (slP id z rows)) (hx : ev Γ x = some (.ms idx z 0 1)) (hl : Cw.xb T t = some ⟨size, bytes, agg, .slice ty, zero⟩) (he : Cw.xb T ty = some ⟨z, b, eagg, etk, ezero⟩) (hz : Nat.blt 0 z = true)
 (hi : H[idx]? = some (some ⟨ty, z, fz, .p [r]⟩)) (ho : H[id]? = some (obP ty z rows)) (hb : (rows.length + 1) * b ≤ 140737488355328) (hn : rows.length + 1 ≤ 9223372036854775807)
 (h : zb8 dc d fun d2 => (zN (app H [(id, none), (site, some ⟨ty, z, false, .p (rows ++ [r])⟩)]) fun H2 => zee P T n all l (site + 1) KD (([idx], [site]) :: fs) d2 ((d, .ms site z 0 (rows.length + 1)) :: Γ) H2) ∧ zN (app H [(id, none), (site, some ⟨ty, z, false, .p (rows ++ [r])⟩)]) fun H2 => zee P T n all l (site + 1) KD (([id, idx], [id, site]) :: fs) d2 ((d, .ms site z 0 (rows.length + 1)) :: Γ) H2) :
 zee P T n all (o :: l) site KD fs dc Γ H := by
 refine zjR ?_
 have e1 : zbm n o = true := by unfold zbm; rw [hd]; exact hdn
 have e2 : zU o.op = true := by rw [hop]; rfl
 rw [e1, e2]
 show qr all Γ dc o.guard _ _
 rw [hg]
 simp only [qr, zcS, hd, hop, zbQ, qY]
 exact ze8 dc _ _ (fun d2 hh => st_appD hs hx hl he hz hi ho hb hn hh) h
theorem zfs {d : Nat} {rn : List Nat} : xJ d rn (slP id z rows) = slP (rn.getD id d) z rows := by
 cases rows <;> simp [slP, qj, xJ]
theorem zX {d : Nat} {rn : List Nat} {Γ : zr} {s : Nat} (h : get Γ s = some (slP (rn.getD id d) z rows)) : get Γ s = some (xJ d rn (slP id z rows)) := by rw [zfs]; exact h
theorem zB {H Hc : zq} {d i : Nat} {rn l : List Nat} (h : H[i]? = some (obP ty z rows)) (hk : zat H d rn l Hc) : zat H d rn (i :: l) (obP ty z rows :: Hc) := by
 cases rows with
 | nil => exact hk
 | cons a l' => exact ⟨h, hk⟩
theorem zy {n nh : Nat} {a : Code} {Q : Exit → zr → zq → Prop} {Γ : zr} {H : zq} {X : Type} (g : X → zr) (hp : X → zq) (cond : X → Prop) (μ : X → Nat) (x0 : X) (h0 : cond x0) (he : zC n nh Γ H (g x0) (hp x0))
 (hb : ∀ x, cond x → zN (hp x) fun H1 => zS P T n nh a (zdJ (fun Γ' H' => ∃ x', cond x' ∧ μ x' < μ x ∧ zC n nh Γ' H' (g x') (hp x')) Q) (g x) H1) : zS P T n nh (.loop a) Q Γ H := by
 refine zg3 (fun x => ⟨g x, hp x⟩) cond μ ⟨x0, h0, he⟩ fun x hx => ?_
 have := hb x hx
 rw [zV] at this
 exact this
theorem zJ {H Hc : zq} {d i : Nat} {rn l : List Nat} {ty' z' : Nat} {fz : Bool} {cs cs' : List AV} (e : xY d rn cs = cs') (h : H[i]? = some (some ⟨ty', z', fz, .box cs'⟩)) (hk : zat H d rn l Hc) : zat H d rn (i :: l) (some ⟨ty', z', fz, .box cs⟩ :: Hc) := by
 subst e
 exact ⟨h, hk⟩
theorem zlu {H : zq} (ho : H[id]? = some (obP ty z rows)) : ∃ r0, zch H (slP id z rows) = some r0 ∧ ok1 H (slP id z rows) ∧ ALe r0 (.pv (.sl z rows)) := by
 cases rows with
 | nil => exact ⟨_, rfl, trivial, ALe.pv PLe.nil⟩
 | cons a l =>
   refine ⟨.pv (.sl z (a :: l)), ?_, ?_, ALe.refl⟩
   · simp only [slP, zch, zdp, qm, ho, obP]
     simp
   · simp only [slP, ok1, ok0, okC, ho, obP]
     simp
theorem ids_sl {H : zq} (ho : H[id]? = some (obP ty z rows)) : ∀ i : Nat, i ≠ id → (app H (frz H (zbs H (slP id z rows))))[i]? = H[i]? := fun i hne => by
 cases rows with
 | nil => rfl
 | cons a l =>
   have hi : zbs H (slP id z (a :: l)) = [id] := by
    show zaQ H 5 (.ms id z 0 (a :: l).length) = _
    simp only [zaQ, ho, obP]; rfl
   rw [hi]
   simp only [frz, ho, obP, app]
   rw [List.getElem?_set, if_neg (fun e => hne e.symm)]
theorem zgi : ∀ H : zq, subH H H
 | [] => trivial
 | none :: l => zgi l
 | some o :: l => ⟨rfl, zgi l⟩
theorem zC.sl {n nh s : Nat} {Γ Γ2 : zr} {H H2 : zq} (h : get Γ s = some (slP id z rows)) (ho : H[id]? = some (obP ty z rows))
 (k : ∀ H' : zq, H'.length = H.length → (∀ i : Nat, i ≠ id → H'[i]? = H[i]?) → zC n nh ((s, .pv (.sl z rows)) :: Γ) H' Γ2 H2) : zC n nh Γ H Γ2 H2 := by
 obtain ⟨r0, h1, h2, h3⟩ := zlu ho
 have g1 := zC.freeze (n := n) (nh := nh) h h1 h2
 have g2 := zC.weak (n := n) (nh := nh) (Γ := (s, r0) :: Γ) (H := app H (frz H (zbs H (slP id z rows)))) (s := s) (x := r0) (y := .pv (.sl z rows)) (by rw [xh, if_pos rfl]) h3
 have g3 : zC n nh ((s, .pv (.sl z rows)) :: (s, r0) :: Γ) (app H (frz H (zbs H (slP id z rows)))) ((s, .pv (.sl z rows)) :: Γ) (app H (frz H (zbs H (slP id z rows)))) := zC.le (fun t y hy => by
  rw [xh] at hy
  split at hy
  · rename_i e
    exact ⟨y, by rw [xh, if_pos e]; exact hy, ALe.refl⟩
  · rename_i e
    exact ⟨y, by rw [xh, if_neg e, xh, if_neg e]; exact hy, ALe.refl⟩) (zgi _)
 exact ((g1.trans g2).trans g3).trans (k _ (by rw [qG]) (ids_sl ho))
theorem zC.shut_sl {n nh i c ty' z' : Nat} {fz : Bool} {cs : List AV} {Γ Γ2 : zr} {H H2 : zq} (hi : H[i]? = some (some ⟨ty', z', fz, .box cs⟩)) (hx : cs[c]? = some (slP id z rows)) (ho : H[id]? = some (obP ty z rows)) (hne : i ≠ id)
 (k : ∀ H' : zq, H'.length = H.length → H'[i]? = some (some ⟨ty', z', fz, .box (cs.set c (.pv (.sl z rows)))⟩) → (∀ j : Nat, j ≠ id → j ≠ i → H'[j]? = H[j]?) → zC n nh Γ H' Γ2 H2) : zC n nh Γ H Γ2 H2 := by
 obtain ⟨r0, h1, h2, h3⟩ := zlu ho
 have hn : i ∉ zbs H (slP id z rows) := by
  cases rows with
  | nil => exact List.not_mem_nil
  | cons a l =>
    have e : zbs H (slP id z (a :: l)) = [id] := by
     show zaQ H 5 (.ms id z 0 (a :: l).length) = _
     simp only [zaQ, ho, obP]; rfl
    rw [e]; simpa using hne
 have g := zC.shut (n := n) (nh := nh) (Γ := Γ) hi hx h1 h2 hn h3
 have hlt := (List.getElem?_eq_some_iff.1 hi).1
 refine g.trans (k _ (by rw [List.length_set, qG]) ?_ fun j hj1 hj2 => ?_)
 · rw [List.getElem?_set, if_pos rfl, if_pos (by rw [qG]; exact hlt)]
 · rw [List.getElem?_set, if_neg (fun e => hj2 e.symm)]
   exact ids_sl ho j hj1
theorem zon {H : zq} {Post : AV → Prop} (ho : H[id]? = some (obP ty z rows)) (h : Post (.pv (.sl z rows))) (hp : ∀ r r', ALe r r' → Post r' → Post r) : zz 0 (slP id z rows) H (fun r H' => H' = [] ∧ Post r) := by
 obtain ⟨r0, h1, h2, h3⟩ := zlu ho
 exact zd h1 h2 (hp _ _ h3 h)
theorem ziV {x : AV} : ∀ r r', ALe r r' → Leq r' x → Leq r x := fun r r' h k => ⟨fun I β w v hv => k.le I β w v (h I β w v hv)⟩
end
end Go.Proofs.YtihpjcmloecaaaaGreat.Cw
namespace Go.Proofs.YtihpjcmloecaaaaGreat.Cw
open Go.Cw Go.Proofs
set_option linter.unusedVariables false
def slC (id z : Nat) (rows : List (List AV)) : AV := match rows with
 | [] => .clip z []
 | _ :: l => .ms id z 0 (l.length + 1)
def obM (ty z : Nat) (rows : List (List AV)) : Option AObj := match rows with
 | [] => none
 | _ :: _ => some ⟨ty, z, false, .m rows⟩
theorem zex (z : Nat) : ALe qj (.clip z []) := fun I β w v hv => by
 have hv : ARel I β w (.pv (.val (.slice none 0 0))) v := hv
 cases hv with
 | pv h => cases h with
   | val v => exact .clip (.sl (fun _ _ => undef) (Nat.le_refl _) (fun i r h => by simp at h) fun i r j p h => by simp at h)
section
variable {P : Program} {T : Tab} {id z ty : Nat} {rows : List (List AV)} {r : List AV}
theorem zh4 {K : AV → Prop} (h : K (slC id z rows)) : zdl (slC id z rows) K := by
 cases rows <;> exact h
theorem zbl {l : zq} {K : zq → Prop} (h : zN l fun l' => K (obM ty z rows :: l')) : zN (obM ty z rows :: l) K := by
 rw [zV] at *
 exact h
theorem ziy (a : List (List AV)) (x : List AV) : slC id z (a ++ [x]) = .ms id z 0 (a.length + 1) := by
 cases a with
 | nil => rfl
 | cons b l => simp [slC]
theorem zc0 (h : 0 < rows.length) : slC id z rows = .ms id z 0 rows.length := by
 cases rows with
 | nil => simp at h
 | cons b l => rfl
theorem ziJ (a : List (List AV)) (x : List AV) : obM ty z (a ++ [x]) = some ⟨ty, z, false, .m (a ++ [x])⟩ := by
 cases a <;> rfl
theorem zbO (h : 0 < rows.length) : obM ty z rows = some ⟨ty, z, false, .m rows⟩ := by
 cases rows with
 | nil => simp at h
 | cons b l => rfl
theorem zk0 {site idx b size bytes : Nat} {agg eagg fz : Bool} {zero ezero : List PV} {etk : TK} {s x : Operand} {t : TypeId} {d : Tmp} {Γ : zr} {H : zq} {K : zr → zq → Prop} (hs : ev Γ s = some (slC id z rows)) (hx : ev Γ x = some (.ms idx z 0 1)) (hl : Cw.xb T t = some ⟨size, bytes, agg, .slice ty, zero⟩) (he : Cw.xb T ty = some ⟨z, b, eagg, etk, ezero⟩) (hz : Nat.blt 0 z = true)
 (hi : H[idx]? = some (some ⟨ty, z, fz, .m [r]⟩)) (ho : H[id]? = some (obM ty z rows)) (hb : (rows.length + 1) * b ≤ 140737488355328) (hn : rows.length + 1 ≤ 9223372036854775807)
 (h : zN (app H [(id, none), (site, some ⟨ty, z, false, .m (rows ++ [r])⟩)]) fun H2 => K ((d, .ms site z 0 (rows.length + 1)) :: Γ) H2) :
 zaa P T site (some d) (.call { callee := .builtin .append, args := #[s, x], argTypes := #[t, t] }) Γ H K := by
 have hbq : Nat.beq t t = true := Nat.beq_refl t
 have hzz : Nat.beq z z = true := Nat.beq_refl z
 have hty : Nat.beq ty ty = true := Nat.beq_refl ty
 rw [zV] at h
 cases rows with
 | nil =>
   rw [zji ho] at h
   simp only [zaa, xq, hbq, hs, hx, qX, hl, he, zfG, hzz, hz, xO, hi, Bool.and_self, Bool.true_and, slC, xn, List.map_nil, List.nil_append, zR, zdL, zdl, zkJ, zV]
   refine ⟨by simp [qt, zb], by simpa [zb] using hb, by simp [zb], fun _ => ?_, fun e => by simp [zb] at e⟩
   exact h
 | cons a l =>
   simp only [zaa, xq, hbq, hs, hx, qX, hl, he, zfG, hzz, hz, xO, hi, ho, obM, Bool.and_self, Bool.true_and, slC, zR, zdL, zdl, zkJ, zV, Bool.not_false, hty, zdO, xn, List.drop_zero]
   refine ⟨by simp [zb], rfl, by simpa [zb] using hb, by simpa [zb] using hn, ?_⟩
   have e : zb (.m (a :: l ++ List.take 1 [r])) = (a :: l).length + 1 := by simp [zb]
   rw [e]
   exact h
theorem zmh {n site idx b size bytes : Nat} {agg eagg fz : Bool} {zero ezero : List PV} {etk : TK} {s x : Operand} {t : TypeId} {d : Tmp} {Γ : zr} {H : zq} {K : zr → zq → Prop} {o : Oper} {all l : List Oper} {dc : qE}
 (hop : o.op = .call { callee := .builtin .append, args := #[s, x], argTypes := #[t, t] }) (hg : o.guard = none) (hd : o.dst = some d) (hdn : Nat.blt d n = true) (hs : ev Γ s = some (slC id z rows)) (hx : ev Γ x = some (.ms idx z 0 1)) (hl : Cw.xb T t = some ⟨size, bytes, agg, .slice ty, zero⟩) (he : Cw.xb T ty = some ⟨z, b, eagg, etk, ezero⟩) (hz : Nat.blt 0 z = true)
 (hi : H[idx]? = some (some ⟨ty, z, fz, .m [r]⟩)) (ho : H[id]? = some (obM ty z rows)) (hb : (rows.length + 1) * b ≤ 140737488355328) (hn : rows.length + 1 ≤ 9223372036854775807)
 (h : zb8 dc d fun d2 => zN (app H [(id, none), (site, some ⟨ty, z, false, .m (rows ++ [r])⟩)]) fun H2 => zjq P T n all l (site + 1) K d2 ((d, .ms site z 0 (rows.length + 1)) :: Γ) H2) :
 zjq P T n all (o :: l) site K dc Γ H := by
 refine ziH ?_
 have e1 : zbm n o = true := by unfold zbm; rw [hd]; exact hdn
 have e2 : zU o.op = true := by rw [hop]; rfl
 rw [e1, e2]
 show qr all Γ dc o.guard _ _
 rw [hg]
 simp only [qr, zcS, hd, hop, zbQ, qY]
 exact zax dc _ _ (fun d2 hh => zk0 hs hx hl he hz hi ho hb hn hh) h
theorem zfA {ops : Array Oper} {rem : List Nat} {F : Nat → Prop} : ∀ {l : List Nat}, (∀ j ∈ l, zan ops rem j = true → F j) → zaS ops rem F l
 | [], _ => True.intro
 | j :: l, h => by
   have ih := zfA (l := l) fun i hi => h i (List.mem_cons_of_mem _ hi)
   unfold zaS
   cases e : zan ops rem j with
   | true => exact ⟨h j (by simp) e, ih⟩
   | false => exact ih
theorem zp3 {n fuel j site : Nat} {o : Oper} {ops : Array Oper} {rem0 rem1 : List Nat} {K : zr → zq → Prop} {Γ : zr} {H : zq} (ho : ops[j]? = some o) (hr : (j :: rem0).filter (zan ops (j :: rem0)) = [j]) (hd : zbm n o = true) (ha : zU o.op = true) (hg : o.guard = none) (hs : qY [] o.op = o.op) (hw : qL j (j :: rem0) = rem1)
 (h : zaa P T site o.dst o.op Γ H (znf P T n ops fuel rem1 (site + 1) K)) : znf P T n ops (fuel + 1) (j :: rem0) site K Γ H := by
 refine zna ?_
 have hj : zan ops (j :: rem0) j = true := by
  have : j ∈ (j :: rem0).filter (zan ops (j :: rem0)) := by rw [hr]; simp
  exact (List.mem_filter.1 this).2
 have hany : (j :: rem0).any (zan ops (j :: rem0)) = true := List.any_eq_true.2 ⟨j, by simp, hj⟩
 rw [hany]
 refine zfA fun i hi hri => ?_
 have : i ∈ (j :: rem0).filter (zan ops (j :: rem0)) := List.mem_filter.2 ⟨hi, hri⟩
 rw [hr] at this
 obtain rfl := List.mem_singleton.1 this
 simp only [ho, hd, ha, hg, qr, hs, hw]
 exact h
end
end Go.Proofs.YtihpjcmloecaaaaGreat.Cw
namespace Go.Proofs.YtihpjcmloecaaaaGreat.Cw
open Go.Cw Go.Proofs
set_option linter.unusedVariables false
set_option maxRecDepth 100000
structure Placed where
 (time : Time)
 (room : Int)
def Placed.row (p : Placed) : List PV := [ei p.time.weeks, ei p.time.day, ei p.time.start, ei p.time.len, ei p.room]
structure Charge where
 (rule cost : Int)
def Charge.row (c : Charge) : List PV := [ei c.rule, ei c.cost]
structure Opt where
 (place : Placed)
 (charges : List Charge)
def Opt.row (o : Opt) : List PV := [ei o.place.time.weeks, ei o.place.time.day, ei o.place.time.start, ei o.place.time.len, ei o.place.room, .sl 2 (o.charges.map Charge.row)]
structure Pair where
 (first second rule : Int)
 (table : List Int)
def Pair.row (p : Pair) : List PV := [ei p.first, ei p.second, ei p.rule, qN p.table]
structure Load where
 (cls opt weight : Int)
def Load.row (l : Load) : List PV := [ei l.cls, ei l.opt, ei l.weight]
structure Count where
 (rule : Int)
 (loads : List Load)
 (most penalty : Int)
def Count.row (c : Count) : List PV := [ei c.rule, .sl 3 (c.loads.map Load.row), ei c.most, ei c.penalty]
structure Model where
 (classes : List (List Opt))
 (pairs : List Pair)
 (counts : List Count)
 (rules : Int)
def zx (l : List Opt) : List PV := [.sl 6 (l.map Opt.row)]
def Model.cells (m : Model) : List PV := [.sl 1 (m.classes.map zx), .sl 4 (m.pairs.map Pair.row), .sl 4 (m.counts.map Count.row), ei m.rules]
def BIG : Nat := 9223372036854775807
structure Laid (m : Model) : Prop where
 cn : m.classes.length ≤ 9223372036854775807
 pn : m.pairs.length ≤ 9223372036854775807
 ch : ∀ l ∈ m.classes, ∀ o ∈ l, o.charges.length ≤ 9223372036854775807
 ld : ∀ c ∈ m.counts, c.loads.length ≤ 9223372036854775807
def qy (n : Int) : Prop := (1 ≤ n ∧ n ≤ 1048576) ∨ n = 1099511627776
def zht (m : Model) (n : Int) : Prop := 0 ≤ n ∧ n < m.rules
def xQ (m : Model) (c o : Int) : Prop := 0 ≤ c ∧ 0 ≤ o ∧ ∃ l, m.classes[c.toNat]? = some l ∧ o < l.length
def qD (m : Model) : Prop := m.classes.length ≤ 24 ∧ (∀ l ∈ m.classes, l.length ≤ 24) ∧ m.pairs.length ≤ 4000 ∧ m.counts.length ≤ 800 ∧ 0 ≤ m.rules ∧ m.rules ≤ 56
def zcF (m : Model) (l : List Charge) (i : Nat) : Prop := ∀ c, l[i]? = some c → zht m c.rule ∧ qy c.cost ∧ ∀ k b, i = k + 1 → l[k]? = some b → b.rule < c.rule
def xz (m : Model) (o : Opt) : Prop := ∀ i, i < o.charges.length → zcF m o.charges i
def zhu (m : Model) (p : Pair) : Prop := zht m p.rule ∧ 0 ≤ p.first ∧ p.first < p.second ∧ (∃ a b, m.classes[p.first.toNat]? = some a ∧ m.classes[p.second.toNat]? = some b ∧ p.table.length = a.length * b.length) ∧ ∀ n ∈ p.table, n = 0 ∨ qy n
def zgC (p q : Pair) : Prop := p.rule < q.rule ∨ (p.rule = q.rule ∧ (p.first < q.first ∨ (p.first = q.first ∧ p.second < q.second)))
def zb5 (m : Model) (i : Nat) : Prop := ∀ p, m.pairs[i]? = some p → zhu m p ∧ ∀ k q, i = k + 1 → m.pairs[k]? = some q → zgC q p
def loadAt (m : Model) (l : List Load) (i : Nat) : Prop := ∀ x, l[i]? = some x → xQ m x.cls x.opt ∧ 1 ≤ x.weight ∧ x.weight ≤ 1000 ∧ ∀ k y, i = k + 1 → l[k]? = some y → y.cls < x.cls ∨ (y.cls = x.cls ∧ y.opt < x.opt)
def zdo (m : Model) (c : Count) : Prop := zht m c.rule ∧ 0 ≤ c.most ∧ c.most ≤ 1048576 ∧ qy c.penalty ∧ ∀ i, i < c.loads.length → loadAt m c.loads i
def zdM (m : Model) : Prop := (∀ l ∈ m.classes, ∀ o ∈ l, xz m o) ∧ (∀ i, i < m.pairs.length → zb5 m i) ∧ ∀ c ∈ m.counts, zdo m c
noncomputable def qo (m : Model) : Int := if pB (qD m) then (if pB (zdM m) then 0 else 1) else 2
theorem mE2 {m : Model} (h : ¬ qD m) : qo m = 2 := by unfold qo; rw [zad h]; rfl
theorem mE1 {m : Model} (h0 : qD m) (h : ¬ zdM m) : qo m = 1 := by unfold qo; rw [zaM h0, zad h]; rfl
theorem mE0 {m : Model} (h0 : qD m) (h : zdM m) : qo m = 0 := by unfold qo; rw [zaM h0, zaM h]; rfl
end Go.Proofs.YtihpjcmloecaaaaGreat.Cw
namespace Go.Proofs.YtihpjcmloecaaaaGreat.Cw
open Go.Cw Go.Proofs
set_option linter.unusedVariables false
set_option maxRecDepth 100000
set_option maxHeartbeats 800000
theorem zm3 (n : Int) : zF Tryz.prog 106 [zf .i64 n] (fun r => r = zm (pB (qy n))) := by
 refine zh tok mixed 13 rfl (fn := Tryz.f106) (c := Tryz.f106.body.getD .skip) (by kernel_rfl) (by kernel_rfl) (by kernel_rfl) rfl 0 rfl ?_
 repeat' (first | refine o1 ?_ | refine o2 ?_ | refine k1 ?_ | refine k2 ?_ | refine k7 ?_ | refine And.intro ?_ ?_ | (intro h; first | exact Bool.noConfusion h | exact nz _ h | exact nl h | (simp at h; done) | (simp at h; first | (exfalso; omega) | skip) | skip) | (change zz _ _ _ _; refine zd rfl trivial ?_) | fail)
 all_goals (refine congrArg zm (zd7 ?_); unfold qy; simp; omega)
theorem zhc (n : Int) : zF Tryz.prog 64 [zf .i64 n] (fun r => r = zm (pB (qy n))) := by
 refine zh tok mixed 13 rfl (fn := Tryz.f64) (c := Tryz.f64.body.getD .skip) (by kernel_rfl) (by kernel_rfl) (by kernel_rfl) rfl 0 rfl ?_
 repeat' (first | refine o1 ?_ | refine o2 ?_ | refine k1 ?_ | refine k2 ?_ | refine k7 ?_ | refine And.intro ?_ ?_ | (intro h; first | exact Bool.noConfusion h | exact nz _ h | exact nl h | (simp at h; done) | (simp at h; first | (exfalso; omega) | skip) | skip) | (change zz _ _ _ _; refine zd rfl trivial ?_) | fail)
 all_goals (refine congrArg zm (zd7 ?_); unfold qy; simp; omega)
theorem zhd (m : Model) (n : Int) : zF Tryz.prog 105 [ag m.cells, zf .i64 n] (fun r => r = zm (pB (zht m n))) := by
 refine zh tok mixed 13 rfl (fn := Tryz.f105) (c := Tryz.f105.body.getD .skip) (by kernel_rfl) (by kernel_rfl) (by kernel_rfl) rfl 0 rfl ?_
 repeat' (first | refine o1 ?_ | refine o2 ?_ | refine k1 ?_ | refine k2 ?_ | refine k7 ?_ | refine And.intro ?_ ?_ | (intro h; first | exact Bool.noConfusion h | exact nz _ h | exact nl h | (simp at h; done) | (simp at h; first | (exfalso; omega) | skip) | skip) | (change zz _ _ _ _; refine zd rfl trivial ?_) | fail)
 all_goals (refine congrArg zm (zd7 ?_); unfold zht; simp; omega)
theorem zcG (m : Model) (n : Int) : zF Tryz.prog 63 [ag m.cells, zf .i64 n] (fun r => r = zm (pB (zht m n))) := by
 refine zh tok mixed 13 rfl (fn := Tryz.f63) (c := Tryz.f63.body.getD .skip) (by kernel_rfl) (by kernel_rfl) (by kernel_rfl) rfl 0 rfl ?_
 repeat' (first | refine o1 ?_ | refine o2 ?_ | refine k1 ?_ | refine k2 ?_ | refine k7 ?_ | refine And.intro ?_ ?_ | (intro h; first | exact Bool.noConfusion h | exact nz _ h | exact nl h | (simp at h; done) | (simp at h; first | (exfalso; omega) | skip) | skip) | (change zz _ _ _ _; refine zd rfl trivial ?_) | fail)
 all_goals (refine congrArg zm (zd7 ?_); unfold zht; simp; omega)
theorem zhQ {m : Model} {n : Nat} {o : Int} {l : List Opt} (hl : m.classes[n]? = some l) : xQ m n o ↔ 0 ≤ o ∧ o < l.length := by
 unfold xQ
 rw [Int.toNat_natCast, hl]
 constructor
 · rintro ⟨h1, h2, l', h3, h4⟩; cases h3; exact ⟨h2, h4⟩
 · rintro ⟨h1, h2⟩; exact ⟨by omega, h1, l, rfl, h2⟩
theorem zme {m : Model} {c o : Int} (h : ¬ (0 ≤ c ∧ c < m.classes.length)) : ¬ xQ m c o := fun ⟨h1, h2, l, h3, h4⟩ => by
 have := (List.getElem?_eq_some_iff.1 h3).1
 omega
theorem zm0 (m : Model) (c o : Int) : zF Tryz.prog 99 [ag m.cells, zf .i64 c, zf .i64 o] (fun r => r = zm (pB (xQ m c o))) := by
 by_cases h : 0 ≤ c ∧ c < m.classes.length
 · obtain ⟨h1, h2⟩ := h
   obtain ⟨n, rfl⟩ := Int.eq_ofNat_of_zero_le h1
   obtain ⟨l, hl⟩ := qd (show n < m.classes.length by omega)
   refine zh tok mixed 30 rfl (fn := Tryz.f99) (c := Tryz.f99.body.getD .skip) (by kernel_rfl) (by kernel_rfl) (by kernel_rfl) rfl 0 rfl ?_
   rw [zgF (zhQ hl)]
   repeat' (first | (refine zi (k := n) (zg hl) (by omega) ?_) | refine o1 ?_ | refine o2 ?_ | refine k1 ?_ | refine k2 ?_ | refine k7 ?_ | refine And.intro ?_ ?_ | (intro h; first | exact Bool.noConfusion h | exact nz _ h | exact nl h | (simp at h; done) | (simp at h; first | (exfalso; omega) | skip) | skip) | (change zz _ _ _ _; refine zd rfl trivial ?_) | refine za ?_ | fail)
   all_goals first
    | (exfalso; omega)
    | (refine congrArg zm (zd7 ?_); simp; omega)
 · refine zh tok mixed 30 rfl (fn := Tryz.f99) (c := Tryz.f99.body.getD .skip) (by kernel_rfl) (by kernel_rfl) (by kernel_rfl) rfl 0 rfl ?_
   rw [zad (zme h)]
   repeat' (first | refine o1 ?_ | refine o2 ?_ | refine k1 ?_ | refine k2 ?_ | refine k7 ?_ | refine And.intro ?_ ?_ | (intro h; first | exact Bool.noConfusion h | exact nz _ h | exact nl h | (simp at h; done) | (simp at h; first | (exfalso; omega) | skip) | skip) | (change zz _ _ _ _; refine zd rfl trivial ?_) | refine za ?_ | fail)
   all_goals first
    | exact rfl
    | (exfalso; omega)
theorem zkw (m : Model) (c o : Int) : zF Tryz.prog 94 [ag m.cells, zf .i64 c, zf .i64 o] (fun r => r = zm (pB (xQ m c o))) := by
 by_cases h : 0 ≤ c ∧ c < m.classes.length
 · obtain ⟨h1, h2⟩ := h
   obtain ⟨n, rfl⟩ := Int.eq_ofNat_of_zero_le h1
   obtain ⟨l, hl⟩ := qd (show n < m.classes.length by omega)
   refine zh tok mixed 30 rfl (fn := Tryz.f94) (c := Tryz.f94.body.getD .skip) (by kernel_rfl) (by kernel_rfl) (by kernel_rfl) rfl 0 rfl ?_
   rw [zgF (zhQ hl)]
   repeat' (first | (refine zi (k := n) (zg hl) (by omega) ?_) | refine o1 ?_ | refine o2 ?_ | refine k1 ?_ | refine k2 ?_ | refine k7 ?_ | refine And.intro ?_ ?_ | (intro h; first | exact Bool.noConfusion h | exact nz _ h | exact nl h | (simp at h; done) | (simp at h; first | (exfalso; omega) | skip) | skip) | (change zz _ _ _ _; refine zd rfl trivial ?_) | refine za ?_ | fail)
   all_goals first
    | (exfalso; omega)
    | (refine congrArg zm (zd7 ?_); simp; omega)
 · refine zh tok mixed 30 rfl (fn := Tryz.f94) (c := Tryz.f94.body.getD .skip) (by kernel_rfl) (by kernel_rfl) (by kernel_rfl) rfl 0 rfl ?_
   rw [zad (zme h)]
   repeat' (first | refine o1 ?_ | refine o2 ?_ | refine k1 ?_ | refine k2 ?_ | refine k7 ?_ | refine And.intro ?_ ?_ | (intro h; first | exact Bool.noConfusion h | exact nz _ h | exact nl h | (simp at h; done) | (simp at h; first | (exfalso; omega) | skip) | skip) | (change zz _ _ _ _; refine zd rfl trivial ?_) | refine za ?_ | fail)
   all_goals first
    | exact rfl
    | (exfalso; omega)
end Go.Proofs.YtihpjcmloecaaaaGreat.Cw
namespace Go.Proofs.YtihpjcmloecaaaaGreat.Cw
open Go.Cw Go.Proofs
set_option linter.unusedVariables false
set_option maxRecDepth 100000
set_option maxHeartbeats 800000
theorem zlG (l : List Opt) (f : FuncId) (caps : List PV) (p : Opt → Bool) (hl : l.length ≤ 100000) (hf : ∀ x ∈ l, zF Tryz.prog f (ag (Opt.row x) :: pvs caps) (fun r => r = zm (p x))) :
 zF Tryz.prog 97 [.pv (.sl 6 (l.map Opt.row)), .pv (.fn f caps)] (fun r => r = zf .i64 (zmw p l)) := by
 refine zh tok mixed 19 rfl (fn := Tryz.f97) (c := Tryz.f97.body.getD .skip) (by kernel_rfl) (by kernel_rfl) (by kernel_rfl) rfl 0 rfl ?_
 repeat' (first | refine o1 ?_ | refine o2 ?_ | refine k1 ?_ | refine k2 ?_ | refine k4 ?_ | refine za ?_ | fail)
 refine ql (fun i : Nat => [(8, zf .i64 i)]) (fun _ => []) (fun i => i ≤ l.length ∧ ∀ j, j < i → ∀ y, l[j]? = some y → p y = false) (fun i => l.length - i) 0 ⟨by omega, fun j hj => by omega⟩ (by repeat' (first | exact trivial | exact ⟨_, rfl, ALe.refl⟩ | refine And.intro ?_ ?_)) (by repeat' (first | exact trivial)) ?_
 intro i ⟨hi, hall⟩
 rcases Nat.lt_or_ge i l.length with hlt | hge
 · obtain ⟨x, hx⟩ := qd hlt
   have hm := List.mem_of_getElem? hx
   repeat' (first | refine o1 ?_ | refine o2 ?_ | refine k1 ?_ | refine k2 ?_ | refine k3 ?_ | refine k4 ?_ | refine k6 ?_ | refine k7 ?_ | refine And.intro ?_ ?_ | (intro h; first | exact Bool.noConfusion h | exact nz _ h | exact nl h | (simp at h; done) | (simp at h; first | (exfalso; omega) | skip) | skip) | (change zz _ _ _ _; refine zd rfl trivial ?_) | refine zc (by omega) (by omega) ?_ | refine ⟨_, _, (by first | rfl | assumption), zg (by assumption), ?_⟩ | (change zn _ _ (_ ++ pvs _) _ _; refine zbF rfl (by repeat' (first | trivial | refine And.intro ?_ ?_ | (show 0 + _ ≤ List.length _; simp))) (hf x hm) rfl ?_) | fail)
   all_goals first
    | exact ⟨i + 1, ⟨by omega, zu hall fun y hy => by rw [hx] at hy; cases hy; assumption⟩, by omega, zG [] rfl rfl trivial (by repeat' (first | exact trivial | exact rfl | refine And.intro ?_ ?_))⟩
    | exact congrArg (zf .i64) (zd8 hall hx (by assumption)).symm
 · repeat' (first | refine o1 ?_ | refine o2 ?_ | refine k1 ?_ | refine k2 ?_ | refine k3 ?_ | refine k7 ?_ | refine k8 ?_ | refine And.intro ?_ ?_ | (intro h; first | exact Bool.noConfusion h | exact nz _ h | exact nl h | (simp at h; done) | (simp at h; first | (exfalso; omega) | skip) | skip) | (change zz _ _ _ _; refine zd rfl trivial ?_) | fail)
   exact congrArg (zf .i64) (zdi fun j hj => hall j (by omega)).symm
theorem zkB (l : List Opt) (f : FuncId) (caps : List PV) (p : Opt → Bool) (hl : l.length ≤ 100000) (hf : ∀ x ∈ l, zF Tryz.prog f (ag (Opt.row x) :: pvs caps) (fun r => r = zm (p x))) :
 zF Tryz.prog 55 [.pv (.sl 6 (l.map Opt.row)), .pv (.fn f caps)] (fun r => r = zm (l.any p)) := by
 refine zh tok mixed 9 rfl (fn := Tryz.f55) (c := Tryz.f55.body.getD .skip) (by kernel_rfl) (by kernel_rfl) (by kernel_rfl) rfl 0 rfl ?_
 repeat' (first | refine o1 ?_ | refine o2 ?_ | refine k1 ?_ | refine k2 ?_ | refine k7 ?_ | (change zz _ _ _ _; refine zd rfl trivial ?_) | (change zn _ _ _ _ _; refine zA rfl (by repeat' (first | trivial | refine And.intro ?_ ?_ | (show 0 + _ ≤ List.length _; simp))) zT.refl (zlG l f caps p hl hf) rfl ?_) | fail)
 exact congrArg zm zeF
theorem zjf (l : List Count) (f : FuncId) (caps : List PV) (p : Count → Bool) (hl : l.length ≤ 100000) (hf : ∀ x ∈ l, zF Tryz.prog f (ag (Count.row x) :: pvs caps) (fun r => r = zm (p x))) :
 zF Tryz.prog 111 [.pv (.sl 4 (l.map Count.row)), .pv (.fn f caps)] (fun r => r = zf .i64 (zmw p l)) := by
 refine zh tok mixed 19 rfl (fn := Tryz.f111) (c := Tryz.f111.body.getD .skip) (by kernel_rfl) (by kernel_rfl) (by kernel_rfl) rfl 0 rfl ?_
 repeat' (first | refine o1 ?_ | refine o2 ?_ | refine k1 ?_ | refine k2 ?_ | refine k4 ?_ | refine za ?_ | fail)
 refine ql (fun i : Nat => [(8, zf .i64 i)]) (fun _ => []) (fun i => i ≤ l.length ∧ ∀ j, j < i → ∀ y, l[j]? = some y → p y = false) (fun i => l.length - i) 0 ⟨by omega, fun j hj => by omega⟩ (by repeat' (first | exact trivial | exact ⟨_, rfl, ALe.refl⟩ | refine And.intro ?_ ?_)) (by repeat' (first | exact trivial)) ?_
 intro i ⟨hi, hall⟩
 rcases Nat.lt_or_ge i l.length with hlt | hge
 · obtain ⟨x, hx⟩ := qd hlt
   have hm := List.mem_of_getElem? hx
   repeat' (first | refine o1 ?_ | refine o2 ?_ | refine k1 ?_ | refine k2 ?_ | refine k3 ?_ | refine k4 ?_ | refine k6 ?_ | refine k7 ?_ | refine And.intro ?_ ?_ | (intro h; first | exact Bool.noConfusion h | exact nz _ h | exact nl h | (simp at h; done) | (simp at h; first | (exfalso; omega) | skip) | skip) | (change zz _ _ _ _; refine zd rfl trivial ?_) | refine zc (by omega) (by omega) ?_ | refine ⟨_, _, (by first | rfl | assumption), zg (by assumption), ?_⟩ | (change zn _ _ (_ ++ pvs _) _ _; refine zbF rfl (by repeat' (first | trivial | refine And.intro ?_ ?_ | (show 0 + _ ≤ List.length _; simp))) (hf x hm) rfl ?_) | fail)
   all_goals first
    | exact ⟨i + 1, ⟨by omega, zu hall fun y hy => by rw [hx] at hy; cases hy; assumption⟩, by omega, zG [] rfl rfl trivial (by repeat' (first | exact trivial | exact rfl | refine And.intro ?_ ?_))⟩
    | exact congrArg (zf .i64) (zd8 hall hx (by assumption)).symm
 · repeat' (first | refine o1 ?_ | refine o2 ?_ | refine k1 ?_ | refine k2 ?_ | refine k3 ?_ | refine k7 ?_ | refine k8 ?_ | refine And.intro ?_ ?_ | (intro h; first | exact Bool.noConfusion h | exact nz _ h | exact nl h | (simp at h; done) | (simp at h; first | (exfalso; omega) | skip) | skip) | (change zz _ _ _ _; refine zd rfl trivial ?_) | fail)
   exact congrArg (zf .i64) (zdi fun j hj => hall j (by omega)).symm
theorem zlL (l : List Count) (f : FuncId) (caps : List PV) (p : Count → Bool) (hl : l.length ≤ 100000) (hf : ∀ x ∈ l, zF Tryz.prog f (ag (Count.row x) :: pvs caps) (fun r => r = zm (p x))) :
 zF Tryz.prog 78 [.pv (.sl 4 (l.map Count.row)), .pv (.fn f caps)] (fun r => r = zm (l.any p)) := by
 refine zh tok mixed 9 rfl (fn := Tryz.f78) (c := Tryz.f78.body.getD .skip) (by kernel_rfl) (by kernel_rfl) (by kernel_rfl) rfl 0 rfl ?_
 repeat' (first | refine o1 ?_ | refine o2 ?_ | refine k1 ?_ | refine k2 ?_ | refine k7 ?_ | (change zz _ _ _ _; refine zd rfl trivial ?_) | (change zn _ _ _ _ _; refine zA rfl (by repeat' (first | trivial | refine And.intro ?_ ?_ | (show 0 + _ ≤ List.length _; simp))) zT.refl (zjf l f caps p hl hf) rfl ?_) | fail)
 exact congrArg zm zeF
theorem zfB (l : List (List Opt)) (f : FuncId) (caps : List PV) (p : (List Opt) → Bool) (hl : l.length ≤ 100000) (hf : ∀ x ∈ l, zF Tryz.prog f (AV.pv (PV.sl 6 (List.map Opt.row x)) :: pvs caps) (fun r => r = zm (p x))) :
 zF Tryz.prog 53 [.pv (.sl 1 (l.map zx)), .pv (.fn f caps)] (fun r => r = zf .i64 (zmw p l)) := by
 refine zh tok mixed 19 rfl (fn := Tryz.f53) (c := Tryz.f53.body.getD .skip) (by kernel_rfl) (by kernel_rfl) (by kernel_rfl) rfl 0 rfl ?_
 repeat' (first | refine o1 ?_ | refine o2 ?_ | refine k1 ?_ | refine k2 ?_ | refine k4 ?_ | refine za ?_ | fail)
 refine ql (fun i : Nat => [(8, zf .i64 i)]) (fun _ => []) (fun i => i ≤ l.length ∧ ∀ j, j < i → ∀ y, l[j]? = some y → p y = false) (fun i => l.length - i) 0 ⟨by omega, fun j hj => by omega⟩ (by repeat' (first | exact trivial | exact ⟨_, rfl, ALe.refl⟩ | refine And.intro ?_ ?_)) (by repeat' (first | exact trivial)) ?_
 intro i ⟨hi, hall⟩
 rcases Nat.lt_or_ge i l.length with hlt | hge
 · obtain ⟨x, hx⟩ := qd hlt
   have hm := List.mem_of_getElem? hx
   repeat' (first | refine o1 ?_ | refine o2 ?_ | refine k1 ?_ | refine k2 ?_ | refine k3 ?_ | refine k4 ?_ | refine k6 ?_ | refine k7 ?_ | refine And.intro ?_ ?_ | (intro h; first | exact Bool.noConfusion h | exact nz _ h | exact nl h | (simp at h; done) | (simp at h; first | (exfalso; omega) | skip) | skip) | (change zz _ _ _ _; refine zd rfl trivial ?_) | refine zc (by omega) (by omega) ?_ | refine ⟨_, _, (by first | rfl | assumption), zg (by assumption), ?_⟩ | (change zn _ _ (_ ++ pvs _) _ _; refine zbF rfl (by repeat' (first | trivial | refine And.intro ?_ ?_ | (show 0 + _ ≤ List.length _; simp))) (hf x hm) rfl ?_) | fail)
   all_goals first
    | exact ⟨i + 1, ⟨by omega, zu hall fun y hy => by rw [hx] at hy; cases hy; assumption⟩, by omega, zG [] rfl rfl trivial (by repeat' (first | exact trivial | exact rfl | refine And.intro ?_ ?_))⟩
    | exact congrArg (zf .i64) (zd8 hall hx (by assumption)).symm
 · repeat' (first | refine o1 ?_ | refine o2 ?_ | refine k1 ?_ | refine k2 ?_ | refine k3 ?_ | refine k7 ?_ | refine k8 ?_ | refine And.intro ?_ ?_ | (intro h; first | exact Bool.noConfusion h | exact nz _ h | exact nl h | (simp at h; done) | (simp at h; first | (exfalso; omega) | skip) | skip) | (change zz _ _ _ _; refine zd rfl trivial ?_) | fail)
   exact congrArg (zf .i64) (zdi fun j hj => hall j (by omega)).symm
theorem znV (l : List (List Opt)) (f : FuncId) (caps : List PV) (p : (List Opt) → Bool) (hl : l.length ≤ 100000) (hf : ∀ x ∈ l, zF Tryz.prog f (AV.pv (PV.sl 6 (List.map Opt.row x)) :: pvs caps) (fun r => r = zm (p x))) :
 zF Tryz.prog 104 [.pv (.sl 1 (l.map zx)), .pv (.fn f caps)] (fun r => r = zm (l.any p)) := by
 refine zh tok mixed 9 rfl (fn := Tryz.f104) (c := Tryz.f104.body.getD .skip) (by kernel_rfl) (by kernel_rfl) (by kernel_rfl) rfl 0 rfl ?_
 repeat' (first | refine o1 ?_ | refine o2 ?_ | refine k1 ?_ | refine k2 ?_ | refine k7 ?_ | (change zz _ _ _ _; refine zd rfl trivial ?_) | (change zn _ _ _ _ _; refine zA rfl (by repeat' (first | trivial | refine And.intro ?_ ?_ | (show 0 + _ ≤ List.length _; simp))) zT.refl (zfB l f caps p hl hf) rfl ?_) | fail)
 exact congrArg zm zeF
theorem zlH (l : List Int) (f : FuncId) (caps : List PV) (p : Int → Bool) (hl : l.length ≤ 100000) (hf : ∀ x ∈ l, zF Tryz.prog f (zf .i64 x :: pvs caps) (fun r => r = zm (p x))) :
 zF Tryz.prog 120 [.pv (.sl 1 (l.map (fun n => [ei n]))), .pv (.fn f caps)] (fun r => r = zf .i64 (zmw p l)) := by
 refine zh tok mixed 19 rfl (fn := Tryz.f120) (c := Tryz.f120.body.getD .skip) (by kernel_rfl) (by kernel_rfl) (by kernel_rfl) rfl 0 rfl ?_
 repeat' (first | refine o1 ?_ | refine o2 ?_ | refine k1 ?_ | refine k2 ?_ | refine k4 ?_ | refine za ?_ | fail)
 refine ql (fun i : Nat => [(8, zf .i64 i)]) (fun _ => []) (fun i => i ≤ l.length ∧ ∀ j, j < i → ∀ y, l[j]? = some y → p y = false) (fun i => l.length - i) 0 ⟨by omega, fun j hj => by omega⟩ (by repeat' (first | exact trivial | exact ⟨_, rfl, ALe.refl⟩ | refine And.intro ?_ ?_)) (by repeat' (first | exact trivial)) ?_
 intro i ⟨hi, hall⟩
 rcases Nat.lt_or_ge i l.length with hlt | hge
 · obtain ⟨x, hx⟩ := qd hlt
   have hm := List.mem_of_getElem? hx
   repeat' (first | refine o1 ?_ | refine o2 ?_ | refine k1 ?_ | refine k2 ?_ | refine k3 ?_ | refine k4 ?_ | refine k6 ?_ | refine k7 ?_ | refine And.intro ?_ ?_ | (intro h; first | exact Bool.noConfusion h | exact nz _ h | exact nl h | (simp at h; done) | (simp at h; first | (exfalso; omega) | skip) | skip) | (change zz _ _ _ _; refine zd rfl trivial ?_) | refine zc (by omega) (by omega) ?_ | refine ⟨_, _, (by first | rfl | assumption), zg (by assumption), ?_⟩ | (change zn _ _ (_ ++ pvs _) _ _; refine zbF rfl (by repeat' (first | trivial | refine And.intro ?_ ?_ | (show 0 + _ ≤ List.length _; simp))) (hf x hm) rfl ?_) | fail)
   all_goals first
    | exact ⟨i + 1, ⟨by omega, zu hall fun y hy => by rw [hx] at hy; cases hy; assumption⟩, by omega, zG [] rfl rfl trivial (by repeat' (first | exact trivial | exact rfl | refine And.intro ?_ ?_))⟩
    | exact congrArg (zf .i64) (zd8 hall hx (by assumption)).symm
 · repeat' (first | refine o1 ?_ | refine o2 ?_ | refine k1 ?_ | refine k2 ?_ | refine k3 ?_ | refine k7 ?_ | refine k8 ?_ | refine And.intro ?_ ?_ | (intro h; first | exact Bool.noConfusion h | exact nz _ h | exact nl h | (simp at h; done) | (simp at h; first | (exfalso; omega) | skip) | skip) | (change zz _ _ _ _; refine zd rfl trivial ?_) | fail)
   exact congrArg (zf .i64) (zdi fun j hj => hall j (by omega)).symm
theorem zpU (l : List Int) (f : FuncId) (caps : List PV) (p : Int → Bool) (hl : l.length ≤ 100000) (hf : ∀ x ∈ l, zF Tryz.prog f (zf .i64 x :: pvs caps) (fun r => r = zm (p x))) :
 zF Tryz.prog 107 [.pv (.sl 1 (l.map (fun n => [ei n]))), .pv (.fn f caps)] (fun r => r = zm (l.any p)) := by
 refine zh tok mixed 9 rfl (fn := Tryz.f107) (c := Tryz.f107.body.getD .skip) (by kernel_rfl) (by kernel_rfl) (by kernel_rfl) rfl 0 rfl ?_
 repeat' (first | refine o1 ?_ | refine o2 ?_ | refine k1 ?_ | refine k2 ?_ | refine k7 ?_ | (change zz _ _ _ _; refine zd rfl trivial ?_) | (change zn _ _ _ _ _; refine zA rfl (by repeat' (first | trivial | refine And.intro ?_ ?_ | (show 0 + _ ≤ List.length _; simp))) zT.refl (zlH l f caps p hl hf) rfl ?_) | fail)
 exact congrArg zm zeF
theorem zg5 {m : Model} {l : List Charge} {c : Charge} (hc : l[0]? = some c) (h1 : zht m c.rule) (h2 : qy c.cost) : zcF m l 0 := fun c' h' => by
 rw [hc] at h'; cases h'
 exact ⟨h1, h2, fun k b e => by omega⟩
theorem zg6 {m : Model} {l : List Charge} {k : Nat} {c b : Charge} (hc : l[k + 1]? = some c) (hb : l[k]? = some b) (h1 : zht m c.rule) (h2 : qy c.cost) (h3 : b.rule < c.rule) : zcF m l (k + 1) := fun c' h' => by
 rw [hc] at h'; cases h'
 refine ⟨h1, h2, fun k' b' e hb' => ?_⟩
 obtain rfl : k = k' := by omega
 rw [hb] at hb'; cases hb'; exact h3
theorem zhJ {m : Model} (h : ∀ l ∈ m.classes, l.length ≤ 24) : qD m ↔ m.classes.length ≤ 24 ∧ m.pairs.length ≤ 4000 ∧ m.counts.length ≤ 800 ∧ 0 ≤ m.rules ∧ m.rules ≤ 56 :=
 ⟨fun ⟨a, _, b⟩ => ⟨a, b⟩, fun ⟨a, b⟩ => ⟨a, h, b⟩⟩
theorem zpT (m : Model) (o : Opt) (ho : o.charges.length ≤ 9223372036854775807) : zF Tryz.prog 75 [ag m.cells, ag o.row] (fun r => r = zm (pB (xz m o))) := by
 refine zh tok mixed 43 rfl (fn := Tryz.f75) (c := Tryz.f75.body.getD .skip) (by kernel_rfl) (by kernel_rfl) (by kernel_rfl) rfl 0 rfl ?_
 repeat' (first | refine o1 ?_ | refine o2 ?_ | refine k1 ?_ | refine k2 ?_ | refine k4 ?_ | refine za ?_ | fail)
 refine ql (fun i : Nat => [(10, zf .i64 i)]) (fun _ => []) (fun i => i ≤ o.charges.length ∧ ∀ j, j < i → zcF m o.charges j) (fun i => o.charges.length - i) 0 ⟨by omega, fun j hj => by omega⟩ (by repeat' (first | exact trivial | exact ⟨_, rfl, ALe.refl⟩ | refine And.intro ?_ ?_)) (by repeat' (first | exact trivial | exact rfl | refine And.intro ?_ ?_)) ?_
 intro i ⟨hi, hall⟩
 rcases Nat.lt_or_ge i o.charges.length with hlt | hge
 · obtain ⟨c, hc⟩ := qd hlt
   rcases i with _ | k
   · repeat' (first | refine o1 ?_ | refine o2 ?_ | refine k1 ?_ | refine k2 ?_ | refine k3 ?_ | refine k4 ?_ | refine k6 ?_ | refine k7 ?_ | refine k8 ?_ | refine And.intro ?_ ?_ | refine o3 ?_ | refine o4 ?_ | (intro h; first | exact Bool.noConfusion h | exact nz _ h | exact nl h | (simp at h; done) | (simp at h; first | (exfalso; omega) | skip) | skip) | (change zz _ _ _ _; refine zd rfl trivial ?_) | exact (by kernel_rfl : zl _ _ = true) | refine zc (by omega) (by omega) ?_ | refine ⟨_, _, (by first | rfl | assumption), zg (by assumption), ?_⟩ | (change zI _ _ _ _ _; refine zD rfl (by repeat' (first | trivial | refine And.intro ?_ ?_ | (show 0 + _ ≤ List.length _; simp))) zT.refl (zhd m c.rule) rfl ?_) | (change zI _ _ _ _ _; refine zD rfl (by repeat' (first | trivial | refine And.intro ?_ ?_ | (show 0 + _ ≤ List.length _; simp))) zT.refl (zm3 c.cost) rfl ?_) | fail)
     all_goals first
      | (exfalso; omega)
      | (refine congrArg zm (zad fun h => ?_).symm; obtain ⟨g1, g2, g3⟩ := h _ hlt c hc; first | exact absurd g1 (by assumption) | exact absurd g2 (by assumption))
      | exact ⟨1, ⟨by omega, zu hall (zg5 hc (by assumption) (by assumption))⟩, by omega, zG [0, 1] rfl rfl ⟨rfl, rfl, trivial⟩ (by repeat' (first | exact trivial | exact rfl | refine And.intro ?_ ?_))⟩
      | (exfalso; simp_all; done)
   · obtain ⟨b, hb⟩ := qd (show k < o.charges.length by omega)
     repeat' (first | (refine zi (k := k + 1) (zg hc) (by omega) ?_) | (refine zi (k := k) (zg hb) (by omega) ?_) | refine o1 ?_ | refine o2 ?_ | refine k1 ?_ | refine k2 ?_ | refine k3 ?_ | refine k4 ?_ | refine k6 ?_ | refine k7 ?_ | refine And.intro ?_ ?_ | refine o3 ?_ | refine o4 ?_ | (intro h; first | exact Bool.noConfusion h | exact nz _ h | exact nl h | (simp at h; done) | (simp at h; first | (exfalso; omega) | skip) | skip) | (change zz _ _ _ _; refine zd rfl trivial ?_) | exact (by kernel_rfl : zl _ _ = true) | refine zc (by omega) (by omega) ?_ | (change zI _ _ _ _ _; refine zD rfl (by repeat' (first | trivial | refine And.intro ?_ ?_ | (show 0 + _ ≤ List.length _; simp))) zT.refl (zhd m c.rule) rfl ?_) | (change zI _ _ _ _ _; refine zD rfl (by repeat' (first | trivial | refine And.intro ?_ ?_ | (show 0 + _ ≤ List.length _; simp))) zT.refl (zm3 c.cost) rfl ?_) | fail)
     all_goals first
      | (exfalso; omega)
      | (refine congrArg zm (zad fun h => ?_).symm; obtain ⟨g1, g2, g3⟩ := h _ hlt c hc; first | exact absurd g1 (by assumption) | exact absurd g2 (by assumption) | (have := g3 k b rfl hb; omega))
      | exact ⟨k + 2, ⟨by omega, zu hall (zg6 hc hb (by assumption) (by assumption) (by omega))⟩, by omega, zG [0, 1] rfl rfl ⟨rfl, rfl, trivial⟩ (by repeat' (first | exact trivial | exact rfl | refine And.intro ?_ ?_))⟩
 · repeat' (first | refine o1 ?_ | refine o2 ?_ | refine k1 ?_ | refine k2 ?_ | refine k3 ?_ | refine k7 ?_ | refine k8 ?_ | refine And.intro ?_ ?_ | (intro h; first | exact Bool.noConfusion h | exact nz _ h | exact nl h | (simp at h; done) | (simp at h; first | (exfalso; omega) | skip) | skip) | (change zz _ _ _ _; refine zd rfl trivial ?_) | fail)
   all_goals first
    | exact congrArg zm (zaM fun j hj => hall j (by omega)).symm
theorem c_many (l : List Opt) : zF Tryz.prog 103 [.pv (.sl 6 (l.map Opt.row))] (fun r => r = zm (decide (24 < l.length))) := by
 refine zh tok mixed 6 rfl (fn := Tryz.f103) (c := Tryz.f103.body.getD .skip) (by kernel_rfl) (by kernel_rfl) (by kernel_rfl) rfl 0 rfl ?_
 repeat' (first | refine o1 ?_ | refine o2 ?_ | refine k1 ?_ | refine k2 ?_ | refine k7 ?_ | (change zz _ _ _ _; refine zd rfl trivial ?_) | refine za ?_ | fail)
 all_goals (refine congrArg zm (decide_eq_decide.2 ?_); omega)
theorem zpF (m : Model) : zF Tryz.prog 73 [ag m.cells] (fun r => r = zm (pB (¬ qD m))) := by
 refine zh tok mixed 36 rfl (fn := Tryz.f73) (c := Tryz.f73.body.getD .skip) (by kernel_rfl) (by kernel_rfl) (by kernel_rfl) rfl 0 rfl ?_
 repeat' (first | refine o1 ?_ | refine o2 ?_ | refine k1 ?_ | refine k2 ?_ | refine k7 ?_ | refine And.intro ?_ ?_ | (intro h; first | exact Bool.noConfusion h | exact nz _ h | exact nl h | (simp at h; done) | (simp at h; first | (exfalso; omega) | skip) | skip) | (change zz _ _ _ _; refine zd rfl trivial ?_) | refine za ?_ | (change zn _ _ _ _ _; refine zA rfl (by repeat' (first | trivial | refine And.intro ?_ ?_ | (show 0 + _ ≤ List.length _; simp))) zT.refl (znV m.classes 103 [] (fun x => decide (24 < x.length)) (by omega) (fun x _ => c_many x)) rfl ?_) | fail)
 all_goals first
  | (refine congrArg zm (zd7 ?_); rw [zhJ (by assumption), decide_eq_true_iff]; omega)
  | (refine congrArg zm (zaM fun h => ?_).symm; obtain ⟨h1, h2, h3, h4, h5, h6⟩ := h; omega)
  | (refine congrArg zm (zaM fun h => ?_).symm; obtain ⟨x, hx, h7⟩ := (by assumption : ∃ x, x ∈ m.classes ∧ 24 < List.length x); have := h.2.1 x hx; omega)
theorem zpw (m : Model) (hm : Laid m) : zF Tryz.prog 62 [ag m.cells] (fun r => r = zm (pB (qD m))) := by
 have hn := hm.cn
 refine zh tok mixed 44 rfl (fn := Tryz.f62) (c := Tryz.f62.body.getD .skip) (by kernel_rfl) (by kernel_rfl) (by kernel_rfl) rfl 0 rfl ?_
 repeat' (first | refine o1 ?_ | refine o2 ?_ | refine k1 ?_ | refine k2 ?_ | refine k4 ?_ | fail)
 refine ql (fun i : Nat => [(3, zf .i64 i)]) (fun _ => []) (fun i => i ≤ m.classes.length ∧ ∀ j, j < i → ∀ l, m.classes[j]? = some l → l.length ≤ 24) (fun i => m.classes.length - i) 0 ⟨by omega, fun j hj => by omega⟩ (by repeat' (first | exact trivial | exact ⟨_, rfl, ALe.refl⟩ | refine And.intro ?_ ?_)) (by repeat' (first | exact trivial | exact rfl | refine And.intro ?_ ?_)) ?_
 intro i ⟨hi, hall⟩
 rcases Nat.lt_or_ge i m.classes.length with hlt | hge
 · obtain ⟨l, hl⟩ := qd hlt
   repeat' (first | refine o1 ?_ | refine o2 ?_ | refine k1 ?_ | refine k2 ?_ | refine k3 ?_ | refine k4 ?_ | refine k6 ?_ | refine k7 ?_ | refine And.intro ?_ ?_ | (intro h; first | exact Bool.noConfusion h | exact nz _ h | exact nl h | (simp at h; done) | (simp at h; first | (exfalso; omega) | skip) | skip) | (change zz _ _ _ _; refine zd rfl trivial ?_) | refine za ?_ | refine zc (by omega) (by omega) ?_ | refine ⟨_, _, (by first | rfl | assumption), zg (by assumption), ?_⟩ | fail)
   all_goals first
    | (refine congrArg zm (zad fun h => ?_).symm; have := h.2.1 l (List.mem_of_getElem? hl); omega)
    | exact ⟨i + 1, ⟨by omega, zu hall fun l' h' => by rw [hl] at h'; cases h'; omega⟩, by omega, zG [0] rfl rfl ⟨rfl, trivial⟩ (by repeat' (first | exact trivial | exact rfl | refine And.intro ?_ ?_))⟩
 · have hall2 : ∀ l ∈ m.classes, l.length ≤ 24 := fun l hl => by
  obtain ⟨j, hj⟩ := List.getElem?_of_mem hl
  exact hall j (by have := (List.getElem?_eq_some_iff.1 hj).1; omega) l hj
   repeat' (first | refine o1 ?_ | refine o2 ?_ | refine k1 ?_ | refine k2 ?_ | refine k3 ?_ | refine k7 ?_ | refine k8 ?_ | refine And.intro ?_ ?_ | (intro h; first | exact Bool.noConfusion h | exact nz _ h | exact nl h | (simp at h; done) | (simp at h; first | (exfalso; omega) | skip) | skip) | (change zz _ _ _ _; refine zd rfl trivial ?_) | refine za ?_ | fail)
   all_goals first
    | (refine congrArg zm (zd7 ?_); rw [zhJ hall2, decide_eq_true_iff]; omega)
    | (refine congrArg zm (zad fun h => ?_).symm; obtain ⟨h1, h2, h3, h4, h5, h6⟩ := h; omega)
end Go.Proofs.YtihpjcmloecaaaaGreat.Cw
namespace Go.Proofs.YtihpjcmloecaaaaGreat.Cw
open Go.Cw Go.Proofs
set_option linter.unusedVariables false
set_option maxRecDepth 100000
def zcD (a b : Int) : Int := if a < b then -1 else if a > b then 1 else 0
def orI : List Int → Int
 | [] => 0
 | x :: l => if x = 0 then orI l else x
theorem orI_at : ∀ {l : List Int} {i : Nat} {x : Int}, (∀ j, j < i → ∀ y, l[j]? = some y → y = 0) → l[i]? = some x → x ≠ 0 → orI l = x
 | [], i, x, _, h, _ => by simp at h
 | y :: l, 0, x, _, h, hx => by simp at h; subst h; simp [orI, hx]
 | y :: l, i + 1, x, h0, h, hx => by
   have := h0 0 (by omega) y rfl
   subst this
   simp only [orI, if_true]
   exact orI_at (i := i) (fun j hj z hz => h0 (j + 1) (by omega) z (by simpa using hz)) (by simpa using h) hx
theorem zmd : ∀ {l : List Int}, (∀ j, j < l.length → ∀ y, l[j]? = some y → y = 0) → orI l = 0
 | [], _ => rfl
 | y :: l, h0 => by
   have := h0 0 (by simp) y rfl
   subst this
   simp only [orI, if_true]
   exact zmd fun j hj z hz => h0 (j + 1) (by simpa using hj) z (by simpa using hz)
theorem c_isNaN (a : Int) : zF Tryz.prog 121 [zf .i64 a] (fun r => r = zm false) := by
 refine zh tok mixed 6 rfl (fn := Tryz.f121) (c := Tryz.f121.body.getD .skip) (by kernel_rfl) (by kernel_rfl) (by kernel_rfl) rfl 0 rfl ?_
 repeat' (first | refine o1 ?_ | refine o2 ?_ | refine k1 ?_ | refine k2 ?_ | refine k7 ?_ | (change zz _ _ _ _; refine zd rfl trivial ?_) | fail)
 exact congrArg zm (by simp)
theorem c_cmp (a b : Int) : zF Tryz.prog 110 [zf .i64 a, zf .i64 b] (fun r => r = zf .i64 (zcD a b)) := by
 refine zh tok mixed 20 rfl (fn := Tryz.f110) (c := Tryz.f110.body.getD .skip) (by kernel_rfl) (by kernel_rfl) (by kernel_rfl) rfl 0 rfl ?_
 repeat' (first | refine o1 ?_ | refine o2 ?_ | refine k1 ?_ | refine k2 ?_ | refine k3 ?_ | refine k6 ?_ | refine k7 ?_ | refine And.intro ?_ ?_ | (intro h; first | exact Bool.noConfusion h | exact nz _ h | exact nl h | (simp at h; done) | (simp at h; first | (exfalso; omega) | skip) | skip) | (change zz _ _ _ _; refine zd rfl trivial ?_) | (change zn _ _ _ _ _; refine zA rfl (by repeat' (first | trivial | refine And.intro ?_ ?_ | (show 0 + _ ≤ List.length _; simp))) zT.refl (c_isNaN _) rfl ?_) | fail)
 all_goals exact congrArg (zf .i64) (by unfold zcD; split <;> first | omega | (split <;> omega))
theorem c_or (l : List Int) (hl : l.length ≤ 1000) : zF Tryz.prog 109 [.pv (qN l)] (fun r => r = zf .i64 (orI l)) := by
 refine zh tok mixed 18 rfl (fn := Tryz.f109) (c := Tryz.f109.body.getD .skip) (by kernel_rfl) (by kernel_rfl) (by kernel_rfl) rfl 0 rfl ?_
 repeat' (first | refine o1 ?_ | refine o2 ?_ | refine k1 ?_ | refine k2 ?_ | refine k4 ?_ | refine za ?_ | fail)
 refine ql (fun i : Nat => [(8, zf .i64 i)]) (fun _ => []) (fun i => i ≤ l.length ∧ ∀ j, j < i → ∀ y, l[j]? = some y → y = 0) (fun i => l.length - i) 0 ⟨by omega, fun j hj => by omega⟩ (by repeat' (first | exact trivial | exact ⟨_, rfl, ALe.refl⟩ | refine And.intro ?_ ?_)) (by repeat' (first | exact trivial)) ?_
 intro i ⟨hi, hall⟩
 rcases Nat.lt_or_ge i l.length with hlt | hge
 · obtain ⟨x, hx⟩ := qd hlt
   repeat' (first | refine o1 ?_ | refine o2 ?_ | refine k1 ?_ | refine k2 ?_ | refine k3 ?_ | refine k4 ?_ | refine k6 ?_ | refine k7 ?_ | refine And.intro ?_ ?_ | (intro h; first | exact Bool.noConfusion h | exact nz _ h | exact nl h | (simp at h; done) | (simp at h; first | (exfalso; omega) | skip) | skip) | (change zz _ _ _ _; refine zd rfl trivial ?_) | refine zc (by omega) (by omega) ?_ | refine ⟨_, _, (by first | rfl | assumption), zg (by assumption), ?_⟩ | fail)
   all_goals first
    | exact ⟨i + 1, ⟨by omega, zu hall fun y hy => by rw [hx] at hy; cases hy; assumption⟩, by omega, zG [] rfl rfl trivial (by repeat' (first | exact trivial | exact rfl | refine And.intro ?_ ?_))⟩
    | exact congrArg (zf .i64) (orI_at hall hx (by assumption)).symm
 · repeat' (first | refine o1 ?_ | refine o2 ?_ | refine k1 ?_ | refine k2 ?_ | refine k3 ?_ | refine k7 ?_ | refine k8 ?_ | refine And.intro ?_ ?_ | (intro h; first | exact Bool.noConfusion h | exact nz _ h | exact nl h | (simp at h; done) | (simp at h; first | (exfalso; omega) | skip) | skip) | (change zz _ _ _ _; refine zd rfl trivial ?_) | fail)
   exact congrArg (zf .i64) (zmd fun j hj => hall j (by omega)).symm
end Go.Proofs.YtihpjcmloecaaaaGreat.Cw
namespace Go.Proofs.YtihpjcmloecaaaaGreat.Cw
open Go.Cw Go.Proofs
set_option linter.unusedVariables false
set_option maxRecDepth 100000
set_option maxHeartbeats 800000
theorem c_order (p q : Pair) : zF Tryz.prog 77 [ag p.row, ag q.row] (fun r => r = zf .i64 (orI [zcD p.rule q.rule, zcD p.first q.first, zcD p.second q.second])) := by
 refine zh tok mixed 22 rfl (fn := Tryz.f77) (c := Tryz.f77.body.getD .skip) (by kernel_rfl) (by kernel_rfl) (by kernel_rfl) rfl 0 rfl ?_
 repeat' (first | refine o1 ?_ | refine o2 ?_ | refine k1 ?_ | refine k2 ?_ | refine k7 ?_ | refine And.intro ?_ ?_ | refine o3 ?_ | refine o4 ?_ | (change zz _ _ _ _; refine zd rfl trivial ?_) | exact (by kernel_rfl : zl _ _ = true) | (change zI _ _ _ _ _; refine zD rfl (by repeat' (first | trivial | refine And.intro ?_ ?_ | (show 0 + _ ≤ List.length _; simp))) zT.refl (c_cmp _ _) rfl ?_) | (change zI _ _ _ _ _; refine zD rfl (by repeat' (first | trivial | refine And.intro ?_ ?_ | (show 0 + _ ≤ List.length _; simp))) zT.refl (c_or [zcD p.rule q.rule, zcD p.first q.first, zcD p.second q.second] (Nat.le_of_ble_eq_true rfl)) rfl ?_) | fail)
 all_goals exact rfl
theorem zmc {p q : Pair} : orI [zcD p.rule q.rule, zcD p.first q.first, zcD p.second q.second] < 0 ↔ zgC p q := by
 simp only [orI, zcD, zgC]
 grind
theorem zpB (n : Int) : zF Tryz.prog 108 [zf .i64 n] (fun r => r = zm (pB (n ≠ 0 ∧ ¬ qy n))) := by
 refine zh tok mixed 10 rfl (fn := Tryz.f108) (c := Tryz.f108.body.getD .skip) (by kernel_rfl) (by kernel_rfl) (by kernel_rfl) rfl 0 rfl ?_
 repeat' (first | refine o1 ?_ | refine o2 ?_ | refine k1 ?_ | refine k2 ?_ | refine k7 ?_ | refine And.intro ?_ ?_ | (intro h; first | exact Bool.noConfusion h | exact nz _ h | exact nl h | (simp at h; done) | (simp at h; first | (exfalso; omega) | skip) | skip) | (change zz _ _ _ _; refine zd rfl trivial ?_) | (change zn _ _ _ _ _; refine zA rfl (by repeat' (first | trivial | refine And.intro ?_ ?_ | (show 0 + _ ≤ List.length _; simp))) zT.refl (zm3 n) rfl ?_) | fail)
 all_goals first
  | exact congrArg zm (zad fun h => h.1 (by assumption)).symm
  | exact congrArg zm (zd7 (by simp_all))
theorem zor {t : List Int} : (!t.any fun n => pB (n ≠ 0 ∧ ¬ qy n)) = true ↔ ∀ x ∈ t, x = 0 ∨ qy x := by
 simp only [Bool.not_eq_true', List.any_eq_false, decide_eq_true_eq]
 constructor
 · intro h x hx
   have := h x hx
   by_cases h0 : x = 0
   · exact .inl h0
   · exact .inr (Classical.byContradiction fun h1 => this ⟨h0, h1⟩)
 · intro h x hx ⟨h0, h1⟩
   rcases h x hx with h2 | h2
   · exact h0 h2
   · exact h1 h2
theorem ziG {m : Model} {n k : Nat} {r : Int} {t : List Int} {a b : List Opt} (ha : m.classes[n]? = some a) (hb : m.classes[k]? = some b) (hnk : (n : Int) < k) : zhu m ⟨n, k, r, t⟩ ↔ zht m r ∧ t.length = a.length * b.length ∧ ∀ x ∈ t, x = 0 ∨ qy x := by
 unfold zhu
 simp only [Int.toNat_natCast, ha, hb]
 constructor
 · rintro ⟨h1, h2, h3, ⟨a', b', h4, h5, h6⟩, h7⟩
   cases h4; cases h5; exact ⟨h1, h6, h7⟩
 · rintro ⟨h1, h2, h3⟩
   exact ⟨h1, by omega, hnk, ⟨a, b, rfl, rfl, h2⟩, h3⟩
theorem zow {m : Model} {p : Pair} (h : ¬ (0 ≤ p.first ∧ p.first < p.second ∧ p.second < m.classes.length)) : ¬ zhu m p := fun ⟨h1, h2, h3, ⟨a, b, h4, h5, h6⟩, h7⟩ => by
 have := (List.getElem?_eq_some_iff.1 h5).1
 omega
theorem zmZ (m : Model) (p : Pair) (hz : qD m) : zF Tryz.prog 76 [ag m.cells, ag p.row] (fun r => r = zm (pB (zhu m p))) := by
 by_cases h : 0 ≤ p.first ∧ p.first < p.second ∧ p.second < m.classes.length
 · obtain ⟨h1, h2, h3⟩ := h
   obtain ⟨f, s, r, t⟩ := p
   dsimp only at h1 h2 h3 ⊢
   obtain ⟨n, rfl⟩ := Int.eq_ofNat_of_zero_le h1
   obtain ⟨k, rfl⟩ := Int.eq_ofNat_of_zero_le (show 0 ≤ s by omega)
   obtain ⟨a, ha⟩ := qd (show n < m.classes.length by omega)
   obtain ⟨b, hb⟩ := qd (show k < m.classes.length by omega)
   have hla := hz.2.1 a (List.mem_of_getElem? ha)
   have hlb := hz.2.1 b (List.mem_of_getElem? hb)
   have hab : a.length * b.length ≤ 576 := Nat.mul_le_mul hla hlb
   have hab1 : (a.length : Int) * b.length ≤ 576 := by exact_mod_cast hab
   have hab0 : (0 : Int) ≤ (a.length : Int) * b.length := by exact_mod_cast Nat.zero_le _
   have hcast : ((a.length * b.length : Nat) : Int) = (a.length : Int) * b.length := by simp
   refine zh tok mixed 55 rfl (fn := Tryz.f76) (c := Tryz.f76.body.getD .skip) (by kernel_rfl) (by kernel_rfl) (by kernel_rfl) rfl 0 rfl ?_
   rw [zgF (ziG ha hb h2)]
   repeat' (first | refine o1 ?_ | refine o2 ?_ | refine k1 ?_ | refine k2 ?_ | refine k3 ?_ | refine k6 ?_ | refine k7 ?_ | refine And.intro ?_ ?_ | refine o3 ?_ | refine o4 ?_ | (intro h; first | exact Bool.noConfusion h | exact nz _ h | exact nl h | (simp at h; done) | (simp at h; first | (exfalso; omega) | skip) | skip) | (change zz _ _ _ _; refine zd rfl trivial ?_) | exact (by kernel_rfl : zl _ _ = true) | refine za ?_ | refine zc (by omega) (by omega) ?_ | refine ⟨_, _, (by first | rfl | assumption), zg (by assumption), ?_⟩ | (change zI _ _ _ _ _; refine zD rfl (by repeat' (first | trivial | refine And.intro ?_ ?_ | (show 0 + _ ≤ List.length _; simp))) zT.refl (zhd m r) rfl ?_) | (change zn _ _ _ _ _; refine zA rfl (by repeat' (first | trivial | refine And.intro ?_ ?_ | (show 0 + _ ≤ List.length _; simp))) zT.refl (zpU t 108 [] (fun n => pB (n ≠ 0 ∧ ¬ qy n)) (by omega) (fun n _ => zpB n)) rfl ?_) | fail)
   all_goals first
    | (refine congrArg zm (zad fun h => ?_).symm; obtain ⟨g1, g2, g3⟩ := h; first | exact absurd g1 (by assumption) | omega)
    | (refine congrArg zm (zd7 ?_); rw [zor]; exact ⟨fun g => ⟨by assumption, by omega, g⟩, fun g => g.2.2⟩)
    | (exfalso; omega)
 · refine zh tok mixed 55 rfl (fn := Tryz.f76) (c := Tryz.f76.body.getD .skip) (by kernel_rfl) (by kernel_rfl) (by kernel_rfl) rfl 0 rfl ?_
   rw [zad (zow h)]
   repeat' (first | refine o1 ?_ | refine o2 ?_ | refine k1 ?_ | refine k2 ?_ | refine k3 ?_ | refine k7 ?_ | refine And.intro ?_ ?_ | refine o3 ?_ | refine o4 ?_ | (intro h; first | exact Bool.noConfusion h | exact nz _ h | exact nl h | (simp at h; done) | (simp at h; first | (exfalso; omega) | skip) | skip) | (change zz _ _ _ _; refine zd rfl trivial ?_) | exact (by kernel_rfl : zl _ _ = true) | refine za ?_ | (change zI _ _ _ _ _; refine zD rfl (by repeat' (first | trivial | refine And.intro ?_ ?_ | (show 0 + _ ≤ List.length _; simp))) zT.refl (zhd m p.rule) rfl ?_) | fail)
   all_goals first
    | exact rfl
    | (exfalso; omega)
theorem zgD {m : Model} {p : Pair} (hp : m.pairs[0]? = some p) : zb5 m 0 ↔ zhu m p :=
 ⟨fun h => (h p hp).1, fun h p' hp' => by rw [hp] at hp'; cases hp'; exact ⟨h, fun k q e => by omega⟩⟩
theorem zgE {m : Model} {k : Nat} {p q : Pair} (hp : m.pairs[k + 1]? = some p) (hq : m.pairs[k]? = some q) : zb5 m (k + 1) ↔ zhu m p ∧ zgC q p :=
 ⟨fun h => ⟨(h p hp).1, (h p hp).2 k q rfl hq⟩, fun h p' hp' => by
  rw [hp] at hp'; cases hp'
  refine ⟨h.1, fun k' q' e hq' => ?_⟩
  obtain rfl : k = k' := by omega
  rw [hq] at hq'; cases hq'; exact h.2⟩
theorem znQ (m : Model)  (p : Pair) (hz : qD m) (hp : m.pairs[0]? = some p) : zF Tryz.prog 65 [ag m.cells, zf .i64 ((0 : Nat) : Int)] (fun r => r = zm (pB (zb5 m 0))) := by
 have hpl := (List.getElem?_eq_some_iff.1 hp).1
 have hpn := hz.2.2.1
 rw [zgF (zgD hp)]
 by_cases hcase : 0 ≤ p.first ∧ p.first < p.second ∧ p.second < m.classes.length
 · obtain ⟨h1, h2, h3⟩ := hcase
   obtain ⟨f, s, r, t⟩ := p
   dsimp only at h1 h2 h3 ⊢
   obtain ⟨n, rfl⟩ := Int.eq_ofNat_of_zero_le h1
   obtain ⟨k, rfl⟩ := Int.eq_ofNat_of_zero_le (show 0 ≤ s by omega)
   obtain ⟨a, ha⟩ := qd (show n < m.classes.length by omega)
   obtain ⟨b, hb⟩ := qd (show k < m.classes.length by omega)
   have hla := hz.2.1 a (List.mem_of_getElem? ha)
   have hlb := hz.2.1 b (List.mem_of_getElem? hb)
   have hab : a.length * b.length ≤ 576 := Nat.mul_le_mul hla hlb
   have hab1 : (a.length : Int) * b.length ≤ 576 := by exact_mod_cast hab
   have hab0 : (0 : Int) ≤ (a.length : Int) * b.length := by exact_mod_cast Nat.zero_le _
   have hcast : ((a.length * b.length : Nat) : Int) = (a.length : Int) * b.length := by simp
   have hpi := ziG (r := r) (t := t) ha hb h2
   refine zh tok mixed 114 rfl (fn := Tryz.f65) (c := Tryz.f65.body.getD .skip) (by kernel_rfl) (by kernel_rfl) (by kernel_rfl) rfl 0 rfl ?_
   repeat' (first | (refine zi (k := 0) (zg hp) (by omega) ?_) | refine o1 ?_ | refine o2 ?_ | refine k1 ?_ | refine k2 ?_ | refine k3 ?_ | refine k4 ?_ | refine k6 ?_ | refine k7 ?_ | refine And.intro ?_ ?_ | refine o3 ?_ | refine o4 ?_ | (intro h; first | exact Bool.noConfusion h | exact nz _ h | exact nl h | (simp at h; done) | (simp at h; first | (exfalso; omega) | skip) | skip) | (change zz _ _ _ _; refine zd rfl trivial ?_) | exact (by kernel_rfl : zl _ _ = true) | refine za ?_ | refine zc (by omega) (by omega) ?_ | refine ⟨_, _, (by first | rfl | assumption), zg (by assumption), ?_⟩ | (change zI _ _ _ _ _; refine zD rfl (by repeat' (first | trivial | refine And.intro ?_ ?_ | (show 0 + _ ≤ List.length _; simp))) zT.refl (zcG m r) rfl ?_) | fail)
   all_goals first
    | (refine congrArg zm (zad fun h => ?_).symm; obtain ⟨g1, g2, g3⟩ := hpi.1 (by first | exact h | exact h.1); first | exact absurd g1 (by assumption) | omega)
    | (exfalso; omega)
    | skip
   have htl : t.length ≤ 576 := by omega
   refine ql (fun i : Nat => [(6, zf .i64 i)]) (fun _ => []) (fun i => i ≤ t.length ∧ ∀ j, j < i → ∀ x, t[j]? = some x → x = 0 ∨ qy x) (fun i => t.length - i) 0 ⟨by omega, fun j hj => by omega⟩ (by repeat' (first | exact trivial | exact ⟨_, rfl, ALe.refl⟩ | refine And.intro ?_ ?_)) (by repeat' (first | exact trivial | exact rfl | refine And.intro ?_ ?_)) ?_
   intro i ⟨hi, hall⟩
   rcases Nat.lt_or_ge i t.length with hlt | hge
   · obtain ⟨x, hx⟩ := qd hlt
     repeat' (first | (refine zi (k := i) (zg hx) (by omega) ?_) | refine o1 ?_ | refine o2 ?_ | refine k1 ?_ | refine k2 ?_ | refine k3 ?_ | refine k4 ?_ | refine k6 ?_ | refine k7 ?_ | refine And.intro ?_ ?_ | (intro h; first | exact Bool.noConfusion h | exact nz _ h | exact nl h | (simp at h; done) | (simp at h; first | (exfalso; omega) | skip) | skip) | (change zz _ _ _ _; refine zd rfl trivial ?_) | refine za ?_ | refine zc (by omega) (by omega) ?_ | (change zn _ _ _ _ _; refine zA rfl (by repeat' (first | trivial | refine And.intro ?_ ?_ | (show 0 + _ ≤ List.length _; simp))) zT.refl (zhc x) rfl ?_) | fail)
     all_goals first
      | (refine congrArg zm (zad fun h => ?_).symm; obtain ⟨g1, g2, g3⟩ := hpi.1 (by first | exact h | exact h.1); exact (g3 x (List.mem_of_getElem? hx)).elim (fun g => absurd g (by assumption)) (fun g => absurd g (by assumption)))
      | exact ⟨i + 1, ⟨by omega, zu hall fun x' h' => by rw [hx] at h'; cases h'; first | exact .inl (by omega) | exact .inr (by assumption)⟩, by omega, zG [0, 1] rfl rfl ⟨rfl, rfl, trivial⟩ (by repeat' (first | exact trivial | exact rfl | refine And.intro ?_ ?_))⟩
      | (exfalso; omega)
   · have hP := hpi.2 ⟨by assumption, by omega, fun x hx => by
    obtain ⟨j, hj⟩ := List.getElem?_of_mem hx
    exact hall j (by have := (List.getElem?_eq_some_iff.1 hj).1; omega) x hj⟩
     repeat' (first | refine o1 ?_ | refine o2 ?_ | refine k1 ?_ | refine k2 ?_ | refine k3 ?_ | refine k7 ?_ | refine k8 ?_ | refine And.intro ?_ ?_ | (intro h; first | exact Bool.noConfusion h | exact nz _ h | exact nl h | (simp at h; done) | (simp at h; first | (exfalso; omega) | skip) | skip) | (change zz _ _ _ _; refine zd rfl trivial ?_) | refine za ?_ | fail)
     all_goals first
      | exact congrArg zm (zaM hP).symm
      | (refine congrArg zm (zd7 ?_); rw [and_iff_right hP]; unfold zgC; dsimp only; simp only [decide_eq_true_eq]; omega)
      | (exfalso; omega)
 · refine zh tok mixed 114 rfl (fn := Tryz.f65) (c := Tryz.f65.body.getD .skip) (by kernel_rfl) (by kernel_rfl) (by kernel_rfl) rfl 0 rfl ?_
   repeat' (first | (refine zi (k := 0) (zg hp) (by omega) ?_) | refine o1 ?_ | refine o2 ?_ | refine k1 ?_ | refine k2 ?_ | refine k3 ?_ | refine k7 ?_ | refine And.intro ?_ ?_ | refine o3 ?_ | refine o4 ?_ | (intro h; first | exact Bool.noConfusion h | exact nz _ h | exact nl h | (simp at h; done) | (simp at h; first | (exfalso; omega) | skip) | skip) | (change zz _ _ _ _; refine zd rfl trivial ?_) | exact (by kernel_rfl : zl _ _ = true) | refine za ?_ | (change zI _ _ _ _ _; refine zD rfl (by repeat' (first | trivial | refine And.intro ?_ ?_ | (show 0 + _ ≤ List.length _; simp))) zT.refl (zcG m p.rule) rfl ?_) | fail)
   all_goals first
    | exact congrArg zm (zad fun h' => zow hcase (by first | exact h' | exact h'.1)).symm
    | (exfalso; omega)
theorem znP (m : Model) (k0 : Nat) (q : Pair) (hq : m.pairs[k0]? = some q) (p : Pair) (hz : qD m) (hp : m.pairs[(k0 + 1)]? = some p) : zF Tryz.prog 65 [ag m.cells, zf .i64 (((k0 + 1) : Nat) : Int)] (fun r => r = zm (pB (zb5 m (k0 + 1)))) := by
 have hpl := (List.getElem?_eq_some_iff.1 hp).1
 have hpn := hz.2.2.1
 rw [zgF (zgE hp hq)]
 by_cases hcase : 0 ≤ p.first ∧ p.first < p.second ∧ p.second < m.classes.length
 · obtain ⟨h1, h2, h3⟩ := hcase
   obtain ⟨f, s, r, t⟩ := p
   dsimp only at h1 h2 h3 ⊢
   obtain ⟨n, rfl⟩ := Int.eq_ofNat_of_zero_le h1
   obtain ⟨k, rfl⟩ := Int.eq_ofNat_of_zero_le (show 0 ≤ s by omega)
   obtain ⟨a, ha⟩ := qd (show n < m.classes.length by omega)
   obtain ⟨b, hb⟩ := qd (show k < m.classes.length by omega)
   have hla := hz.2.1 a (List.mem_of_getElem? ha)
   have hlb := hz.2.1 b (List.mem_of_getElem? hb)
   have hab : a.length * b.length ≤ 576 := Nat.mul_le_mul hla hlb
   have hab1 : (a.length : Int) * b.length ≤ 576 := by exact_mod_cast hab
   have hab0 : (0 : Int) ≤ (a.length : Int) * b.length := by exact_mod_cast Nat.zero_le _
   have hcast : ((a.length * b.length : Nat) : Int) = (a.length : Int) * b.length := by simp
   have hpi := ziG (r := r) (t := t) ha hb h2
   refine zh tok mixed 114 rfl (fn := Tryz.f65) (c := Tryz.f65.body.getD .skip) (by kernel_rfl) (by kernel_rfl) (by kernel_rfl) rfl 0 rfl ?_
   repeat' (first | (refine zi (k := (k0 + 1)) (zg hp) (by omega) ?_) | refine o1 ?_ | refine o2 ?_ | refine k1 ?_ | refine k2 ?_ | refine k3 ?_ | refine k4 ?_ | refine k6 ?_ | refine k7 ?_ | refine And.intro ?_ ?_ | refine o3 ?_ | refine o4 ?_ | (intro h; first | exact Bool.noConfusion h | exact nz _ h | exact nl h | (simp at h; done) | (simp at h; first | (exfalso; omega) | skip) | skip) | (change zz _ _ _ _; refine zd rfl trivial ?_) | exact (by kernel_rfl : zl _ _ = true) | refine za ?_ | refine zc (by omega) (by omega) ?_ | refine ⟨_, _, (by first | rfl | assumption), zg (by assumption), ?_⟩ | (change zI _ _ _ _ _; refine zD rfl (by repeat' (first | trivial | refine And.intro ?_ ?_ | (show 0 + _ ≤ List.length _; simp))) zT.refl (zcG m r) rfl ?_) | fail)
   all_goals first
    | (refine congrArg zm (zad fun h => ?_).symm; obtain ⟨g1, g2, g3⟩ := hpi.1 (by first | exact h | exact h.1); first | exact absurd g1 (by assumption) | omega)
    | (exfalso; omega)
    | skip
   have htl : t.length ≤ 576 := by omega
   refine ql (fun i : Nat => [(6, zf .i64 i)]) (fun _ => []) (fun i => i ≤ t.length ∧ ∀ j, j < i → ∀ x, t[j]? = some x → x = 0 ∨ qy x) (fun i => t.length - i) 0 ⟨by omega, fun j hj => by omega⟩ (by repeat' (first | exact trivial | exact ⟨_, rfl, ALe.refl⟩ | refine And.intro ?_ ?_)) (by repeat' (first | exact trivial | exact rfl | refine And.intro ?_ ?_)) ?_
   intro i ⟨hi, hall⟩
   rcases Nat.lt_or_ge i t.length with hlt | hge
   · obtain ⟨x, hx⟩ := qd hlt
     repeat' (first | (refine zi (k := i) (zg hx) (by omega) ?_) | refine o1 ?_ | refine o2 ?_ | refine k1 ?_ | refine k2 ?_ | refine k3 ?_ | refine k4 ?_ | refine k6 ?_ | refine k7 ?_ | refine And.intro ?_ ?_ | (intro h; first | exact Bool.noConfusion h | exact nz _ h | exact nl h | (simp at h; done) | (simp at h; first | (exfalso; omega) | skip) | skip) | (change zz _ _ _ _; refine zd rfl trivial ?_) | refine za ?_ | refine zc (by omega) (by omega) ?_ | (change zn _ _ _ _ _; refine zA rfl (by repeat' (first | trivial | refine And.intro ?_ ?_ | (show 0 + _ ≤ List.length _; simp))) zT.refl (zhc x) rfl ?_) | fail)
     all_goals first
      | (refine congrArg zm (zad fun h => ?_).symm; obtain ⟨g1, g2, g3⟩ := hpi.1 (by first | exact h | exact h.1); exact (g3 x (List.mem_of_getElem? hx)).elim (fun g => absurd g (by assumption)) (fun g => absurd g (by assumption)))
      | exact ⟨i + 1, ⟨by omega, zu hall fun x' h' => by rw [hx] at h'; cases h'; first | exact .inl (by omega) | exact .inr (by assumption)⟩, by omega, zG [0, 1] rfl rfl ⟨rfl, rfl, trivial⟩ (by repeat' (first | exact trivial | exact rfl | refine And.intro ?_ ?_))⟩
      | (exfalso; omega)
   · have hP := hpi.2 ⟨by assumption, by omega, fun x hx => by
    obtain ⟨j, hj⟩ := List.getElem?_of_mem hx
    exact hall j (by have := (List.getElem?_eq_some_iff.1 hj).1; omega) x hj⟩
     repeat' (first | (refine zi (k := k0) (zg hq) (by omega) ?_) | refine o1 ?_ | refine o2 ?_ | refine k1 ?_ | refine k2 ?_ | refine k3 ?_ | refine k6 ?_ | refine k7 ?_ | refine k8 ?_ | refine And.intro ?_ ?_ | (intro h; first | exact Bool.noConfusion h | exact nz _ h | exact nl h | (simp at h; done) | (simp at h; first | (exfalso; omega) | skip) | skip) | (change zz _ _ _ _; refine zd rfl trivial ?_) | exact (by kernel_rfl : zl _ _ = true) | refine za ?_ | refine zc (by omega) (by omega) ?_ | fail)
     all_goals first
      | exact congrArg zm (zaM hP).symm
      | (refine congrArg zm (zd7 ?_); rw [and_iff_right hP]; unfold zgC; dsimp only; simp only [decide_eq_true_eq]; omega)
      | (exfalso; omega)
 · refine zh tok mixed 114 rfl (fn := Tryz.f65) (c := Tryz.f65.body.getD .skip) (by kernel_rfl) (by kernel_rfl) (by kernel_rfl) rfl 0 rfl ?_
   repeat' (first | (refine zi (k := (k0 + 1)) (zg hp) (by omega) ?_) | refine o1 ?_ | refine o2 ?_ | refine k1 ?_ | refine k2 ?_ | refine k3 ?_ | refine k7 ?_ | refine And.intro ?_ ?_ | refine o3 ?_ | refine o4 ?_ | (intro h; first | exact Bool.noConfusion h | exact nz _ h | exact nl h | (simp at h; done) | (simp at h; first | (exfalso; omega) | skip) | skip) | (change zz _ _ _ _; refine zd rfl trivial ?_) | exact (by kernel_rfl : zl _ _ = true) | refine za ?_ | (change zI _ _ _ _ _; refine zD rfl (by repeat' (first | trivial | refine And.intro ?_ ?_ | (show 0 + _ ≤ List.length _; simp))) zT.refl (zcG m p.rule) rfl ?_) | fail)
   all_goals first
    | exact congrArg zm (zad fun h' => zow hcase (by first | exact h' | exact h'.1)).symm
    | (exfalso; omega)
end Go.Proofs.YtihpjcmloecaaaaGreat.Cw
namespace Go.Proofs.YtihpjcmloecaaaaGreat.Cw
open Go.Cw Go.Proofs
set_option linter.unusedVariables false
set_option maxRecDepth 100000
set_option maxHeartbeats 800000
def zfv (y x : Load) : Prop := y.cls < x.cls ∨ (y.cls = x.cls ∧ y.opt < x.opt)
theorem zjZ {m : Model} {l : List Load} {x : Load} (hx : l[0]? = some x) : loadAt m l 0 ↔ xQ m x.cls x.opt ∧ 1 ≤ x.weight ∧ x.weight ≤ 1000 :=
 ⟨fun h => ⟨(h x hx).1, (h x hx).2.1, (h x hx).2.2.1⟩, fun h x' h' => by rw [hx] at h'; cases h'; exact ⟨h.1, h.2.1, h.2.2, fun k y e => by omega⟩⟩
theorem zj0 {m : Model} {l : List Load} {k : Nat} {x y : Load} (hx : l[k + 1]? = some x) (hy : l[k]? = some y) : loadAt m l (k + 1) ↔ xQ m x.cls x.opt ∧ 1 ≤ x.weight ∧ x.weight ≤ 1000 ∧ zfv y x :=
 ⟨fun h => ⟨(h x hx).1, (h x hx).2.1, (h x hx).2.2.1, (h x hx).2.2.2 k y rfl hy⟩, fun h x' h' => by
  rw [hx] at h'; cases h'
  refine ⟨h.1, h.2.1, h.2.2.1, fun k' y' e hy' => ?_⟩
  obtain rfl : k = k' := by omega
  rw [hy] at hy'; cases hy'; exact h.2.2.2⟩
theorem ziS {y x : Load} : orI [zcD y.cls x.cls, zcD y.opt x.opt] < 0 ↔ zfv y x := by
 simp only [orI, zcD, zfv]
 grind
theorem zj1 {y x : Load} : 0 ≤ orI [zcD y.cls x.cls, zcD y.opt x.opt] ↔ ¬ zfv y x := by
 rw [← ziS]; omega
theorem zpM (m : Model) (c : Count) (hc : c.loads.length ≤ 9223372036854775807) : zF Tryz.prog 80 [ag m.cells, ag c.row] (fun r => r = zm (pB (zdo m c))) := by
 refine zh tok mixed 81 rfl (fn := Tryz.f80) (c := Tryz.f80.body.getD .skip) (by kernel_rfl) (by kernel_rfl) (by kernel_rfl) rfl 0 rfl ?_
 repeat' (first | refine o1 ?_ | refine o2 ?_ | refine k1 ?_ | refine k2 ?_ | refine k3 ?_ | refine k4 ?_ | refine k6 ?_ | refine k7 ?_ | refine And.intro ?_ ?_ | (intro h; first | exact Bool.noConfusion h | exact nz _ h | exact nl h | (simp at h; done) | (simp at h; first | (exfalso; omega) | skip) | skip) | (change zz _ _ _ _; refine zd rfl trivial ?_) | refine za ?_ | (change zn _ _ _ _ _; refine zA rfl (by repeat' (first | trivial | refine And.intro ?_ ?_ | (show 0 + _ ≤ List.length _; simp))) zT.refl (zhd m c.rule) rfl ?_) | (change zn _ _ _ _ _; refine zA rfl (by repeat' (first | trivial | refine And.intro ?_ ?_ | (show 0 + _ ≤ List.length _; simp))) zT.refl (zm3 c.penalty) rfl ?_) | fail)
 all_goals first
  | (refine congrArg zm (zad fun h => ?_).symm; obtain ⟨g1, g2, g3, g4, g5⟩ := h; first | exact absurd g1 (by assumption) | exact absurd g4 (by assumption) | omega)
  | skip
 refine ql (fun i : Nat => [(31, zf .i64 i)]) (fun _ => []) (fun i => i ≤ c.loads.length ∧ ∀ j, j < i → loadAt m c.loads j) (fun i => c.loads.length - i) 0 ⟨by omega, fun j hj => by omega⟩ (by repeat' (first | exact trivial | exact ⟨_, rfl, ALe.refl⟩ | refine And.intro ?_ ?_)) (by repeat' (first | exact trivial | exact rfl | refine And.intro ?_ ?_)) ?_
 intro i ⟨hi, hall⟩
 rcases Nat.lt_or_ge i c.loads.length with hlt | hge
 · obtain ⟨x, hx⟩ := qd hlt
   rcases i with _ | k
   · have hz := zjZ (m := m) hx
     repeat' (first | (refine zi (k := 0) (zg hx) (by omega) ?_) | refine o1 ?_ | refine o2 ?_ | refine k1 ?_ | refine k2 ?_ | refine k3 ?_ | refine k4 ?_ | refine k6 ?_ | refine k7 ?_ | refine k8 ?_ | refine And.intro ?_ ?_ | refine o3 ?_ | refine o4 ?_ | (intro h; first | exact Bool.noConfusion h | exact nz _ h | exact nl h | (simp at h; done) | (simp at h; first | (exfalso; omega) | skip) | skip) | (change zz _ _ _ _; refine zd rfl trivial ?_) | exact (by kernel_rfl : zl _ _ = true) | refine zc (by omega) (by omega) ?_ | (change zn _ _ _ _ _; refine zA rfl (by repeat' (first | trivial | refine And.intro ?_ ?_ | (show 0 + _ ≤ List.length _; simp))) zT.refl (zm0 m x.cls x.opt) rfl ?_) | fail)
     all_goals first
      | (refine congrArg zm (zad fun h => ?_).symm; obtain ⟨g1, g2, g3⟩ := hz.1 (h.2.2.2.2 _ hlt); first | exact absurd g1 (by assumption) | omega)
      | exact ⟨1, ⟨by omega, zu hall (hz.2 ⟨by assumption, by omega, by omega⟩)⟩, by omega, zG [0, 1] rfl rfl ⟨rfl, rfl, trivial⟩ (by repeat' (first | exact trivial | exact rfl | refine And.intro ?_ ?_))⟩
      | (exfalso; simp_all; done)
      | (exfalso; omega)
   · obtain ⟨y, hy⟩ := qd (show k < c.loads.length by omega)
     have hz := zj0 (m := m) hx hy
     repeat' (first | (refine zi (k := k + 1) (zg hx) (by omega) ?_) | (refine zi (k := k) (zg hy) (by omega) ?_) | refine o1 ?_ | refine o2 ?_ | refine k1 ?_ | refine k2 ?_ | refine k3 ?_ | refine k4 ?_ | refine k6 ?_ | refine k7 ?_ | refine And.intro ?_ ?_ | refine o3 ?_ | refine o4 ?_ | (intro h; first | exact Bool.noConfusion h | exact nz _ h | exact nl h | (simp at h; done) | (simp at h; first | (exfalso; omega) | skip) | skip) | (change zz _ _ _ _; refine zd rfl trivial ?_) | exact (by kernel_rfl : zl _ _ = true) | refine zc (by omega) (by omega) ?_ | (change zn _ _ _ _ _; refine zA rfl (by repeat' (first | trivial | refine And.intro ?_ ?_ | (show 0 + _ ≤ List.length _; simp))) zT.refl (zm0 m x.cls x.opt) rfl ?_) | (change zI _ _ _ _ _; refine zD rfl (by repeat' (first | trivial | refine And.intro ?_ ?_ | (show 0 + _ ≤ List.length _; simp))) zT.refl (c_cmp _ _) rfl ?_) | (change zI _ _ _ _ _; refine zD rfl (by repeat' (first | trivial | refine And.intro ?_ ?_ | (show 0 + _ ≤ List.length _; simp))) zT.refl (c_or [zcD y.cls x.cls, zcD y.opt x.opt] (Nat.le_of_ble_eq_true rfl)) rfl ?_) | fail)
     all_goals first
      | (refine congrArg zm (zad fun h => ?_).symm; obtain ⟨g1, g2, g3, g4⟩ := hz.1 (h.2.2.2.2 _ hlt); first | exact absurd g1 (by assumption) | omega | exact absurd g4 (zj1.1 (by assumption)) | (unfold zfv at g4; omega))
      | exact ⟨k + 2, ⟨by omega, zu hall (hz.2 ⟨by assumption, by omega, by omega, by first | exact ziS.1 (by omega) | (unfold zfv; omega)⟩)⟩, by omega, zG [0, 1] rfl rfl ⟨rfl, rfl, trivial⟩ (by repeat' (first | exact trivial | exact rfl | refine And.intro ?_ ?_))⟩
      | (exfalso; omega)
 · repeat' (first | refine o1 ?_ | refine o2 ?_ | refine k1 ?_ | refine k2 ?_ | refine k3 ?_ | refine k7 ?_ | refine k8 ?_ | refine And.intro ?_ ?_ | (intro h; first | exact Bool.noConfusion h | exact nz _ h | exact nl h | (simp at h; done) | (simp at h; first | (exfalso; omega) | skip) | skip) | (change zz _ _ _ _; refine zd rfl trivial ?_) | fail)
   all_goals first
    | exact congrArg zm (zaM ⟨by assumption, by omega, by omega, by assumption, fun j hj => hall j (by omega)⟩).symm
theorem znR (m : Model) (c : Count) (hc : c.loads.length ≤ 9223372036854775807) : zF Tryz.prog 66 [ag m.cells, ag c.row] (fun r => r = zm (pB (zdo m c))) := by
 refine zh tok mixed 85 rfl (fn := Tryz.f66) (c := Tryz.f66.body.getD .skip) (by kernel_rfl) (by kernel_rfl) (by kernel_rfl) rfl 0 rfl ?_
 repeat' (first | refine o1 ?_ | refine o2 ?_ | refine k1 ?_ | refine k2 ?_ | refine k3 ?_ | refine k4 ?_ | refine k6 ?_ | refine k7 ?_ | refine And.intro ?_ ?_ | (intro h; first | exact Bool.noConfusion h | exact nz _ h | exact nl h | (simp at h; done) | (simp at h; first | (exfalso; omega) | skip) | skip) | (change zz _ _ _ _; refine zd rfl trivial ?_) | (change zn _ _ _ _ _; refine zA rfl (by repeat' (first | trivial | refine And.intro ?_ ?_ | (show 0 + _ ≤ List.length _; simp))) zT.refl (zcG m c.rule) rfl ?_) | (change zn _ _ _ _ _; refine zA rfl (by repeat' (first | trivial | refine And.intro ?_ ?_ | (show 0 + _ ≤ List.length _; simp))) zT.refl (zhc c.penalty) rfl ?_) | fail)
 all_goals first
  | (refine congrArg zm (zad fun h => ?_).symm; obtain ⟨g1, g2, g3, g4, g5⟩ := h; first | exact absurd g1 (by assumption) | exact absurd g4 (by assumption) | omega)
  | skip
 refine ql (fun i : Nat => [(5, zf .i64 i)]) (fun _ => []) (fun i => i ≤ c.loads.length ∧ ∀ j, j < i → loadAt m c.loads j) (fun i => c.loads.length - i) 0 ⟨by omega, fun j hj => by omega⟩ (by repeat' (first | exact trivial | exact ⟨_, rfl, ALe.refl⟩ | refine And.intro ?_ ?_)) (by repeat' (first | exact trivial | exact rfl | refine And.intro ?_ ?_)) ?_
 intro i ⟨hi, hall⟩
 rcases Nat.lt_or_ge i c.loads.length with hlt | hge
 · obtain ⟨x, hx⟩ := qd hlt
   rcases i with _ | k
   · have hz := zjZ (m := m) hx
     repeat' (first | (refine zi (k := 0) (zg hx) (by omega) ?_) | refine o1 ?_ | refine o2 ?_ | refine k1 ?_ | refine k2 ?_ | refine k3 ?_ | refine k4 ?_ | refine k6 ?_ | refine k7 ?_ | refine k8 ?_ | refine And.intro ?_ ?_ | (intro h; first | exact Bool.noConfusion h | exact nz _ h | exact nl h | (simp at h; done) | (simp at h; first | (exfalso; omega) | skip) | skip) | (change zz _ _ _ _; refine zd rfl trivial ?_) | exact (by kernel_rfl : zl _ _ = true) | refine za ?_ | refine zc (by omega) (by omega) ?_ | (change zn _ _ _ _ _; refine zA rfl (by repeat' (first | trivial | refine And.intro ?_ ?_ | (show 0 + _ ≤ List.length _; simp))) zT.refl (zkw m x.cls x.opt) rfl ?_) | fail)
     all_goals first
      | (refine congrArg zm (zad fun h => ?_).symm; obtain ⟨g1, g2, g3⟩ := hz.1 (h.2.2.2.2 _ hlt); first | exact absurd g1 (by assumption) | omega)
      | exact ⟨1, ⟨by omega, zu hall (hz.2 ⟨by assumption, by omega, by omega⟩)⟩, by omega, zG [0, 1] rfl rfl ⟨rfl, rfl, trivial⟩ (by repeat' (first | exact trivial | exact rfl | refine And.intro ?_ ?_))⟩
      | (exfalso; simp_all; done)
      | (exfalso; omega)
   · obtain ⟨y, hy⟩ := qd (show k < c.loads.length by omega)
     have hz := zj0 (m := m) hx hy
     repeat' (first | (refine zi (k := k + 1) (zg hx) (by omega) ?_) | (refine zi (k := k) (zg hy) (by omega) ?_) | refine o1 ?_ | refine o2 ?_ | refine k1 ?_ | refine k2 ?_ | refine k3 ?_ | refine k4 ?_ | refine k6 ?_ | refine k7 ?_ | refine And.intro ?_ ?_ | (intro h; first | exact Bool.noConfusion h | exact nz _ h | exact nl h | (simp at h; done) | (simp at h; first | (exfalso; omega) | skip) | skip) | (change zz _ _ _ _; refine zd rfl trivial ?_) | exact (by kernel_rfl : zl _ _ = true) | refine za ?_ | refine zc (by omega) (by omega) ?_ | (change zn _ _ _ _ _; refine zA rfl (by repeat' (first | trivial | refine And.intro ?_ ?_ | (show 0 + _ ≤ List.length _; simp))) zT.refl (zkw m x.cls x.opt) rfl ?_) | fail)
     all_goals first
      | (refine congrArg zm (zad fun h => ?_).symm; obtain ⟨g1, g2, g3, g4⟩ := hz.1 (h.2.2.2.2 _ hlt); first | exact absurd g1 (by assumption) | omega | exact absurd g4 (zj1.1 (by assumption)) | (unfold zfv at g4; omega))
      | exact ⟨k + 2, ⟨by omega, zu hall (hz.2 ⟨by assumption, by omega, by omega, by first | exact ziS.1 (by omega) | (unfold zfv; omega)⟩)⟩, by omega, zG [0, 1] rfl rfl ⟨rfl, rfl, trivial⟩ (by repeat' (first | exact trivial | exact rfl | refine And.intro ?_ ?_))⟩
      | (exfalso; omega)
 · repeat' (first | refine o1 ?_ | refine o2 ?_ | refine k1 ?_ | refine k2 ?_ | refine k3 ?_ | refine k7 ?_ | refine k8 ?_ | refine And.intro ?_ ?_ | (intro h; first | exact Bool.noConfusion h | exact nz _ h | exact nl h | (simp at h; done) | (simp at h; first | (exfalso; omega) | skip) | skip) | (change zz _ _ _ _; refine zd rfl trivial ?_) | refine za ?_ | fail)
   all_goals first
    | exact congrArg zm (zaM ⟨by assumption, by omega, by omega, by assumption, fun j hj => hall j (by omega)⟩).symm
end Go.Proofs.YtihpjcmloecaaaaGreat.Cw
namespace Go.Proofs.YtihpjcmloecaaaaGreat.Cw
open Go.Cw Go.Proofs
set_option linter.unusedVariables false
set_option maxRecDepth 100000
set_option maxHeartbeats 1600000
theorem c_valid1 (m : Model) (o : Opt) (ho : o.charges.length ≤ 9223372036854775807) : zF Tryz.prog 74 [ag o.row, .pv (.ia m.cells)] (fun r => r = zm (pB (¬ xz m o))) := by
 refine zh tok mixed 8 rfl (fn := Tryz.f74) (c := Tryz.f74.body.getD .skip) (by kernel_rfl) (by kernel_rfl) (by kernel_rfl) rfl 0 rfl ?_
 repeat' (first | refine o1 ?_ | refine o2 ?_ | refine k1 ?_ | refine k2 ?_ | refine k7 ?_ | (change zz _ _ _ _; refine zd rfl trivial ?_) | (change zn _ _ _ _ _; refine zA rfl (by repeat' (first | trivial | refine And.intro ?_ ?_ | (show 0 + _ ≤ List.length _; simp))) zT.refl (zpT m o ho) rfl ?_) | fail)
 all_goals first
  | exact congrArg zm (zd7 (by simp))
theorem c_valid2 (m : Model) (c : Count) (hc : c.loads.length ≤ 9223372036854775807) : zF Tryz.prog 79 [ag c.row, .pv (.ia m.cells)] (fun r => r = zm (pB (¬ zdo m c))) := by
 refine zh tok mixed 8 rfl (fn := Tryz.f79) (c := Tryz.f79.body.getD .skip) (by kernel_rfl) (by kernel_rfl) (by kernel_rfl) rfl 0 rfl ?_
 repeat' (first | refine o1 ?_ | refine o2 ?_ | refine k1 ?_ | refine k2 ?_ | refine k7 ?_ | (change zz _ _ _ _; refine zd rfl trivial ?_) | (change zn _ _ _ _ _; refine zA rfl (by repeat' (first | trivial | refine And.intro ?_ ?_ | (show 0 + _ ≤ List.length _; simp))) zT.refl (zpM m c hc) rfl ?_) | fail)
 all_goals first
  | exact congrArg zm (zd7 (by simp))
theorem zp4 {α : Type} {l : List α} {p : α → Prop} {n : Nat} (hn : l.length ≤ n) (h : ∀ j, j < n → ∀ x, l[j]? = some x → p x) : ∀ x ∈ l, p x := fun x hx => by
 obtain ⟨j, hj⟩ := List.getElem?_of_mem hx
 exact h j (by have := (List.getElem?_eq_some_iff.1 hj).1; omega) x hj
theorem good_c {m : Model} (g : zdM m) {i : Nat} {l : List Opt} (hl : m.classes[i]? = some l) : ∀ o ∈ l, xz m o := g.1 l (List.mem_of_getElem? hl)
theorem zjd (m : Model) (hl : Laid m) : zF Tryz.prog 34 [ag m.cells] (fun r => r = zf .i64 (qo m)) := by
 by_cases hz : qD m
 · refine zh tok mixed 52 rfl (fn := Tryz.f34) (c := Tryz.f34.body.getD .skip) (by kernel_rfl) (by kernel_rfl) (by kernel_rfl) rfl 0 rfl ?_
   have hcn := hz.1
   have hpn := hz.2.2.1
   have hon := hz.2.2.2.1
   repeat' (first | refine o1 ?_ | refine o2 ?_ | refine k1 ?_ | refine k2 ?_ | refine k3 ?_ | refine k4 ?_ | refine k6 ?_ | refine k7 ?_ | refine And.intro ?_ ?_ | (intro h; first | exact Bool.noConfusion h | exact nz _ h | exact nl h | (simp at h; done) | (simp at h; first | (exfalso; omega) | skip) | skip) | (change zz _ _ _ _; refine zd rfl trivial ?_) | refine za ?_ | (change zn _ _ _ _ _; refine zA rfl (by repeat' (first | trivial | refine And.intro ?_ ?_ | (show 0 + _ ≤ List.length _; simp))) zT.refl (zpF m) rfl ?_) | fail)
   all_goals first
    | (exfalso; exact (by assumption : ¬ qD m) hz)
    | skip
   refine ql (fun i : Nat => [(12, zf .i64 i)]) (fun _ => []) (fun i => i ≤ m.classes.length ∧ ∀ j, j < i → ∀ l, m.classes[j]? = some l → ∀ o ∈ l, xz m o) (fun i => m.classes.length - i) 0 ⟨by omega, fun j hj => by omega⟩ (by repeat' (first | exact trivial | exact ⟨_, rfl, ALe.refl⟩ | refine And.intro ?_ ?_)) (by repeat' (first | exact trivial | exact rfl | refine And.intro ?_ ?_)) ?_
   intro i ⟨hi, hall⟩
   rcases Nat.lt_or_ge i m.classes.length with hlt | hge
   · obtain ⟨l, hl1⟩ := qd hlt
     have hll := hz.2.1 l (List.mem_of_getElem? hl1)
     repeat' (first | refine o1 ?_ | refine o2 ?_ | refine k1 ?_ | refine k2 ?_ | refine k3 ?_ | refine k4 ?_ | refine k6 ?_ | refine k7 ?_ | refine And.intro ?_ ?_ | (intro h; first | exact Bool.noConfusion h | exact nz _ h | exact nl h | (simp at h; done) | (simp at h; first | (exfalso; omega) | skip) | skip) | (change zz _ _ _ _; refine zd rfl trivial ?_) | refine zc (by omega) (by omega) ?_ | refine ⟨_, _, (by first | rfl | assumption), zg (by assumption), ?_⟩ | (change zn _ _ _ _ _; refine zA rfl (by repeat' (first | trivial | refine And.intro ?_ ?_ | (show 0 + _ ≤ List.length _; simp))) zT.refl (zkB l 74 [.ia m.cells] (fun o => pB (¬ xz m o)) (by omega) (fun o ho => c_valid1 m o (hl.ch l (List.mem_of_getElem? hl1) o ho))) rfl ?_) | fail)
     all_goals first
      | (refine congrArg (zf .i64) (mE1 hz fun g => ?_).symm; obtain ⟨o, ho, hno⟩ := (by assumption : ∃ x, x ∈ l ∧ ¬ xz m x); exact hno (good_c g hl1 o ho))
      | exact ⟨i + 1, ⟨by omega, zu hall fun l' h' => by rw [hl1] at h'; cases h'; assumption⟩, by omega, zG [0] rfl rfl ⟨rfl, trivial⟩ (by repeat' (first | exact trivial | exact rfl | refine And.intro ?_ ?_))⟩
   · have hch : ∀ l ∈ m.classes, ∀ o ∈ l, xz m o := fun l hl => by
    obtain ⟨j, hj⟩ := List.getElem?_of_mem hl
    exact hall j (by have := (List.getElem?_eq_some_iff.1 hj).1; omega) l hj
     repeat' (first | refine o1 ?_ | refine o2 ?_ | refine k1 ?_ | refine k2 ?_ | refine k3 ?_ | refine k4 ?_ | refine k8 ?_ | refine And.intro ?_ ?_ | (intro h; first | exact Bool.noConfusion h | exact nz _ h | exact nl h | (simp at h; done) | (simp at h; first | (exfalso; omega) | skip) | skip) | refine za ?_ | fail)
     refine ql (fun i : Nat => [(23, zf .i64 i)]) (fun _ => []) (fun i => i ≤ m.pairs.length ∧ ∀ j, j < i → zb5 m j) (fun i => m.pairs.length - i) 0 ⟨by omega, fun j hj => by omega⟩ (by repeat' (first | exact trivial | exact ⟨_, rfl, ALe.refl⟩ | refine And.intro ?_ ?_)) (by repeat' (first | exact trivial | exact rfl | refine And.intro ?_ ?_)) ?_
     intro i ⟨hi, hall2⟩
     rcases Nat.lt_or_ge i m.pairs.length with hlt | hge
     · obtain ⟨p, hp⟩ := qd hlt
       rcases i with _ | k
       · have hpz := zgD hp
         repeat' (first | (refine zi (k := 0) (zg hp) (by omega) ?_) | refine o1 ?_ | refine o2 ?_ | refine k1 ?_ | refine k2 ?_ | refine k3 ?_ | refine k4 ?_ | refine k6 ?_ | refine k7 ?_ | refine k8 ?_ | refine And.intro ?_ ?_ | refine o3 ?_ | refine o4 ?_ | (intro h; first | exact Bool.noConfusion h | exact nz _ h | exact nl h | (simp at h; done) | (simp at h; first | (exfalso; omega) | skip) | skip) | (change zz _ _ _ _; refine zd rfl trivial ?_) | exact (by kernel_rfl : zl _ _ = true) | refine zc (by omega) (by omega) ?_ | (change zI _ _ _ _ _; refine zD rfl (by repeat' (first | trivial | refine And.intro ?_ ?_ | (show 0 + _ ≤ List.length _; simp))) zT.refl (zmZ m p hz) rfl ?_) | fail)
         all_goals first
          | (refine congrArg (zf .i64) (mE1 hz fun g => ?_).symm; exact absurd (hpz.1 (g.2.1 _ hlt)) (by assumption))
          | exact ⟨1, ⟨by omega, zu hall2 (hpz.2 (by assumption))⟩, by omega, zG [0] rfl rfl ⟨rfl, trivial⟩ (by repeat' (first | exact trivial | exact rfl | refine And.intro ?_ ?_))⟩
          | (exfalso; simp_all; done)
       · obtain ⟨q, hq⟩ := qd (show k < m.pairs.length by omega)
         have hpz := zgE hp hq
         repeat' (first | (refine zi (k := k + 1) (zg hp) (by omega) ?_) | (refine zi (k := k) (zg hq) (by omega) ?_) | refine o1 ?_ | refine o2 ?_ | refine k1 ?_ | refine k2 ?_ | refine k3 ?_ | refine k4 ?_ | refine k6 ?_ | refine k7 ?_ | refine And.intro ?_ ?_ | refine o3 ?_ | refine o4 ?_ | (intro h; first | exact Bool.noConfusion h | exact nz _ h | exact nl h | (simp at h; done) | (simp at h; first | (exfalso; omega) | skip) | skip) | (change zz _ _ _ _; refine zd rfl trivial ?_) | exact (by kernel_rfl : zl _ _ = true) | refine zc (by omega) (by omega) ?_ | (change zI _ _ _ _ _; refine zD rfl (by repeat' (first | trivial | refine And.intro ?_ ?_ | (show 0 + _ ≤ List.length _; simp))) zT.refl (zmZ m p hz) rfl ?_) | (change zI _ _ _ _ _; refine zD rfl (by repeat' (first | trivial | refine And.intro ?_ ?_ | (show 0 + _ ≤ List.length _; simp))) zT.refl (c_order q p) rfl ?_) | fail)
         all_goals first
          | (refine congrArg (zf .i64) (mE1 hz fun g => ?_).symm; have g1 := hpz.1 (g.2.1 _ hlt); first | exact absurd g1.1 (by assumption) | (have := zmc.2 g1.2; omega))
          | exact ⟨k + 2, ⟨by omega, zu hall2 (hpz.2 ⟨by assumption, zmc.1 (by omega)⟩)⟩, by omega, zG [0] rfl rfl ⟨rfl, trivial⟩ (by repeat' (first | exact trivial | exact rfl | refine And.intro ?_ ?_))⟩
     · have hpa : ∀ i, i < m.pairs.length → zb5 m i := fun j hj => hall2 j (by omega)
       repeat' (first | refine o1 ?_ | refine o2 ?_ | refine k1 ?_ | refine k2 ?_ | refine k3 ?_ | refine k6 ?_ | refine k7 ?_ | refine k8 ?_ | refine And.intro ?_ ?_ | (intro h; first | exact Bool.noConfusion h | exact nz _ h | exact nl h | (simp at h; done) | (simp at h; first | (exfalso; omega) | skip) | skip) | (change zz _ _ _ _; refine zd rfl trivial ?_) | (change zn _ _ _ _ _; refine zA rfl (by repeat' (first | trivial | refine And.intro ?_ ?_ | (show 0 + _ ≤ List.length _; simp))) zT.refl (zlL m.counts 79 [.ia m.cells] (fun c => pB (¬ zdo m c)) (by omega) (fun c hc => c_valid2 m c (hl.ld c hc))) rfl ?_) | fail)
       all_goals first
        | (refine congrArg (zf .i64) (mE1 hz fun g => ?_).symm; obtain ⟨c, hc, hno⟩ := (by assumption : ∃ x, x ∈ m.counts ∧ ¬ zdo m x); exact hno (g.2.2 c hc))
        | exact congrArg (zf .i64) (mE0 hz ⟨hch, hpa, by assumption⟩).symm
 · refine zh tok mixed 52 rfl (fn := Tryz.f34) (c := Tryz.f34.body.getD .skip) (by kernel_rfl) (by kernel_rfl) (by kernel_rfl) rfl 0 rfl ?_
   repeat' (first | refine o1 ?_ | refine o2 ?_ | refine k1 ?_ | refine k2 ?_ | refine k3 ?_ | refine k4 ?_ | refine k6 ?_ | refine k7 ?_ | refine And.intro ?_ ?_ | (intro h; first | exact Bool.noConfusion h | exact nz _ h | exact nl h | (simp at h; done) | (simp at h; first | (exfalso; omega) | skip) | skip) | (change zz _ _ _ _; refine zd rfl trivial ?_) | refine za ?_ | (change zn _ _ _ _ _; refine zA rfl (by repeat' (first | trivial | refine And.intro ?_ ?_ | (show 0 + _ ≤ List.length _; simp))) zT.refl (zpF m) rfl ?_) | fail)
   all_goals first
    | exact congrArg (zf .i64) (mE2 hz).symm
    | (exfalso; exact hz (by assumption))
theorem zje (m : Model) (hl : Laid m) : zF Tryz.prog 26 [ag m.cells] (fun r => r = zf .i64 (qo m)) := by
 by_cases hz : qD m
 · refine zh tok mixed 105 rfl (fn := Tryz.f26) (c := Tryz.f26.body.getD .skip) (by kernel_rfl) (by kernel_rfl) (by kernel_rfl) rfl 0 rfl ?_
   have hcn := hz.1
   have hpn := hz.2.2.1
   have hon := hz.2.2.2.1
   repeat' (first | refine o1 ?_ | refine o2 ?_ | refine k1 ?_ | refine k2 ?_ | refine k3 ?_ | refine k4 ?_ | refine k6 ?_ | refine k7 ?_ | refine And.intro ?_ ?_ | (intro h; first | exact Bool.noConfusion h | exact nz _ h | exact nl h | (simp at h; done) | (simp at h; first | (exfalso; omega) | skip) | skip) | (change zz _ _ _ _; refine zd rfl trivial ?_) | (change zn _ _ _ _ _; refine zA rfl (by repeat' (first | trivial | refine And.intro ?_ ?_ | (show 0 + _ ≤ List.length _; simp))) zT.refl (zpw m hl) rfl ?_) | fail)
   all_goals first
    | (exfalso; exact (by assumption : ¬ qD m) hz)
    | skip
   refine ql (fun i : Nat => [(3, zf .i64 i)]) (fun _ => []) (fun i => i ≤ m.classes.length ∧ ∀ j, j < i → ∀ l, m.classes[j]? = some l → ∀ o ∈ l, xz m o) (fun i => m.classes.length - i) 0 ⟨by omega, fun j hj => by omega⟩ (by repeat' (first | exact trivial | exact ⟨_, rfl, ALe.refl⟩ | refine And.intro ?_ ?_)) (by repeat' (first | exact trivial | exact rfl | refine And.intro ?_ ?_)) ?_
   intro i ⟨hi, hall⟩
   rcases Nat.lt_or_ge i m.classes.length with hlt | hge
   · obtain ⟨l, hl1⟩ := qd hlt
     have hll := hz.2.1 l (List.mem_of_getElem? hl1)
     have hmem := List.mem_of_getElem? hl1
     repeat' (first | refine o1 ?_ | refine o2 ?_ | refine k1 ?_ | refine k2 ?_ | refine k3 ?_ | refine k4 ?_ | refine k6 ?_ | refine And.intro ?_ ?_ | (intro h; first | exact Bool.noConfusion h | exact nz _ h | exact nl h | (simp at h; done) | (simp at h; first | (exfalso; omega) | skip) | skip) | refine za ?_ | fail)
     refine ql (fun i : Nat => [(4, zf .i64 i)]) (fun _ => []) (fun i => i ≤ l.length ∧ ∀ j, j < i → ∀ o, l[j]? = some o → xz m o) (fun i => l.length - i) 0 ⟨by omega, fun j hj => by omega⟩ (by repeat' (first | exact trivial | exact ⟨_, rfl, ALe.refl⟩ | refine And.intro ?_ ?_)) (by repeat' (first | exact trivial | exact rfl | refine And.intro ?_ ?_)) ?_
     intro k ⟨hk, hallk⟩
     rcases Nat.lt_or_ge k l.length with hkl | hkg
     · obtain ⟨o, ho⟩ := qd hkl
       have hcl := hl.ch l hmem o (List.mem_of_getElem? ho)
       repeat' (first | (refine zi (k := i) (zg hl1) (by omega) ?_) | (refine zi (k := k) (zg ho) (by omega) ?_) | refine o1 ?_ | refine o2 ?_ | refine k1 ?_ | refine k2 ?_ | refine k3 ?_ | refine k4 ?_ | refine k6 ?_ | refine And.intro ?_ ?_ | (intro h; first | exact Bool.noConfusion h | exact nz _ h | exact nl h | (simp at h; done) | (simp at h; first | (exfalso; omega) | skip) | skip) | refine za ?_ | fail)
       refine ql (fun i : Nat => [(6, zf .i64 i)]) (fun _ => []) (fun i => i ≤ o.charges.length ∧ ∀ j, j < i → zcF m o.charges j) (fun i => o.charges.length - i) 0 ⟨by omega, fun j hj => by omega⟩ (by repeat' (first | exact trivial | exact ⟨_, rfl, ALe.refl⟩ | refine And.intro ?_ ?_)) (by repeat' (first | exact trivial | exact rfl | refine And.intro ?_ ?_)) ?_
       intro n ⟨hn, halln⟩
       rcases Nat.lt_or_ge n o.charges.length with hnl | hng
       · obtain ⟨c, hc⟩ := qd hnl
         have hgood : zdM m → zcF m o.charges n := fun g => good_c g hl1 o (List.mem_of_getElem? ho) n hnl
         rcases n with _ | n
         · repeat' (first | (refine zi (k := 0) (zg hc) (by omega) ?_) | refine o1 ?_ | refine o2 ?_ | refine k1 ?_ | refine k2 ?_ | refine k3 ?_ | refine k4 ?_ | refine k6 ?_ | refine k7 ?_ | refine k8 ?_ | refine And.intro ?_ ?_ | refine o3 ?_ | refine o4 ?_ | (intro h; first | exact Bool.noConfusion h | exact nz _ h | exact nl h | (simp at h; done) | (simp at h; first | (exfalso; omega) | skip) | skip) | (change zz _ _ _ _; refine zd rfl trivial ?_) | exact (by kernel_rfl : zl _ _ = true) | refine za ?_ | refine zc (by omega) (by omega) ?_ | (change zI _ _ _ _ _; refine zD rfl (by repeat' (first | trivial | refine And.intro ?_ ?_ | (show 0 + _ ≤ List.length _; simp))) zT.refl (zcG m c.rule) rfl ?_) | (change zI _ _ _ _ _; refine zD rfl (by repeat' (first | trivial | refine And.intro ?_ ?_ | (show 0 + _ ≤ List.length _; simp))) zT.refl (zhc c.cost) rfl ?_) | fail)
           all_goals first
            | (refine congrArg (zf .i64) (mE1 hz fun g => ?_).symm; obtain ⟨g1, g2, g3⟩ := hgood g c hc; first | exact absurd g1 (by assumption) | exact absurd g2 (by assumption))
            | exact ⟨1, ⟨by omega, zu halln (zg5 hc (by assumption) (by assumption))⟩, by omega, zG [0] rfl rfl ⟨rfl, trivial⟩ (by repeat' (first | exact trivial | exact rfl | refine And.intro ?_ ?_))⟩
            | (exfalso; simp_all; done)
         · obtain ⟨b, hb⟩ := qd (show n < o.charges.length by omega)
           repeat' (first | (refine zi (k := n + 1) (zg hc) (by omega) ?_) | (refine zi (k := n) (zg hb) (by omega) ?_) | refine o1 ?_ | refine o2 ?_ | refine k1 ?_ | refine k2 ?_ | refine k3 ?_ | refine k4 ?_ | refine k6 ?_ | refine k7 ?_ | refine And.intro ?_ ?_ | refine o3 ?_ | refine o4 ?_ | (intro h; first | exact Bool.noConfusion h | exact nz _ h | exact nl h | (simp at h; done) | (simp at h; first | (exfalso; omega) | skip) | skip) | (change zz _ _ _ _; refine zd rfl trivial ?_) | exact (by kernel_rfl : zl _ _ = true) | refine za ?_ | refine zc (by omega) (by omega) ?_ | (change zI _ _ _ _ _; refine zD rfl (by repeat' (first | trivial | refine And.intro ?_ ?_ | (show 0 + _ ≤ List.length _; simp))) zT.refl (zcG m c.rule) rfl ?_) | (change zI _ _ _ _ _; refine zD rfl (by repeat' (first | trivial | refine And.intro ?_ ?_ | (show 0 + _ ≤ List.length _; simp))) zT.refl (zhc c.cost) rfl ?_) | fail)
           all_goals first
            | (refine congrArg (zf .i64) (mE1 hz fun g => ?_).symm; obtain ⟨g1, g2, g3⟩ := hgood g c hc; first | exact absurd g1 (by assumption) | exact absurd g2 (by assumption) | (have := g3 n b rfl hb; omega))
            | exact ⟨n + 2, ⟨by omega, zu halln (zg6 hc hb (by assumption) (by assumption) (by omega))⟩, by omega, zG [0] rfl rfl ⟨rfl, trivial⟩ (by repeat' (first | exact trivial | exact rfl | refine And.intro ?_ ?_))⟩
       · repeat' (first | refine o1 ?_ | refine o2 ?_ | refine k1 ?_ | refine k2 ?_ | refine k3 ?_ | refine k8 ?_ | refine And.intro ?_ ?_ | (intro h; first | exact Bool.noConfusion h | exact nz _ h | exact nl h | (simp at h; done) | (simp at h; first | (exfalso; omega) | skip) | skip) | refine za ?_ | refine zc (by omega) (by omega) ?_ | fail)
         all_goals first
          | exact ⟨k + 1, ⟨by omega, zu hallk fun o' h' => by rw [ho] at h'; cases h'; exact fun j hj => halln j (by omega)⟩, by omega, zG [0] rfl rfl ⟨rfl, trivial⟩ (by repeat' (first | exact trivial | exact rfl | refine And.intro ?_ ?_))⟩
     · repeat' (first | refine o1 ?_ | refine o2 ?_ | refine k1 ?_ | refine k2 ?_ | refine k3 ?_ | refine k8 ?_ | refine And.intro ?_ ?_ | (intro h; first | exact Bool.noConfusion h | exact nz _ h | exact nl h | (simp at h; done) | (simp at h; first | (exfalso; omega) | skip) | skip) | refine za ?_ | refine zc (by omega) (by omega) ?_ | refine ⟨_, _, (by first | rfl | assumption), zg (by assumption), ?_⟩ | fail)
       all_goals first
        | exact ⟨i + 1, ⟨by omega, zu hall fun l' h' => by rw [hl1] at h'; cases h'; exact zp4 hkg hallk⟩, by omega, zG [0] rfl rfl ⟨rfl, trivial⟩ (by repeat' (first | exact trivial | exact rfl | refine And.intro ?_ ?_))⟩
   · have hch : ∀ l ∈ m.classes, ∀ o ∈ l, xz m o := fun l hl => by
    obtain ⟨j, hj⟩ := List.getElem?_of_mem hl
    exact hall j (by have := (List.getElem?_eq_some_iff.1 hj).1; omega) l hj
     repeat' (first | refine o1 ?_ | refine o2 ?_ | refine k1 ?_ | refine k2 ?_ | refine k3 ?_ | refine k4 ?_ | refine k8 ?_ | refine And.intro ?_ ?_ | (intro h; first | exact Bool.noConfusion h | exact nz _ h | exact nl h | (simp at h; done) | (simp at h; first | (exfalso; omega) | skip) | skip) | refine za ?_ | fail)
     refine ql (fun i : Nat => [(7, zf .i64 i)]) (fun _ => []) (fun i => i ≤ m.pairs.length ∧ ∀ j, j < i → zb5 m j) (fun i => m.pairs.length - i) 0 ⟨by omega, fun j hj => by omega⟩ (by repeat' (first | exact trivial | exact ⟨_, rfl, ALe.refl⟩ | refine And.intro ?_ ?_)) (by repeat' (first | exact trivial | exact rfl | refine And.intro ?_ ?_)) ?_
     intro i ⟨hi, hall2⟩
     rcases Nat.lt_or_ge i m.pairs.length with hlt | hge
     · obtain ⟨p, hp⟩ := qd hlt
       rcases i with _ | k
       · repeat' (first | refine o1 ?_ | refine o2 ?_ | refine k1 ?_ | refine k2 ?_ | refine k3 ?_ | refine k4 ?_ | refine k6 ?_ | refine k7 ?_ | refine k8 ?_ | refine And.intro ?_ ?_ | (intro h; first | exact Bool.noConfusion h | exact nz _ h | exact nl h | (simp at h; done) | (simp at h; first | (exfalso; omega) | skip) | skip) | (change zz _ _ _ _; refine zd rfl trivial ?_) | refine za ?_ | refine zc (by omega) (by omega) ?_ | (change zn _ _ _ _ _; refine zA rfl (by repeat' (first | trivial | refine And.intro ?_ ?_ | (show 0 + _ ≤ List.length _; simp))) zT.refl (znQ m p hz hp) rfl ?_) | fail)
         all_goals first
          | (refine congrArg (zf .i64) (mE1 hz fun g => ?_).symm; exact absurd (g.2.1 _ hlt) (by assumption))
          | exact ⟨1, ⟨by omega, zu hall2 (by assumption)⟩, by omega, zG [0] rfl rfl ⟨rfl, trivial⟩ (by repeat' (first | exact trivial | exact rfl | refine And.intro ?_ ?_))⟩
          | (exfalso; simp_all; done)
       · obtain ⟨q, hq⟩ := qd (show k < m.pairs.length by omega)
         repeat' (first | refine o1 ?_ | refine o2 ?_ | refine k1 ?_ | refine k2 ?_ | refine k3 ?_ | refine k4 ?_ | refine k6 ?_ | refine k7 ?_ | refine And.intro ?_ ?_ | (intro h; first | exact Bool.noConfusion h | exact nz _ h | exact nl h | (simp at h; done) | (simp at h; first | (exfalso; omega) | skip) | skip) | (change zz _ _ _ _; refine zd rfl trivial ?_) | refine za ?_ | refine zc (by omega) (by omega) ?_ | (change zn _ _ _ _ _; refine zA rfl (by repeat' (first | trivial | refine And.intro ?_ ?_ | (show 0 + _ ≤ List.length _; simp))) zT.refl (znP m k q hq p hz hp) rfl ?_) | fail)
         all_goals first
          | (refine congrArg (zf .i64) (mE1 hz fun g => ?_).symm; exact absurd (g.2.1 _ hlt) (by assumption))
          | exact ⟨k + 2, ⟨by omega, zu hall2 (by assumption)⟩, by omega, zG [0] rfl rfl ⟨rfl, trivial⟩ (by repeat' (first | exact trivial | exact rfl | refine And.intro ?_ ?_))⟩
     · have hpa : ∀ i, i < m.pairs.length → zb5 m i := fun j hj => hall2 j (by omega)
       repeat' (first | refine o1 ?_ | refine o2 ?_ | refine k1 ?_ | refine k2 ?_ | refine k3 ?_ | refine k4 ?_ | refine k8 ?_ | refine And.intro ?_ ?_ | (intro h; first | exact Bool.noConfusion h | exact nz _ h | exact nl h | (simp at h; done) | (simp at h; first | (exfalso; omega) | skip) | skip) | refine za ?_ | fail)
       refine ql (fun i : Nat => [(8, zf .i64 i)]) (fun _ => []) (fun i => i ≤ m.counts.length ∧ ∀ j, j < i → ∀ c, m.counts[j]? = some c → zdo m c) (fun i => m.counts.length - i) 0 ⟨by omega, fun j hj => by omega⟩ (by repeat' (first | exact trivial | exact ⟨_, rfl, ALe.refl⟩ | refine And.intro ?_ ?_)) (by repeat' (first | exact trivial | exact rfl | refine And.intro ?_ ?_)) ?_
       intro i ⟨hi, hall3⟩
       rcases Nat.lt_or_ge i m.counts.length with hlt | hge
       · obtain ⟨c, hc⟩ := qd hlt
         repeat' (first | (refine zi (k := i) (zg hc) (by omega) ?_) | refine o1 ?_ | refine o2 ?_ | refine k1 ?_ | refine k2 ?_ | refine k3 ?_ | refine k4 ?_ | refine k6 ?_ | refine k7 ?_ | refine And.intro ?_ ?_ | refine o3 ?_ | refine o4 ?_ | (intro h; first | exact Bool.noConfusion h | exact nz _ h | exact nl h | (simp at h; done) | (simp at h; first | (exfalso; omega) | skip) | skip) | (change zz _ _ _ _; refine zd rfl trivial ?_) | exact (by kernel_rfl : zl _ _ = true) | refine za ?_ | refine zc (by omega) (by omega) ?_ | (change zI _ _ _ _ _; refine zD rfl (by repeat' (first | trivial | refine And.intro ?_ ?_ | (show 0 + _ ≤ List.length _; simp))) zT.refl (znR m c (hl.ld c (List.mem_of_getElem? hc))) rfl ?_) | fail)
         all_goals first
          | (refine congrArg (zf .i64) (mE1 hz fun g => ?_).symm; exact absurd (g.2.2 c (List.mem_of_getElem? hc)) (by assumption))
          | exact ⟨i + 1, ⟨by omega, zu hall3 fun c' h' => by rw [hc] at h'; cases h'; assumption⟩, by omega, zG [0] rfl rfl ⟨rfl, trivial⟩ (by repeat' (first | exact trivial | exact rfl | refine And.intro ?_ ?_))⟩
       · repeat' (first | refine o1 ?_ | refine o2 ?_ | refine k1 ?_ | refine k2 ?_ | refine k3 ?_ | refine k7 ?_ | refine k8 ?_ | refine And.intro ?_ ?_ | (intro h; first | exact Bool.noConfusion h | exact nz _ h | exact nl h | (simp at h; done) | (simp at h; first | (exfalso; omega) | skip) | skip) | (change zz _ _ _ _; refine zd rfl trivial ?_) | refine za ?_ | fail)
         all_goals first
          | exact congrArg (zf .i64) (mE0 hz ⟨hch, hpa, zp4 hge hall3⟩).symm
 · refine zh tok mixed 105 rfl (fn := Tryz.f26) (c := Tryz.f26.body.getD .skip) (by kernel_rfl) (by kernel_rfl) (by kernel_rfl) rfl 0 rfl ?_
   repeat' (first | refine o1 ?_ | refine o2 ?_ | refine k1 ?_ | refine k2 ?_ | refine k3 ?_ | refine k4 ?_ | refine k6 ?_ | refine k7 ?_ | refine And.intro ?_ ?_ | (intro h; first | exact Bool.noConfusion h | exact nz _ h | exact nl h | (simp at h; done) | (simp at h; first | (exfalso; omega) | skip) | skip) | (change zz _ _ _ _; refine zd rfl trivial ?_) | (change zn _ _ _ _ _; refine zA rfl (by repeat' (first | trivial | refine And.intro ?_ ?_ | (show 0 + _ ≤ List.length _; simp))) zT.refl (zpw m hl) rfl ?_) | fail)
   all_goals first
    | exact congrArg (zf .i64) (mE2 hz).symm
    | (exfalso; exact hz (by assumption))
end Go.Proofs.YtihpjcmloecaaaaGreat.Cw
namespace Go.Proofs.YtihpjcmloecaaaaGreat.Cw
open Go.Cw Go.Proofs
set_option linter.unusedVariables false
set_option maxRecDepth 100000
set_option maxHeartbeats 800000
noncomputable def idxS (l : List Str) (s : Str) : Int := zmw (fun q => pB (q = s)) l
noncomputable def idxN (l : List Int) (s : Int) : Int := zmw (fun q => pB (q = s)) l
theorem idxN_has {l : List Int} {s : Int} : decide (idxN l s ≥ 0) = pB (s ∈ l) := by
 unfold idxN
 rw [zeF]
 by_cases h : s ∈ l
 · rw [zaM h]; exact List.any_eq_true.2 ⟨s, h, zaM rfl⟩
 · rw [zad h]; exact List.any_eq_false.2 fun q hq => by rw [zad (fun e : q = s => h (e ▸ hq))]; simp
theorem zm1 (l : List Int) (s : Int) (hl : l.length ≤ 100000) : zF Tryz.prog 93 [.pv (qN l), zf .i64 s] (fun r => r = zf .i64 (idxN l s)) := by
 refine zh tok mixed 19 rfl (fn := Tryz.f93) (c := Tryz.f93.body.getD .skip) (by kernel_rfl) (by kernel_rfl) (by kernel_rfl) rfl 0 rfl ?_
 repeat' (first | refine o1 ?_ | refine o2 ?_ | refine k1 ?_ | refine k2 ?_ | refine k3 ?_ | refine k4 ?_ | refine k6 ?_ | refine k7 ?_ | refine k8 ?_ | refine And.intro ?_ ?_ | exact trivial | refine o3 ?_ | refine o4 ?_ | refine o5 ?_ | refine o6 ?_ | refine k5 ?_ | (intro h; first | exact Bool.noConfusion h | exact nz _ h | exact nl h | (simp at h; done) | (simp at h; first | (exfalso; omega) | skip) | skip) | (change zz _ _ _ _; refine zd rfl trivial ?_) | exact (rfl : xB _ = true) | (refine (?_ : (0 : Int) ≤ _); omega) | (refine (?_ : _ ≠ _); omega) | (refine (?_ : qt _ = zb _); rfl) | exact Nat.le_of_ble_eq_true rfl | exact (by kernel_rfl : zl _ _ = true) | refine za ?_ | refine eqv_size ?_ | refine zfh (zh7 ?_) | refine z8 ?_ | refine zc (by omega) (by omega) ?_ | refine eqv_u64 (by omega) (by omega) ?_ | refine eqv_u8 (by omega) (by omega) ?_ | refine zw _ (ze3 rfl rfl) ?_ | refine ⟨_, _, (by first | rfl | assumption), zg (by assumption), ?_⟩ | refine ⟨_, _, (by first | rfl | assumption), (by assumption), ?_⟩ | refine ⟨_, zg (by assumption), (by decide), ?_⟩ | refine ⟨_, zg (by assumption), ?_⟩ | (refine (?_ : _ ≤ 140737488355328); simp [zb] <;> omega) | (refine (?_ : _ ≤ 9223372036854775807); simp [zb] <;> omega) | (refine (?_ : _ = zb _); simp [zb] <;> omega) | refine zw _ (zbp rfl) (zw _ zcI ?_) | refine zw _ (xG rfl) (zw 1 rfl ?_) | refine zi (zg (by assumption)) (by omega) ?_ | refine xc _ (by first | rfl | assumption) (by first | assumption | omega) ?_ | fail)
 refine ql (fun i : Nat => [(8, zf .i64 i)]) (fun _ => []) (fun i => i ≤ l.length ∧ ∀ j, j < i → ∀ q, l[j]? = some q → pB (q = s) = false) (fun i => l.length - i) 0 ⟨by omega, fun j hj => by omega⟩ (by repeat' (first | exact trivial | exact rfl | exact ⟨_, rfl, ALe.refl⟩ | refine And.intro ?_ ?_)) (by repeat' (first | exact trivial | exact rfl | exact ⟨_, rfl, ALe.refl⟩ | refine And.intro ?_ ?_)) ?_
 intro i ⟨hi, hall⟩
 rcases Nat.lt_or_ge i l.length with hlt | hge
 · obtain ⟨q, hq⟩ := qd hlt
   repeat' (first | refine o1 ?_ | refine o2 ?_ | refine k1 ?_ | refine k2 ?_ | refine k3 ?_ | refine k4 ?_ | refine k6 ?_ | refine k7 ?_ | refine k8 ?_ | refine And.intro ?_ ?_ | exact trivial | refine o3 ?_ | refine o4 ?_ | refine o5 ?_ | refine o6 ?_ | refine k5 ?_ | (intro h; first | exact Bool.noConfusion h | exact nz _ h | exact nl h | (simp at h; done) | (simp at h; first | (exfalso; omega) | skip) | skip) | (change zz _ _ _ _; refine zd rfl trivial ?_) | exact (rfl : xB _ = true) | (refine (?_ : (0 : Int) ≤ _); omega) | (refine (?_ : _ ≠ _); omega) | (refine (?_ : qt _ = zb _); rfl) | exact Nat.le_of_ble_eq_true rfl | exact (by kernel_rfl : zl _ _ = true) | refine za ?_ | refine eqv_size ?_ | refine zfh (zh7 ?_) | refine z8 ?_ | refine zc (by omega) (by omega) ?_ | refine eqv_u64 (by omega) (by omega) ?_ | refine eqv_u8 (by omega) (by omega) ?_ | refine zw _ (ze3 rfl rfl) ?_ | refine ⟨_, _, (by first | rfl | assumption), zg (by assumption), ?_⟩ | refine ⟨_, _, (by first | rfl | assumption), (by assumption), ?_⟩ | refine ⟨_, zg (by assumption), (by decide), ?_⟩ | refine ⟨_, zg (by assumption), ?_⟩ | (refine (?_ : _ ≤ 140737488355328); simp [zb] <;> omega) | (refine (?_ : _ ≤ 9223372036854775807); simp [zb] <;> omega) | (refine (?_ : _ = zb _); simp [zb] <;> omega) | refine zw _ (zbp rfl) (zw _ zcI ?_) | refine zw _ (xG rfl) (zw 1 rfl ?_) | refine zi (zg (by assumption)) (by omega) ?_ | refine xc _ (by first | rfl | assumption) (by first | assumption | omega) ?_ | fail)
   all_goals first
    | exact congrArg (zf .i64) (zd8 hall hq (zaM (by omega))).symm
    | exact ⟨i + 1, ⟨by omega, zu hall fun q' h' => by rw [hq] at h'; cases h'; exact zad fun e => by omega⟩, by omega, zG [] rfl rfl trivial (by repeat' (first | exact trivial | exact rfl | exact ⟨_, rfl, ALe.refl⟩ | refine And.intro ?_ ?_))⟩
 · repeat' (first | refine o1 ?_ | refine o2 ?_ | refine k1 ?_ | refine k2 ?_ | refine k3 ?_ | refine k4 ?_ | refine k6 ?_ | refine k7 ?_ | refine k8 ?_ | refine And.intro ?_ ?_ | exact trivial | refine o3 ?_ | refine o4 ?_ | refine o5 ?_ | refine o6 ?_ | refine k5 ?_ | (intro h; first | exact Bool.noConfusion h | exact nz _ h | exact nl h | (simp at h; done) | (simp at h; first | (exfalso; omega) | skip) | skip) | (change zz _ _ _ _; refine zd rfl trivial ?_) | exact (rfl : xB _ = true) | (refine (?_ : (0 : Int) ≤ _); omega) | (refine (?_ : _ ≠ _); omega) | (refine (?_ : qt _ = zb _); rfl) | exact Nat.le_of_ble_eq_true rfl | exact (by kernel_rfl : zl _ _ = true) | refine za ?_ | refine eqv_size ?_ | refine zfh (zh7 ?_) | refine z8 ?_ | refine zc (by omega) (by omega) ?_ | refine eqv_u64 (by omega) (by omega) ?_ | refine eqv_u8 (by omega) (by omega) ?_ | refine zw _ (ze3 rfl rfl) ?_ | refine ⟨_, _, (by first | rfl | assumption), zg (by assumption), ?_⟩ | refine ⟨_, _, (by first | rfl | assumption), (by assumption), ?_⟩ | refine ⟨_, zg (by assumption), (by decide), ?_⟩ | refine ⟨_, zg (by assumption), ?_⟩ | (refine (?_ : _ ≤ 140737488355328); simp [zb] <;> omega) | (refine (?_ : _ ≤ 9223372036854775807); simp [zb] <;> omega) | (refine (?_ : _ = zb _); simp [zb] <;> omega) | refine zw _ (zbp rfl) (zw _ zcI ?_) | refine zw _ (xG rfl) (zw 1 rfl ?_) | refine zi (zg (by assumption)) (by omega) ?_ | refine xc _ (by first | rfl | assumption) (by first | assumption | omega) ?_ | fail)
   all_goals first
    | exact congrArg (zf .i64) (zdi fun j hj => hall j (by omega)).symm
theorem zhf (l : List Int) (s : Int) (hl : l.length ≤ 100000) : zF Tryz.prog 52 [.pv (qN l), zf .i64 s] (fun r => r = zm (pB (s ∈ l))) := by
 refine zh tok mixed 9 rfl (fn := Tryz.f52) (c := Tryz.f52.body.getD .skip) (by kernel_rfl) (by kernel_rfl) (by kernel_rfl) rfl 0 rfl ?_
 repeat' (first | refine o1 ?_ | refine o2 ?_ | refine k1 ?_ | refine k2 ?_ | refine k3 ?_ | refine k4 ?_ | refine k6 ?_ | refine k7 ?_ | refine k8 ?_ | refine And.intro ?_ ?_ | exact trivial | refine o3 ?_ | refine o4 ?_ | refine o5 ?_ | refine o6 ?_ | refine k5 ?_ | (intro h; first | exact Bool.noConfusion h | exact nz _ h | exact nl h | (simp at h; done) | (simp at h; first | (exfalso; omega) | skip) | skip) | (change zz _ _ _ _; refine zd rfl trivial ?_) | exact (rfl : xB _ = true) | (refine (?_ : (0 : Int) ≤ _); omega) | (refine (?_ : _ ≠ _); omega) | (refine (?_ : qt _ = zb _); rfl) | exact Nat.le_of_ble_eq_true rfl | exact (by kernel_rfl : zl _ _ = true) | refine za ?_ | refine eqv_size ?_ | refine zfh (zh7 ?_) | refine z8 ?_ | refine zc (by omega) (by omega) ?_ | refine eqv_u64 (by omega) (by omega) ?_ | refine eqv_u8 (by omega) (by omega) ?_ | refine zw _ (ze3 rfl rfl) ?_ | refine ⟨_, _, (by first | rfl | assumption), zg (by assumption), ?_⟩ | refine ⟨_, _, (by first | rfl | assumption), (by assumption), ?_⟩ | refine ⟨_, zg (by assumption), (by decide), ?_⟩ | refine ⟨_, zg (by assumption), ?_⟩ | (refine (?_ : _ ≤ 140737488355328); simp [zb] <;> omega) | (refine (?_ : _ ≤ 9223372036854775807); simp [zb] <;> omega) | (refine (?_ : _ = zb _); simp [zb] <;> omega) | refine zw _ (zbp rfl) (zw _ zcI ?_) | refine zw _ (xG rfl) (zw 1 rfl ?_) | refine zi (zg (by assumption)) (by omega) ?_ | refine xc _ (by first | rfl | assumption) (by first | assumption | omega) ?_ | (change zn _ _ _ _ _; refine zA rfl (by repeat' (first | trivial | refine And.intro ?_ ?_ | (show 0 + _ ≤ List.length _; simp))) zT.refl (zm1 l s hl) rfl ?_) | fail)
 exact congrArg zm idxN_has
end Go.Proofs.YtihpjcmloecaaaaGreat.Cw
namespace Go.Proofs.YtihpjcmloecaaaaGreat.Cw
open Go.Cw Go.Proofs
set_option linter.unusedVariables false
set_option maxRecDepth 100000
set_option maxHeartbeats 1600000
def planP (m : Model) (plan : List Int) : Prop := plan.length = m.classes.length ∧ ∀ i, i < plan.length → ∀ o, plan[i]? = some o → xQ m i o
def plannedP (m : Model) (plan : List Int) : Prop := plan.length = m.classes.length ∧ ∀ i, i < plan.length → ∀ o, plan[i]? = some o → o = -1 ∨ xQ m i o
noncomputable def zpj (m : Model) (plan : List Int) : Int := if qo m = 0 then (if pB (planP m plan) then 0 else 17) else qo m
theorem qH {m : Model} (h : qo m = 0) : qD m := Classical.byContradiction fun hn => by rw [mE2 hn] at h; cases h
theorem znO (l : List Int) (hl : l.length ≤ 100000) : zF Tryz.prog 21 [.pv (qN l), .pv (qN l)] (fun r => r = zm true) := by
 refine zh tok mixed 26 rfl (fn := Tryz.f21) (c := Tryz.f21.body.getD .skip) (by kernel_rfl) (by kernel_rfl) (by kernel_rfl) rfl 0 rfl ?_
 repeat' (first | refine o1 ?_ | refine o2 ?_ | refine k1 ?_ | refine k2 ?_ | refine k3 ?_ | refine k4 ?_ | refine k6 ?_ | refine And.intro ?_ ?_ | (intro h; first | exact Bool.noConfusion h | exact nz _ h | exact nl h | (simp at h; done) | (simp at h; first | (exfalso; omega) | skip) | skip) | refine za ?_ | fail)
 refine ql (fun i : Nat => [(5, zf .i64 i)]) (fun _ => []) (fun i => i ≤ l.length) (fun i => l.length - i) 0 (by omega) (by repeat' (first | exact trivial | exact ⟨_, rfl, ALe.refl⟩ | refine And.intro ?_ ?_)) (by repeat' (first | exact trivial)) ?_
 intro i hi
 rcases Nat.lt_or_ge i l.length with hlt | hge
 · obtain ⟨x, hx⟩ := qd hlt
   repeat' (first | (refine zi (k := i) (zg hx) (by omega) ?_) | refine o1 ?_ | refine o2 ?_ | refine k1 ?_ | refine k2 ?_ | refine k3 ?_ | refine k4 ?_ | refine k6 ?_ | refine And.intro ?_ ?_ | refine o3 ?_ | refine o4 ?_ | (intro h; first | exact Bool.noConfusion h | exact nz _ h | exact nl h | (simp at h; done) | (simp at h; first | (exfalso; omega) | skip) | skip) | exact (by kernel_rfl : zl _ _ = true) | refine za ?_ | refine zc (by omega) (by omega) ?_ | fail)
   all_goals first
    | exact ⟨i + 1, by omega, by omega, zG [] rfl rfl trivial (by repeat' (first | exact trivial | exact rfl | refine And.intro ?_ ?_))⟩
    | (exfalso; simp_all; done)
 · repeat' (first | refine o1 ?_ | refine o2 ?_ | refine k1 ?_ | refine k2 ?_ | refine k3 ?_ | refine k7 ?_ | refine k8 ?_ | refine And.intro ?_ ?_ | (intro h; first | exact Bool.noConfusion h | exact nz _ h | exact nl h | (simp at h; done) | (simp at h; first | (exfalso; omega) | skip) | skip) | (change zz _ _ _ _; refine zd rfl trivial ?_) | refine za ?_ | fail)
   exact rfl
end Go.Proofs.YtihpjcmloecaaaaGreat.Cw
namespace Go.Proofs.YtihpjcmloecaaaaGreat.Cw
open Go Go.Cw Go.Proofs
set_option linter.unusedVariables false
def zdR (p : Placed) : Value := .agg #[.int .i64 p.time.weeks, .int .i64 p.time.day, .int .i64 p.time.start, .int .i64 p.time.len, .int .i64 p.room]
theorem zos {p q : Placed} (h1 : p.time.weeks = q.time.weeks) (h2 : p.time.day = q.time.day) (h3 : p.time.start = q.time.start) (h4 : p.time.len = q.time.len) (h5 : p.room = q.room) : p = q := by
 obtain ⟨⟨a, b, c, d⟩, e⟩ := p
 obtain ⟨⟨a', b', c', d'⟩, e'⟩ := q
 simp only at h1 h2 h3 h4 h5
 subst h1; subst h2; subst h3; subst h4; subst h5; rfl
theorem ziX {p q : Placed} : kEq (zdR p) (zdR q) = true ↔ p = q := by
 constructor
 · intro h
   simp only [kEq, zdR, eqV, Bool.and_eq_true, beq_iff_eq, and_true] at h
   exact zos h.1 h.2.1 h.2.2.1 h.2.2.2.1 h.2.2.2.2
 · rintro rfl
   simp [kEq, zdR, eqV]
theorem zh0 {p q : Placed} (h : ¬ p = q) : kEq (zdR p) (zdR q) = false := by
 cases hk : kEq (zdR p) (zdR q) with
 | false => rfl
 | true => exact absurd (ziX.1 hk) h
abbrev Ent := Placed × List Nat
def qz (n : Nat) : List PV := [ei n]
def zdN (k : Nat) : Nat → List Ent → List (Value × Nat × AV)
 | _, [] => []
 | b, e :: E => (zdR e.1, b, .ms (b + k) 1 0 e.2.length) :: zdN k (b + 1) E
def ziw (ty : Nat) (E : List Ent) : zq := E.map fun e => some ⟨ty, 1, false, .p (e.2.map qz)⟩
theorem zeM {k : Nat} : ∀ {E : List Ent} {b i : Nat}, (zdN k b E)[i]? = E[i]?.map fun e => (zdR e.1, b + i, .ms (b + i + k) 1 0 e.2.length)
 | [], b, i => by simp [zdN]
 | e :: E, b, 0 => by simp [zdN]
 | e :: E, b, i + 1 => by
   simp only [zdN, List.getElem?_cons_succ]
   rw [zeM, show b + 1 + i = b + (i + 1) by omega]
theorem zeL {k : Nat} : ∀ {E : List Ent} {b : Nat}, (zdN k b E).length = E.length
 | [], _ => rfl
 | e :: E, b => by simp [zdN, zeL (E := E) (b := b + 1)]
theorem zgY {k : Nat} {p : Placed} : ∀ {E : List Ent} {b : Nat}, (∀ e ∈ E, e.1 ≠ p) → zfg (zdR p) (zdN k b E) = none
 | [], b, _ => rfl
 | e :: E, b, h => by
   simp only [zdN, zfg]
   rw [zh0 fun q => h e (by simp) q.symm]
   exact zgY fun e he => h e (by simp [he])
theorem zgX {k : Nat} {p : Placed} {l : List Nat} : ∀ {E : List Ent} {b j : Nat}, E[j]? = some (p, l) → (∀ i, i < j → ∀ e, E[i]? = some e → e.1 ≠ p) → zfg (zdR p) (zdN k b E) = some (.ms (b + j + k) 1 0 l.length)
 | [], b, j, h, _ => by simp at h
 | e :: E, b, 0, h, _ => by
   simp only [List.getElem?_cons_zero, Option.some.injEq] at h
   subst h
   simp only [zdN, zfg]
   rw [ziX.2 rfl]; rfl
 | e :: E, b, j + 1, h, hd => by
   simp only [zdN, zfg]
   rw [zh0 fun q => hd 0 (by omega) e rfl q.symm]
   have := zgX (k := k) (E := E) (b := b + 1) (j := j) (by simpa using h) fun i hi e he => hd (i + 1) (by omega) e (by simpa using he)
   rw [show b + 1 + j = b + (j + 1) by omega] at this
   exact this
theorem zl9 {k : Nat} {p : Placed} {v : AV} {ck : Nat} : ∀ {E : List Ent} {b : Nat}, (∀ e ∈ E, e.1 ≠ p) → zjp (zdR p) v ck (zdN k b E) = zdN k b E ++ [(zdR p, ck, v)]
 | [], b, _ => rfl
 | e :: E, b, h => by
   simp only [zdN, zjp]
   rw [zh0 fun q => h e (by simp) q.symm]
   show _ :: _ = _ :: _
   rw [zl9 fun e he => h e (by simp [he])]
   rfl
theorem zl8 {k : Nat} {p : Placed} {l : List Nat} {v : AV} {ck : Nat} : ∀ {E : List Ent} {b j : Nat}, E[j]? = some (p, l) → (∀ i, i < j → ∀ e, E[i]? = some e → e.1 ≠ p) → zjp (zdR p) v ck (zdN k b E) = (zdN k b E).set j (zdR p, b + j, v)
 | [], b, j, h, _ => by simp at h
 | e :: E, b, 0, h, _ => by
   simp only [List.getElem?_cons_zero, Option.some.injEq] at h
   subst h
   simp only [zdN, zjp]
   rw [ziX.2 rfl]; rfl
 | e :: E, b, j + 1, h, hd => by
   simp only [zdN, zjp]
   rw [zh0 fun q => hd 0 (by omega) e rfl q.symm]
   have := zl8 (k := k) (v := v) (ck := ck) (E := E) (b := b + 1) (j := j) (by simpa using h) fun i hi e he => hd (i + 1) (by omega) e (by simpa using he)
   rw [show b + 1 + j = b + (j + 1) by omega] at this
   show _ :: _ = _ :: _
   rw [this]
theorem ck_none {k : Nat} {p : Placed} {ck : Nat} {E : List Ent} {b : Nat} (h : ∀ e ∈ E, e.1 ≠ p) : ckM (zdR p) ck (zdN k b E) = ck + 1 := by
 unfold ckM; rw [zgY h]
theorem ck_some {k : Nat} {p : Placed} {l : List Nat} {ck : Nat} {E : List Ent} {b j : Nat} (h : E[j]? = some (p, l)) (hd : ∀ i, i < j → ∀ e, E[i]? = some e → e.1 ≠ p) : ckM (zdR p) ck (zdN k b E) = ck := by
 unfold ckM; rw [zgX h hd]
theorem zmP {k m : Nat} : ∀ {E : List Ent} {b : Nat}, k + m ≤ 5 → ∀ e ∈ zdN 5 b E, far k m e.2.2 = true
 | [], _, _, e, h => by cases h
 | x :: E, b, h, e, he => by
   rcases List.mem_cons.1 he with rfl | he
   · simp [far]; right; omega
   · exact zmP h e he
theorem zlX {ty k m : Nat} : ∀ {E : List Ent} {i0 : Nat}, k + m ≤ i0 → zcf k m i0 (ziw ty E)
 | [], _, _ => trivial
 | e :: E, i0, h => ⟨.inr h, trivial, zlX (E := E) (i0 := i0 + 1) (by omega)⟩
theorem zfN {ty : Nat} {E : List Ent} {i : Nat} {e : Ent} (h : E[i]? = some e) : (ziw ty E)[i]? = some (some ⟨ty, 1, false, .p (e.2.map qz)⟩) := by
 unfold ziw; rw [List.getElem?_map, h]; rfl
theorem tail_len {ty : Nat} {E : List Ent} : (ziw ty E).length = E.length := by simp [ziw]
theorem zaC {k N b x j : Nat} : ((List.range' k N).set b x)[j]? = if j < N then some (if b = j then x else j + k) else none := by
 rw [List.getElem?_set, List.length_range']
 by_cases e : b = j
 · subst e; simp
 · simp only [e, if_false]
   by_cases h : j < N
   · rw [if_pos h, List.getElem?_range' h, Nat.one_mul, Nat.add_comm]
   · rw [if_neg h, List.getElem?_eq_none (by simp; omega)]
def rnK (N b x : Nat) : List Nat := 0 :: (N + 6) :: (N + 7) :: (N + 8) :: (N + 9) :: (List.range' 5 N).set b x
theorem rnK_get {N b x d j : Nat} (hj : j < N) : (rnK N b x).getD (j + 5) d = if b = j then x else j + 5 := by
 rw [List.getD_eq_getElem?_getD]
 show (((List.range' 5 N).set b x)[j]?).getD d = _
 rw [zaC, if_pos hj]; rfl
theorem rset_mem {N b x y : Nat} (h : y ∈ (List.range' 5 N).set b x) : y = x ∨ (5 ≤ y ∧ y < 5 + N) := by
 obtain ⟨j, hj⟩ := List.getElem?_of_mem h
 rw [zaC] at hj
 split at hj
 · injection hj with hj
   split at hj <;> omega
 · cases hj
theorem znu {N b x : Nat} (hx : x < 5) : ((List.range' 5 N).set b x).Nodup := by
 rw [List.Nodup, List.pairwise_iff_getElem]
 intro i j hi hj hij e
 rw [List.length_set, List.length_range'] at hi hj
 have h1 := zaC (k := 5) (N := N) (b := b) (x := x) (j := i)
 have h2 := zaC (k := 5) (N := N) (b := b) (x := x) (j := j)
 rw [List.getElem?_eq_getElem (by simpa using hi), if_pos hi] at h1
 rw [List.getElem?_eq_getElem (by simpa using hj), if_pos hj] at h2
 injection h1 with h1
 injection h2 with h2
 rw [e] at h1
 rw [h1] at h2
 split at h2 <;> split at h2 <;> omega
theorem zl7 {N b x : Nat} (h0 : 0 < x) (hx : x < 5) : zfE (rnK N b x) = true := by
 apply zcK
 unfold rnK
 have h := znu (N := N) (b := b) hx
 have hm : ∀ y ∈ (List.range' 5 N).set b x, 0 < y ∧ y < N + 5 := fun y hy => by rcases rset_mem hy with k | k <;> omega
 refine List.nodup_cons.2 ⟨fun k => ?_, List.nodup_cons.2 ⟨fun k => ?_, List.nodup_cons.2 ⟨fun k => ?_, List.nodup_cons.2 ⟨fun k => ?_, List.nodup_cons.2 ⟨fun k => ?_, h⟩⟩⟩⟩⟩
 all_goals
  have hk := fun y hy => hm y hy
  generalize (List.range' 5 N).set b x = L at *
  try simp only [List.mem_cons] at k
  first
   | (have := hk _ k; omega)
   | (rcases k with k | k | k | k | k <;> first | omega | (have := hk _ k; omega))
   | (rcases k with k | k | k | k <;> first | omega | (have := hk _ k; omega))
   | (rcases k with k | k | k <;> first | omega | (have := hk _ k; omega))
   | (rcases k with k | k <;> first | omega | (have := hk _ k; omega))
   | (have := hk _ k; omega)
theorem zf0 {H : zq} {d : Nat} {rn : List Nat} : ∀ {rs : List Nat} {T : zq}, rs.length = T.length → (∀ (i r : Nat), rs[i]? = some r → ∀ o : AObj, T[i]? = some (some o) → H[r]? = some (some (zd5 d rn o))) → zat H d rn rs T
 | [], [], _, _ => trivial
 | r :: rs, none :: T, hl, h => zf0 (rs := rs) (T := T) (by simpa using hl) fun i r' hr o ho => h (i + 1) r' (by simpa using hr) o (by simpa using ho)
 | r :: rs, some o :: T, hl, h => ⟨h 0 r rfl o rfl, zf0 (rs := rs) (T := T) (by simpa using hl) fun i r' hr o ho => h (i + 1) r' (by simpa using hr) o (by simpa using ho)⟩
 | [], _ :: _, hl, _ => by simp at hl
 | _ :: _, [], hl, _ => by simp at hl
abbrev renE (d : Nat) (rn : List Nat) (e : Value × Nat × AV) : Value × Nat × AV := (e.1, e.2.1, xJ d rn e.2.2)
theorem zmO {E : List Ent} {d b x q N : Nat} (hN : E.length = N) : ((zdN 5 0 E).map (renE d (rnK N b x)))[q]? = E[q]?.map fun e => (zdR e.1, q, .ms (if b = q then x else q + 5) 1 0 e.2.length) := by
 rw [List.getElem?_map, zeM]
 cases h : E[q]? with
 | none => rfl
 | some e =>
   have hq : q < N := by rw [← hN]; exact (List.getElem?_eq_some_iff.1 h).1
   simp only [Option.map_some, Nat.zero_add, renE, xJ, rnK_get hq]
theorem ren_none {E : List Ent} {p : Placed} {i d : Nat} : (zdN 5 0 (E ++ [(p, [i])])).map (renE d (rnK (E.length + 1) E.length 3)) = zdN 5 0 E ++ [(zdR p, E.length, .ms 3 1 0 1)] := by
 apply List.ext_getElem?
 intro q
 rw [zmO (by simp)]
 rcases Nat.lt_or_ge q E.length with h | h
 · rw [List.getElem?_append_left h, List.getElem?_append_left (by rw [zeL]; exact h), zeM]
   obtain ⟨e, he⟩ := qd h
   rw [he]
   simp [show ¬ E.length = q by omega]
 · rw [List.getElem?_append_right h, List.getElem?_append_right (by rw [zeL]; exact h), zeL]
   rcases Nat.eq_or_lt_of_le h with h | h
   · subst h; simp
   · obtain ⟨m, hm⟩ : ∃ m, q - E.length = m + 1 := ⟨q - E.length - 1, by omega⟩
     rw [hm]; simp
theorem ren_some {E : List Ent} {p : Placed} {l : List Nat} {i d j : Nat} (hj : j < E.length) : (zdN 5 0 (E.set j (p, l ++ [i]))).map (renE d (rnK E.length j 3)) = (zdN 5 0 E).set j (zdR p, j, .ms 3 1 0 (l ++ [i]).length) := by
 apply List.ext_getElem?
 intro q
 rw [zmO (by simp), List.getElem?_set, List.getElem?_set, zeL, zeM]
 by_cases h : j = q
 · subst h
   rw [if_pos rfl, if_pos hj, if_pos rfl, if_pos hj]
   simp
 · simp only [if_neg h]
   cases he : E[q]? with
   | none => rfl
   | some e => simp [h]
theorem zj8 {E : List Ent} {H : zq} {ty d N b : Nat} {rn : List Nat} {e0 : Ent} (hN : (E.set b e0).length = N) (hb : b < N) (hT : ∀ q, q < N → q ≠ b → ∀ e, E[q]? = some e → H[q + 5]? = some (some ⟨ty, 1, false, .p (e.2.map qz)⟩))
 (h3 : H[3]? = some (some ⟨ty, 1, false, .p (e0.2.map qz)⟩)) : zat H d rn ((List.range' 5 N).set b 3) (ziw ty (E.set b e0)) := by
 refine zf0 (by rw [tail_len, hN]; simp) fun q r hr o ho => ?_
 rw [zaC] at hr
 split at hr
 · rename_i hq
   injection hr with hr
   unfold ziw at ho
   rw [List.getElem?_map, List.getElem?_set] at ho
   by_cases hbq : b = q
   · subst hbq
     rw [if_pos rfl, if_pos (by rw [List.length_set] at hN; omega)] at ho
     injection ho with ho; injection ho with ho; subst ho
     rw [if_pos rfl] at hr; subst hr
     exact h3
   · rw [if_neg hbq] at hr ho
     subst hr
     obtain ⟨e, he, h⟩ := Option.map_eq_some_iff.1 ho
     injection h with h; subst h
     exact hT q hq (fun k => hbq k.symm) e he
 · cases hr
def zcg : Nat → List Ent → List (Value × Nat × AV)
 | _, [] => []
 | b, e :: E => (zdR e.1, b, .pv (.sl 1 (e.2.map qz))) :: zcg (b + 1) E
theorem zki : ∀ {E : List Ent} {b i : Nat}, (zcg b E)[i]? = E[i]?.map fun e => (zdR e.1, b + i, .pv (.sl 1 (e.2.map qz)))
 | [], b, i => by simp [zcg]
 | e :: E, b, 0 => by simp [zcg]
 | e :: E, b, i + 1 => by
   simp only [zcg, List.getElem?_cons_succ]
   rw [zki, show b + 1 + i = b + (i + 1) by omega]
theorem zkh : ∀ {E : List Ent} {b : Nat}, ∀ e ∈ zcg b E, zaq (.arr 5) .i64 e.1 = true
 | [], _, e, h => by cases h
 | x :: E, b, e, h => by
   rcases List.mem_cons.1 h with rfl | h
   · rfl
   · exact zkh e h
theorem xl : ∀ {E : List Ent} {b : Nat}, pureM (zcg b E)
 | [], _, e, h => by cases h
 | x :: E, b, e, h => by
   rcases List.mem_cons.1 h with rfl | h
   · exact ⟨_, rfl⟩
   · exact xl e h
theorem zmN {k : Nat} : ∀ {E : List Ent} {b : Nat} {c : List Value}, ((zcg b E).zip c).map (fun p => (⟨p.1.1, p.2, p.1.2.1⟩ : MapEntry)) = ((zdN k b E).zip c).map fun p => (⟨p.1.1, p.2, p.1.2.1⟩ : MapEntry)
 | [], _, _ => rfl
 | x :: E, b, [] => rfl
 | x :: E, b, v :: c => by
   simp only [zcg, zdN, List.zip_cons_cons, List.map_cons]
   rw [zmN (k := k)]
def mapI (ty : Nat) (E : List Ent) : Option AObj := some ⟨ty, 1, false, .mp (.arr 5) .i64 (zdN 5 0 E) E.length⟩
def zgM (ty : Nat) (E : List Ent) : Option AObj := some ⟨ty, 1, false, .mp (.arr 5) .i64 (zcg 0 E) E.length⟩
def zhv (ty tn : Nat) (E : List Ent) : zq := mapI ty E :: none :: none :: none :: none :: ziw tn E
theorem zeH {ty tn : Nat} {E : List Ent} {j : Nat} {e : Ent} (h : E[j]? = some e) : (zhv ty tn E)[j + 5]? = some (some ⟨tn, 1, false, .p (e.2.map qz)⟩) := zfN h
theorem zns {n nh ty tn s : Nat} {Γ : zr} {E : List Ent} (hs : Cw.get Γ s = some (.mp 0)) (hnh : nh = 0) : zC n nh Γ (zhv ty tn E) [(s, .mp 0)] [zgM ty E] := by
 subst hnh
 refine (zC.shutM (H := zhv ty tn E) (i := 0) (o := ⟨ty, 1, false, .mp (.arr 5) .i64 (zdN 5 0 E) E.length⟩) (rows' := .mp (.arr 5) .i64 (zcg 0 E) E.length) (List.range' 5 E.length) rfl (fun _ => ⟨rfl, zkh⟩) (fun c t => ?_) (fun r j u hu => ?_) (fun id hid => ?_) (fun h => ?_)).trans (zG [0] rfl rfl ⟨?_, trivial⟩ ⟨hs, trivial⟩)
 · simp only [zdf]
   rw [zmN (k := 5)]
 · simp only [zj] at hu ⊢
   by_cases hj : j = 0
   · subst hj
     rw [if_pos rfl] at hu ⊢
     rw [zki, Option.map_map] at hu
     obtain ⟨e, he, hue⟩ := Option.map_eq_some_iff.1 hu
     simp only [Function.comp_apply] at hue
     subst hue
     refine .inr ⟨.ms (0 + r + 5) 1 0 e.2.length, .pv (.sl 1 (((e.2.map qz).drop 0).take e.2.length)), ?_, ?_, ?_, ?_, ?_⟩
     · rw [zeM, he]; rfl
     · rw [Nat.zero_add]
       have hg := zeH (ty := ty) (tn := tn) he
       simp only [zch, zdp, qm, hg]
       first | done | rfl
     · rw [Nat.zero_add]
       have hg := zeH (ty := ty) (tn := tn) he
       show okC _ 5 (.ms (r + 5) 1 0 e.2.length)
       simp only [okC, hg]
       try simp
     · rw [List.drop_zero, List.take_of_length_le (by simp)]; exact ALe.refl
     · intro id hid
       rw [Nat.zero_add] at hid
       have hg := zeH (ty := ty) (tn := tn) he
       have hid : id ∈ zaQ (zhv ty tn E) 5 (.ms (r + 5) 1 0 e.2.length) := hid
       simp only [zaQ, hg] at hid
       simp at hid
       have := (List.getElem?_eq_some_iff.1 he).1
       rw [hid, List.mem_range'_1]; omega
   · rw [if_neg hj] at hu; cases hu
 · rw [List.mem_range'_1] at hid
   obtain ⟨e, he⟩ := qd (show id - 5 < E.length by omega)
   have := zeH (ty := ty) (tn := tn) he
   rw [show id - 5 + 5 = id by omega] at this
   exact ⟨_, this⟩
 · rw [List.mem_range'_1] at h; omega
 · have hl : 0 < (app (zhv ty tn E) (frz (zhv ty tn E) (List.range' 5 E.length))).length := by rw [qG]; simp [zhv]
   rw [List.getElem?_set_self hl]
   show some (some _) = some (some (zd5 _ _ _))
   rw [zc6 xl]
end Go.Proofs.YtihpjcmloecaaaaGreat.Cw
namespace Go.Proofs.YtihpjcmloecaaaaGreat.Cw
open Go Go.Cw Go.Proofs
set_option linter.unusedVariables false
set_option maxRecDepth 100000
def chC (id : Nat) : List Charge → AV
 | [] => .clip 2 []
 | _ :: t => .ms id 2 0 (t.length + 1)
def chO : List Charge → Option AObj
 | [] => none
 | c :: t => some ⟨98, 2, false, .p ((c :: t).map Charge.row)⟩
def zdQ (x : AV) (p : Placed) : List AV := [.pv (ei p.time.weeks), .pv (ei p.time.day), .pv (ei p.time.start), .pv (ei p.time.len), .pv (ei p.room), x]
def zZ (g : Nat → Nat) : Nat → List Opt → List (List AV)
 | _, [] => []
 | j, o :: l => zdQ (chC (g j) o.charges) o.place :: zZ g (j + 1) l
def zhk (g : Nat → Nat) (j : Nat) (l : List Opt) : Option AObj := obM 62 6 (zZ g j l)
def zag (l : List Opt) : zq := l.map fun o => chO o.charges
def zW (g : Nat → Nat) : Nat → List (List Opt) → zq
 | _, [] => []
 | j, l :: L => zag l ++ (zhk g j l :: zW g (j + l.length + 1) L)
def zmU (g : Nat → Nat) (j : Nat) : List Opt → AV
 | [] => .clip 6 []
 | o :: t => .ms (g (j + (t.length + 1))) 6 0 (t.length + 1)
def qp (g : Nat → Nat) : Nat → List (List Opt) → List (List AV)
 | _, [] => []
 | j, l :: L => [zmU g j l] :: qp g (j + l.length + 1) L
def nT : List (List Opt) → Nat
 | [] => 0
 | l :: L => l.length + 1 + nT L
section
variable {g g' : Nat → Nat} {l l' : List Opt} {A B L : List (List Opt)} {j d : Nat} {rn : List Nat} {H : zq}
theorem qI : ∀ {l : List Opt} {j : Nat}, (zZ g j l).length = l.length
 | [], _ => rfl
 | o :: l, j => by simp [zZ, qI (l := l)]
theorem za8 : ∀ {L : List (List Opt)} {j : Nat}, (qp g j L).length = L.length
 | [], _ => rfl
 | o :: l, j => by simp [qp, za8 (L := l)]
theorem qu : (zag l).length = l.length := by simp [zag]
theorem qg : ∀ {L : List (List Opt)} {j : Nat}, (zW g j L).length = nT L
 | [], _ => rfl
 | l :: L, j => by simp [zW, nT, qu, qg (L := L)]; omega
theorem zfu : ∀ {A : List (List Opt)}, nT (A ++ B) = nT A + nT B
 | [] => by simp [nT]
 | l :: A => by simp [nT, zfu (A := A)]; omega
theorem nT_one : nT [l] = l.length + 1 := rfl
theorem zoF : nT (A ++ [l]) = nT A + l.length + 1 := by rw [zfu, nT_one]; omega
theorem nT_same : l'.length = l.length → nT (A ++ l' :: B) = nT (A ++ l :: B) := fun h => by rw [zfu, zfu]; simp [nT, h]
theorem zcX : ∀ {A : List (List Opt)} {j : Nat}, zW g j (A ++ B) = zW g j A ++ zW g (j + nT A) B
 | [], j => by simp [zW, nT]
 | l :: A, j => by
   simp only [List.cons_append, zW, zcX (A := A), nT, List.append_assoc, List.cons_append]
   rw [show j + l.length + 1 + nT A = j + (l.length + 1 + nT A) by omega]
theorem zf3 : ∀ {A : List (List Opt)} {j : Nat}, qp g j (A ++ B) = qp g j A ++ qp g (j + nT A) B
 | [], j => by simp [qp, nT]
 | l :: A, j => by
   simp only [List.cons_append, qp, zf3 (A := A), nT]
   rw [show j + l.length + 1 + nT A = j + (l.length + 1 + nT A) by omega]
theorem zgs : ∀ {l m : List Opt} {j : Nat}, zZ g j (l ++ m) = zZ g j l ++ zZ g (j + l.length) m
 | [], m, j => by simp [zZ]
 | o :: l, m, j => by
   simp only [List.cons_append, zZ, zgs (l := l), List.length_cons]
   rw [show j + 1 + l.length = j + (l.length + 1) by omega]
theorem zpq {id : Nat} {c : List Charge} : xJ d rn (chC id c) = chC (rn.getD id d) c := by cases c <;> rfl
theorem zaI : ∀ {l : List Opt} {j : Nat}, (zZ g j l).map (xY d rn) = zZ (fun q => rn.getD (g q) d) j l
 | [], _ => rfl
 | o :: l, j => by
   simp only [zZ, List.map_cons, zaI (l := l)]
   congr 1
   simp only [zdQ, xY, xJ, zpq]
theorem zg7 {c : List Charge} : qx d rn (chO c) = chO c := by cases c <;> rfl
theorem za9 : (zag l).map (qx d rn) = zag l := by
 unfold zag
 rw [List.map_map]
 exact List.map_congr_left fun o _ => zg7
theorem zoC {ty z : Nat} {rows : List (List AV)} : qx d rn (obM ty z rows) = obM ty z (rows.map (xY d rn)) := by cases rows <;> rfl
theorem zfU : qx d rn (zhk g j l) = zhk (fun q => rn.getD (g q) d) j l := by
 unfold zhk
 rw [zoC, zaI]
theorem zaj : ∀ {L : List (List Opt)} {j : Nat}, (zW g j L).map (qx d rn) = zW (fun q => rn.getD (g q) d) j L
 | [], _ => rfl
 | l :: L, j => by simp only [zW, List.map_append, List.map_cons, za9, zfU, zaj (L := L)]
theorem clsC_ren : xJ d rn (zmU g j l) = zmU (fun q => rn.getD (g q) d) j l := by cases l <;> rfl
theorem zaE : ∀ {L : List (List Opt)} {j : Nat}, (qp g j L).map (xY d rn) = qp (fun q => rn.getD (g q) d) j L
 | [], _ => rfl
 | l :: L, j => by simp only [qp, List.map_cons, zaE (L := L), xY, clsC_ren]
theorem xP {id z : Nat} {rows : List (List AV)} : xJ d rn (slC id z rows) = slC (rn.getD id d) z (rows.map (xY d rn)) := by
 cases rows with
 | nil => rfl
 | cons a l => simp [slC, xJ]
theorem q8 : ∀ {l : List Opt} {j : Nat}, (∀ q, j ≤ q → q < j + l.length → g q = g' q) → zZ g j l = zZ g' j l
 | [], _, _ => rfl
 | o :: l, j, h => by
   simp only [zZ]
   rw [h j (by omega) (by simp), q8 (l := l) fun q h1 h2 => h q (by omega) (by simp; omega)]
theorem znI (h : ∀ q, j ≤ q → q < j + l.length + 1 → g q = g' q) : zmU g j l = zmU g' j l := by
 cases l with
 | nil => rfl
 | cons o t => simp only [zmU]; rw [h _ (by omega) (by simp)]
theorem xt : ∀ {L : List (List Opt)} {j : Nat}, (∀ q, j ≤ q → q < j + nT L → g q = g' q) → zW g j L = zW g' j L
 | [], _, _ => rfl
 | l :: L, j, h => by
   simp only [zW, zhk]
   rw [q8 (l := l) fun q h1 h2 => h q h1 (by simp [nT]; omega), xt (L := L) fun q h1 h2 => h q (by omega) (by simp [nT] at *; omega)]
theorem xx : ∀ {L : List (List Opt)} {j : Nat}, (∀ q, j ≤ q → q < j + nT L → g q = g' q) → qp g j L = qp g' j L
 | [], _, _ => rfl
 | l :: L, j, h => by
   simp only [qp]
   rw [znI (l := l) fun q h1 h2 => h q h1 (by simp [nT]; omega), xx (L := L) fun q h1 h2 => h q (by omega) (by simp [nT] at *; omega)]
theorem zb2 {k m : Nat} (h : ∀ q, k + m ≤ g q) : ∀ {l : List Opt} {j : Nat}, ∀ r ∈ zZ g j l, xV k m r = true
 | [], _, r, hr => by cases hr
 | o :: l, j, r, hr => by
   rcases List.mem_cons.1 hr with rfl | hr
   · have hg := h j
     simp only [zdQ, xV, far]
     cases hc : o.charges with
     | nil => rfl
     | cons c t => simp [chC, far]; right; omega
   · exact zb2 h (l := l) r hr
theorem za6 {k m : Nat} : ∀ {X Y : zq} {i : Nat}, zcf k m i X → zcf k m (i + X.length) Y → zcf k m i (X ++ Y)
 | [], Y, i, _, h => by simpa using h
 | none :: X, Y, i, h1, h2 => za6 (X := X) (i := i + 1) h1 (by rw [show i + 1 + X.length = i + (none :: X).length by simp; omega]; exact h2)
 | some o :: X, Y, i, h1, h2 => ⟨h1.1, h1.2.1, za6 (X := X) (i := i + 1) h1.2.2 (by rw [show i + 1 + X.length = i + (some o :: X).length by simp; omega]; exact h2)⟩
theorem zdF {k m : Nat} : ∀ {l : List Opt} {i : Nat}, k + m ≤ i → zcf k m i (zag l)
 | [], _, _ => trivial
 | o :: l, i, h => by
   have ih := zdF (l := l) (i := i + 1) (k := k) (m := m) (by omega)
   unfold zag at ih ⊢
   rw [List.map_cons]
   cases hc : o.charges with
   | nil => exact ih
   | cons c t => exact ⟨.inr h, trivial, ih⟩
theorem optO_far {k m i : Nat} {Y : zq} (h : ∀ q, k + m ≤ g q) (hi : k + m ≤ i) (hy : zcf k m (i + 1) Y) : zcf k m i (zhk g j l :: Y) := by
 cases l with
 | nil => exact hy
 | cons o t => exact ⟨.inr hi, fun r hr => zb2 h r hr, hy⟩
theorem zak {k m : Nat} (h : ∀ q, k + m ≤ g q) : ∀ {L : List (List Opt)} {i j : Nat}, k + m ≤ i → zcf k m i (zW g j L)
 | [], _, _, _ => trivial
 | l :: L, i, j, hi => za6 (zdF hi) (optO_far h (by omega) (zak h (by omega)))
theorem zbE {k m : Nat} (h : ∀ q, k + m ≤ g q) : ∀ {L : List (List Opt)} {j : Nat}, ∀ r ∈ qp g j L, xV k m r = true
 | [], _, r, hr => by cases hr
 | l :: L, j, r, hr => by
   rcases List.mem_cons.1 hr with rfl | hr
   · simp only [xV]
     cases l with
     | nil => rfl
     | cons c t => have := h (j + (t.length + 1)); simp [zmU, far]; right; omega
   · exact zbE h (L := L) r hr
theorem opt_at : (zW g 0 (A ++ l :: B))[nT A + l.length]? = some (zhk g (nT A) l) := by
 rw [zcX, List.getElem?_append_right (by rw [qg]; omega), qg, Nat.add_sub_cancel_left]
 simp only [zW]
 rw [List.getElem?_append_right (by rw [qu]; exact Nat.le_refl _), qu, Nat.sub_self, Nat.zero_add]
 rfl
theorem zdz : ∀ {l : List Opt} {j i : Nat} {o : Opt}, l[i]? = some o → (zZ g j l)[i]? = some (zdQ (chC (g (j + i)) o.charges) o.place)
 | [], _, _, _, h => by simp at h
 | x :: l, j, 0, o, h => by simp at h; subst h; rfl
 | x :: l, j, i + 1, o, h => by
   have := zdz (l := l) (j := j + 1) (i := i) (o := o) (by simpa using h)
   rw [show j + 1 + i = j + (i + 1) by omega] at this
   simpa [zZ] using this
theorem zl5 {i x : Nat} {o o' : Opt} (h : l[i]? = some o) (hp : o'.place = o.place) : zZ (fun q => if j + i = q then x else g q) j (l.set i o') = (zZ g j l).set i (zdQ (chC x o'.charges) o.place) := by
 apply List.ext_getElem?
 intro q
 have hi := (List.getElem?_eq_some_iff.1 h).1
 rw [List.getElem?_set, qI]
 rcases Nat.lt_or_ge q l.length with hq | hq
 · obtain ⟨y, hy⟩ := qd hq
   by_cases e : i = q
   · subst e
     rw [if_pos rfl, if_pos hq, zdz (o := o') (by rw [List.getElem?_set_self hq]), if_pos rfl, hp]
   · rw [if_neg e, zdz hy, zdz (o := y) (by rw [List.getElem?_set_ne e]; exact hy), if_neg (by omega)]
 · rw [List.getElem?_eq_none (by rw [qI, List.length_set]; exact hq)]
   rw [if_neg (by omega), List.getElem?_eq_none (by rw [qI]; exact hq)]
theorem zew {x : List Nat} (h : zfE x = true) : x.Nodup := by
 rw [List.Nodup, List.pairwise_iff_getElem]
 intro i j hi hj hij e
 have := zeR h i j _ (List.getElem?_eq_getElem hi) (by rw [List.getElem?_eq_getElem hj, e])
 omega
theorem zdC {ids : List Nat} {Y : zq} (hl : ids.length = Y.length) (h : ∀ (q i : Nat), ids[q]? = some i → ∀ o : AObj, (Y.map (qx d rn))[q]? = some (some o) → H[i]? = some (some o)) : zat H d rn ids Y :=
 zf0 hl fun q i hq o ho => h q i hq _ (by rw [List.getElem?_map, ho]; rfl)
theorem zk6 {F n q d : Nat} {fx : List Nat} (hF : fx.length = F) (hq : q < n) : (fx ++ List.range' F n).getD (q + F) d = q + F := by
 rw [List.getD_eq_getElem?_getD, List.getElem?_append_right (by omega), hF, Nat.add_sub_cancel, List.getElem?_range' hq, Nat.one_mul]
 show F + q = q + F
 omega
theorem za4 {F n : Nat} {fx : List Nat} (h : zfE fx = true) (hx : ∀ a ∈ fx, a < F) : zfE (fx ++ List.range' F n) = true := by
 apply zcK
 rw [List.nodup_append]
 refine ⟨zew h, List.nodup_range', fun a ha b hb e => ?_⟩
 rw [List.mem_range'_1] at hb
 have := hx a ha; omega
theorem zgu {F n q x t d : Nat} {fx : List Nat} (hF : fx.length = F) (ht : t < n) : (fx ++ (List.range' F n).set q x).getD (t + F) d = if q = t then x else t + F := by
 rw [List.getD_eq_getElem?_getD, List.getElem?_append_right (by omega), hF, Nat.add_sub_cancel, zaC, if_pos ht]
 rfl
theorem rnS_allD {F n q x : Nat} {fx : List Nat} (h : fx.Nodup) (hx : ∀ a ∈ fx, (a < F ∧ a ≠ x) ∨ a = q + F) (hxF : x < F) (hq : q < n) : zfE (fx ++ (List.range' F n).set q x) = true := by
 apply zcK
 have hm : ∀ b ∈ (List.range' F n).set q x, b = x ∨ (b ≠ q + F ∧ F ≤ b) := fun b hb => by
  obtain ⟨t, ht⟩ := List.getElem?_of_mem hb
  rw [zaC] at ht
  split at ht
  · injection ht with ht
    split at ht
    · exact .inl ht.symm
    · exact .inr (by omega)
  · cases ht
 rw [List.nodup_append]
 refine ⟨h, ?_, fun a ha b hb e => ?_⟩
 · rw [List.Nodup, List.pairwise_iff_getElem]
   intro i j hi hj hij e
   rw [List.length_set, List.length_range'] at hi hj
   have h1 := zaC (k := F) (N := n) (b := q) (x := x) (j := i)
   have h2 := zaC (k := F) (N := n) (b := q) (x := x) (j := j)
   rw [List.getElem?_eq_getElem (by simpa using hi), if_pos hi] at h1
   rw [List.getElem?_eq_getElem (by simpa using hj), if_pos hj] at h2
   injection h1 with h1
   injection h2 with h2
   rw [e] at h1
   rw [h1] at h2
   split at h2 <;> split at h2 <;> omega
 · have := hx a ha
   have := hm b hb
   omega
end
end Go.Proofs.YtihpjcmloecaaaaGreat.Cw
namespace Go.Proofs.YtihpjcmloecaaaaGreat.Cw
open Go Go.Cw Go.Proofs
set_option linter.unusedVariables false
set_option maxRecDepth 100000
section
variable {g : Nat → Nat} {l : List Opt} {L : List (List Opt)} {j n : Nat} {H : zq}
def HasC (H : zq) (g : Nat → Nat) (j : Nat) (l : List Opt) : Prop := (∀ i o, l[i]? = some o → H[g (j + i)]? = some (chO o.charges)) ∧ H[g (j + l.length)]? = some (zhk g j l)
def HasT (H : zq) (g : Nat → Nat) : Nat → List (List Opt) → Prop
 | _, [] => True
 | j, l :: L => HasC H g j l ∧ HasT H g (j + l.length + 1) L
theorem HasT.of : ∀ {L : List (List Opt)} {j : Nat}, (∀ q, q < nT L → H[g (j + q)]? = (zW g j L)[q]?) → HasT H g j L
 | [], _, _ => trivial
 | l :: L, j, h => by
   refine ⟨⟨fun i o ho => ?_, ?_⟩, HasT.of fun q hq => ?_⟩
   · have hi := (List.getElem?_eq_some_iff.1 ho).1
     rw [h i (by simp [nT]; omega)]
     simp only [zW]
     rw [List.getElem?_append_left (by rw [qu]; exact hi)]
     unfold zag
     rw [List.getElem?_map, ho]; rfl
   · rw [h l.length (by simp [nT]; omega)]
     simp only [zW]
     rw [List.getElem?_append_right (by rw [qu]; exact Nat.le_refl _), qu, Nat.sub_self]; rfl
   · have := h (l.length + 1 + q) (by simp [nT]; omega)
     rw [show j + l.length + 1 + q = j + (l.length + 1 + q) by omega, this]
     simp only [zW]
     rw [List.getElem?_append_right (by rw [qu]; omega), qu, show l.length + 1 + q - l.length = q + 1 by omega]
     rfl
theorem zpi {id : Nat} {c : List Charge} (h : H[id]? = some (chO c)) : qm H (n + 1) (chC id c) = some (.sl 2 (c.map Charge.row)) := by
 cases c with
 | nil => rfl
 | cons x t =>
   simp only [chC, qm, h, chO]
   simp [List.take_of_length_le]
theorem ok_ch {id : Nat} {c : List Charge} (h : H[id]? = some (chO c)) : okC H (n + 1) (chC id c) := by
 cases c with
 | nil => exact True.intro
 | cons x t =>
   simp only [chC, okC, h, chO]
   simp
theorem zib : ∀ {l : List Opt} {j : Nat}, (∀ i o, l[i]? = some o → H[g (j + i)]? = some (chO o.charges)) → zap (zap (qm H (n + 1))) (zZ g j l) = some (l.map Opt.row)
 | [], _, _ => rfl
 | o :: l, j, h => by
   have ih := zib (l := l) (j := j + 1) fun i o ho => by rw [show j + 1 + i = j + (i + 1) by omega]; exact h (i + 1) o (by simpa using ho)
   have h0 := h 0 o rfl
   rw [Nat.add_zero] at h0
   simp only [zZ, zap, ih, zdQ, zpi (n := n) h0, qm, List.map_cons]
   rfl
theorem zmf : ∀ {l : List Opt} {j : Nat}, (∀ i o, l[i]? = some o → H[g (j + i)]? = some (chO o.charges)) → ∀ r ∈ zZ g j l, zaV (okC H (n + 1)) r
 | [], _, _, r, hr => by cases hr
 | o :: l, j, h, r, hr => by
   have h0 := h 0 o rfl
   rw [Nat.add_zero] at h0
   rcases List.mem_cons.1 hr with rfl | hr
   · have h1 := ok_ch (n := n) h0
     simp only [zdQ, zaV]
     cases hc : o.charges with
     | nil => exact ⟨True.intro, True.intro⟩
     | cons x t => rw [hc] at h1; exact ⟨h1, True.intro⟩
   · exact zmf (l := l) (j := j + 1) (fun i o ho => by rw [show j + 1 + i = j + (i + 1) by omega]; exact h (i + 1) o (by simpa using ho)) r hr
theorem zph (h : HasC H g j l) : qm H (n + 2) (zmU g j l) = some (.sl 6 (l.map Opt.row)) := by
 cases l with
 | nil => rfl
 | cons o t =>
   have h1 := zib (n := n) h.1
   have h2 := h.2
   have hl : (zZ g j (o :: t)).length = t.length + 1 := by rw [qI]; rfl
   unfold zhk at h2
   rw [zbO (by rw [hl]; omega)] at h2
   simp only [List.length_cons] at h2
   simp only [zmU, qm, h2]
   rw [List.drop_zero, List.take_of_length_le (by rw [hl]; exact Nat.le_refl _), h1]
theorem ok_clsC (h : HasC H g j l) : okC H (n + 2) (zmU g j l) := by
 cases l with
 | nil => exact True.intro
 | cons o t =>
   have h1 := zmf (n := n) h.1
   have h2 := h.2
   have hl : (zZ g j (o :: t)).length = t.length + 1 := by rw [qI]; rfl
   unfold zhk at h2
   rw [zbO (by rw [hl]; omega)] at h2
   simp only [List.length_cons] at h2
   simp only [zmU, okC, h2]
   refine ⟨by rw [hl]; omega, fun r hr => h1 r ?_⟩
   exact List.mem_of_mem_drop (List.mem_of_mem_take hr)
theorem zkj : ∀ {L : List (List Opt)} {j : Nat}, HasT H g j L → zap (zap (qm H (n + 2))) (qp g j L) = some (L.map zx)
 | [], _, _ => rfl
 | l :: L, j, h => by
   simp only [qp, zap, zph (n := n) h.1, zkj (L := L) h.2, List.map_cons]
   rfl
theorem zoB : ∀ {L : List (List Opt)} {j : Nat}, HasT H g j L → ∀ r ∈ qp g j L, zaV (okC H (n + 2)) r
 | [], _, _, r, hr => by cases hr
 | l :: L, j, h, r, hr => by
   rcases List.mem_cons.1 hr with rfl | hr
   · have h1 := ok_clsC (n := n) h.1
     cases l with
     | nil => exact ⟨True.intro, True.intro⟩
     | cons x t => exact ⟨h1, True.intro⟩
   · exact zoB (L := L) h.2 r hr
theorem conv_all {id ty : Nat} (h : HasT H g 0 L) (ho : H[id]? = some (obM ty 1 (qp g 0 L))) : qm H (n + 3) (slC id 1 (qp g 0 L)) = some (.sl 1 (L.map zx)) := by
 cases L with
 | nil => rfl
 | cons l L =>
   have h1 := zkj (n := n) h
   have hl : (qp g 0 (l :: L)).length = (l :: L).length := za8
   rw [zc0 (by rw [hl]; simp)]
   rw [zbO (by rw [hl]; simp)] at ho
   simp only [qm, ho]
   rw [List.drop_zero, List.take_of_length_le (Nat.le_refl _), h1]
theorem ok_all {id ty : Nat} (h : HasT H g 0 L) (ho : H[id]? = some (obM ty 1 (qp g 0 L))) : okC H (n + 3) (slC id 1 (qp g 0 L)) := by
 cases L with
 | nil => exact True.intro
 | cons l L =>
   have h1 := zoB (n := n) h
   have hl : (qp g 0 (l :: L)).length = (l :: L).length := za8
   rw [zc0 (by rw [hl]; simp)]
   rw [zbO (by rw [hl]; simp)] at ho
   simp only [okC, ho]
   refine ⟨by omega, fun r hr => h1 r ?_⟩
   exact List.mem_of_mem_drop (List.mem_of_mem_take hr)
end
end Go.Proofs.YtihpjcmloecaaaaGreat.Cw
namespace Go.Proofs.YtihpjcmloecaaaaGreat.Cw
open Go Go.Cw Go.Proofs
set_option linter.unusedVariables false
theorem pbt {c : Prop} {α : Type} {a b : α} (h : c) : (if pB c = true then a else b) = a := if_pos (zaM h)
theorem pbf {c : Prop} {α : Type} {a b : α} (h : ¬ c) : (if pB c = true then a else b) = b := if_neg (by rw [zad h]; simp)
noncomputable def zn0 : List Ent → Placed → Nat → List Ent
 | [], p, i => [(p, [i])]
 | e :: E, p, i => if pB (e.1 = p) then (e.1, e.2 ++ [i]) :: E else e :: zn0 E p i
theorem zdv {p : Placed} {i : Nat} : ∀ {E : List Ent}, ((∀ e ∈ E, e.1 ≠ p) ∧ zn0 E p i = E ++ [(p, [i])]) ∨ ∃ (j : Nat) (l : List Nat), E[j]? = some (p, l) ∧ (∀ k, k < j → ∀ e, E[k]? = some e → e.1 ≠ p) ∧ zn0 E p i = E.set j (p, l ++ [i])
 | [] => .inl ⟨fun e h => (by cases h), rfl⟩
 | e :: E => by
   by_cases h : e.1 = p
   · refine .inr ⟨0, e.2, by rw [← h]; rfl, fun k hk => by omega, ?_⟩
     simp only [zn0]
     rw [pbt h, h]; rfl
   · rcases zdv (p := p) (i := i) (E := E) with ⟨h1, h2⟩ | ⟨j, l, h1, h2, h3⟩
     · refine .inl ⟨fun x hx => ?_, ?_⟩
       · rcases List.mem_cons.1 hx with rfl | hx
         · exact h
         · exact h1 x hx
       · simp only [zn0]
         rw [pbf h, h2]; rfl
     · refine .inr ⟨j + 1, l, by simpa using h1, fun k hk x hx => ?_, ?_⟩
       · cases k with
         | zero => simp at hx; subst hx; exact h
         | succ k => exact h2 k (by omega) x (by simpa using hx)
       · simp only [zn0]
         rw [pbf h, h3]; rfl
noncomputable def zdg (p : Placed) : List Ent → List Nat
 | [] => []
 | e :: E => if pB (e.1 = p) then e.2 else zdg p E
theorem zmo {p q : Placed} {i : Nat} : ∀ {E : List Ent}, zdg q (zn0 E p i) = if pB (p = q) then zdg q E ++ [i] else zdg q E
 | [] => by
   show (if pB (p = q) = true then [i] else []) = if pB (p = q) then [] ++ [i] else []
   rfl
 | e :: E => by
   have ih := zmo (p := p) (q := q) (i := i) (E := E)
   show zdg q (if pB (e.1 = p) = true then (e.1, e.2 ++ [i]) :: E else e :: zn0 E p i) = if pB (p = q) = true then (if pB (e.1 = q) = true then e.2 else zdg q E) ++ [i] else (if pB (e.1 = q) = true then e.2 else zdg q E)
   by_cases h : e.1 = p
   · rw [pbt h]
     show (if pB (e.1 = q) = true then e.2 ++ [i] else zdg q E) = _
     by_cases hq : p = q
     · rw [pbt (h.trans hq), pbt hq, pbt (h.trans hq)]
     · have hn : ¬ e.1 = q := fun k => hq (h.symm.trans k)
       rw [pbf hn, pbf hq, pbf hn]
   · rw [pbf h]
     show (if pB (e.1 = q) = true then e.2 else zdg q (zn0 E p i)) = _
     by_cases hq : e.1 = q
     · have hpq : ¬ p = q := fun k => h (hq.trans k.symm)
       rw [pbt hq, pbf hpq, pbt hq]
     · rw [pbf hq, ih, pbf hq]
theorem zjX {p : Placed} : ∀ {E : List Ent}, (∀ e ∈ E, e.1 ≠ p) → zdg p E = []
 | [], _ => rfl
 | e :: E, h => by
   simp only [zdg]
   rw [pbf (h e (by simp)), zjX fun x hx => h x (by simp [hx])]
theorem zjW {p : Placed} {l : List Nat} : ∀ {E : List Ent} {j : Nat}, E[j]? = some (p, l) → (∀ k, k < j → ∀ e, E[k]? = some e → e.1 ≠ p) → zdg p E = l
 | [], j, h, _ => by simp at h
 | e :: E, 0, h, _ => by
   simp only [List.getElem?_cons_zero, Option.some.injEq] at h
   subst h
   show (if pB (p = p) = true then l else zdg p E) = l
   exact pbt rfl
 | e :: E, j + 1, h, hd => by
   simp only [zdg]
   rw [pbf (hd 0 (by omega) e rfl)]
   exact zjW (by simpa using h) fun k hk x hx => hd (k + 1) (by omega) x (by simpa using hx)
noncomputable def zbv (l : List Opt) : Nat → List Ent
 | 0 => []
 | n + 1 => match l[n]? with
   | some o => zn0 (zbv l n) o.place n
   | none => zbv l n
noncomputable def qw (l : List Opt) (p : Placed) (i : Nat) : Bool := match l[i]? with
 | some o => pB (o.place = p)
 | none => false
noncomputable def qe (l : List Opt) (p : Placed) (n : Nat) : List Nat := (List.range n).filter (qw l p)
theorem zmn {l : List Opt} {p : Placed} : ∀ {n : Nat}, zdg p (zbv l n) = qe l p n
 | 0 => rfl
 | n + 1 => by
   have ih := zmn (l := l) (p := p) (n := n)
   unfold qe at ih ⊢
   rw [List.range_succ, List.filter_append, ← ih]
   simp only [zbv]
   cases h : l[n]? with
   | none => simp [qw, h]
   | some o =>
     simp only [zmo]
     by_cases hp : o.place = p
     · rw [pbt hp]
       simp [qw, h, zaM hp]
     · rw [pbf hp]
       simp [qw, h, zad hp]
theorem grp_succ {l : List Opt} {n : Nat} {o : Opt} (h : l[n]? = some o) : zbv l (n + 1) = zn0 (zbv l n) o.place n := by simp only [zbv, h]
theorem add_len {p : Placed} {i : Nat} {E : List Ent} : (zn0 E p i).length ≤ E.length + 1 := by
 rcases zdv (p := p) (i := i) (E := E) with ⟨_, h⟩ | ⟨j, l, _, _, h⟩
 · rw [h]; simp
 · rw [h]; simp
theorem zo1 {l : List Opt} : ∀ {n : Nat}, (zbv l n).length ≤ n
 | 0 => Nat.le_refl _
 | n + 1 => by
   have ih := zo1 (l := l) (n := n)
   simp only [zbv]
   split
   · have := add_len (p := ‹Opt›.place) (i := n) (E := zbv l n); omega
   · omega
theorem zkb {l : List Opt} : ∀ {n : Nat}, ∀ e ∈ zbv l n, e.2.length ≤ n
 | 0, e, h => by cases h
 | n + 1, e, h => by
   have ih := zkb (l := l) (n := n)
   simp only [zbv] at h
   split at h
   · rename_i o _
     rcases zdv (p := o.place) (i := n) (E := zbv l n) with ⟨_, h2⟩ | ⟨j, l2, h1, _, h2⟩
     · rw [h2] at h
       rcases List.mem_append.1 h with h | h
       · have := ih e h; omega
       · rw [List.mem_singleton.1 h]; simp
     · rw [h2] at h
       rcases List.mem_or_eq_of_mem_set h with h | h
       · have := ih e h; omega
       · have := ih _ (List.mem_of_getElem? h1)
         rw [h]; simp at this ⊢; omega
   · have := ih e h; omega
end Go.Proofs.YtihpjcmloecaaaaGreat.Cw
namespace Go.Proofs.YtihpjcmloecaaaaGreat.Cw
open Go Go.Cw Go.Proofs
set_option linter.unusedVariables false
set_option maxRecDepth 100000
set_option maxHeartbeats 8000000
def keyA (p : Placed) : AV := .agg [.pv (ei p.time.weeks), .pv (ei p.time.day), .pv (ei p.time.start), .pv (ei p.time.len), .pv (ei p.room)]
theorem zhe (p : Placed) : zF Tryz.prog 92 [ag p.row] (fun r => r = keyA p) := by
 refine zh tok mixed 17 rfl (fn := Tryz.f92) (c := Tryz.f92.body.getD .skip) (by kernel_rfl) (by kernel_rfl) (by kernel_rfl) rfl 0 rfl ?_
 repeat' (first | refine o1 ?_ | refine o2 ?_ | refine k1 ?_ | refine k2 ?_ | refine k7 ?_ | refine And.intro ?_ ?_ | (change zz _ _ _ _; refine zd rfl trivial ?_) | exact (by kernel_rfl : zl _ _ = true) | fail)
 rfl
theorem zpG (l : List Opt) (hl : l.length ≤ 1000) : qb Tryz.prog 45 [.pv (.sl 6 (l.map Opt.row))] [] (fun r H' => r = .mp 0 ∧ H' = [zgM 85 (zbv l l.length)]) := by
 refine zh tok mixed 28 rfl (fn := Tryz.f45) (c := Tryz.f45.body.getD .skip) (by kernel_rfl) (by kernel_rfl) (by kernel_rfl) rfl 0 rfl ?_
 repeat' (first | refine o1 ?_ | refine o2 ?_ | refine k1 ?_ | refine k2 ?_ | refine k4 ?_ | refine za ?_ | fail)
 refine zy (fun i : Nat => [(3, .mp 0), (7, .pv (.sl 6 (l.map Opt.row))), (8, zf .i64 l.length), (9, zf .i64 i)]) (fun i => zhv 85 3 (zbv l i)) (fun i => i ≤ l.length) (fun i => l.length - i) 0 (Nat.zero_le _) ?_ ?_
 · exact zG [0, 6, 7, 8, 9] rfl rfl ⟨rfl, trivial⟩ (by repeat' (first | exact trivial | exact rfl | refine And.intro ?_ ?_))
 intro i hi
 have hG : ∀ {Γ : zr} {H : zq}, H = zhv 85 3 (zbv l l.length) → Cw.get Γ 3 = some (.mp 0) → zC 28 0 Γ H [(3, .mp 0)] [zgM 85 (zbv l l.length)] := fun e h => by subst e; exact zns h rfl
 unfold zhv
 have hfarE := fun k m hk => zmP (k := k) (m := m) (E := zbv l i) (b := 0) hk
 have hfarT := fun k m hk => zlX (ty := 3) (k := k) (m := m) (E := zbv l i) (i0 := 5) hk
 generalize hT : ziw 3 (zbv l i) = T at *
 rcases Nat.lt_or_ge i l.length with hlt | hge
 · obtain ⟨o, ho⟩ := qd hlt
   have hgs := grp_succ ho
   have hgl := zo1 (l := l) (n := i)
   have hsm := zkb (l := l) (n := i)
   rcases zdv (p := o.place) (i := i) (E := zbv l i) with ⟨hnone, hadd⟩ | ⟨j, m, hj, hdis, hadd⟩
   · have hget := zgY (k := 5) (b := 0) hnone
     have hput := fun v ck => zl9 (k := 5) (b := 0) (v := v) (ck := ck) hnone
     have hck := fun ck => ck_none (k := 5) (b := 0) (ck := ck) hnone
     generalize zbv l i = E at *
     refine zo ?_
     repeat' (first | ((show zS _ _ _ _ (.region 4 _ _) _ _ _; refine zL (k := 1) (qQ.room (Nat.zero_le _) (Nat.le_of_ble_eq_true rfl) (fun _ _ h => h) rfl ⟨.inl (by decide), hfarE 1 1 (by decide), hfarT 1 1 (by decide)⟩) ?_)) | ((show zS _ _ _ _ (.region 5 _ _) _ _ _; refine xm (k := 2) (qQ.room (Nat.zero_le _) (Nat.le_of_ble_eq_true rfl) (fun _ _ h => h) rfl ⟨.inl (by decide), hfarE 2 2 (by decide), .inl (by decide), rfl, hfarT 2 2 (by decide)⟩) ?_)) | ((change zN T _; refine zo ?_)) | (refine zw none hget ?_) | refine o1 ?_ | refine o2 ?_ | refine k1 ?_ | refine k2 ?_ | refine k3 ?_ | refine k4 ?_ | refine k6 ?_ | refine And.intro ?_ ?_ | refine o3 ?_ | refine o4 ?_ | (intro h; first | exact Bool.noConfusion h | exact nz _ h | exact nl h | (simp at h; done) | (simp at h; first | (exfalso; omega) | skip) | skip) | (refine (?_ : qt _ = zb _); rfl) | exact Nat.le_of_ble_eq_true rfl | exact (by kernel_rfl : zl _ _ = true) | refine zfh (zh7 ?_) | refine zc (by omega) (by omega) ?_ | refine ⟨_, _, (by first | rfl | assumption), zg (by assumption), ?_⟩ | refine zw _ (xG rfl) (zw 1 rfl ?_) | (change zI _ _ _ _ _; refine zD rfl (by repeat' (first | trivial | refine And.intro ?_ ?_ | (show 0 + _ ≤ List.length _; simp))) zT.refl (zhe o.place) rfl ?_) | fail)
     refine ⟨i + 1, hlt, by omega, ?_⟩
     rw [hgs, hadd]
     refine zG (rnK (E.length + 1) E.length 3) (zl7 (by decide) (by decide)) rfl ⟨?_, ?_⟩ (by repeat' (first | exact trivial | exact rfl | refine And.intro ?_ ?_))
     · show some (some (⟨_, _, _, .mp _ _ (zjp (zdR o.place) _ _ _) (ckM (zdR o.place) _ _)⟩ : AObj)) = some (some ⟨_, _, _, .mp _ _ ((zdN 5 0 (E ++ [(o.place, [i])])).map (renE _ _)) _⟩)
       rw [hput, hck, ren_none, List.length_append]
       rfl
     · have hset : E ++ [(o.place, [i])] = (E ++ [(o.place, [])]).set E.length (o.place, [i]) := by simp
       rw [hset]
       refine zj8 (by simp) (by omega) (fun q hq hne e he => ?_) rfl
       rw [List.getElem?_append_left (by omega)] at he
       show T[q]? = _
       rw [← hT]; exact zfN he
   · have hget := zgX (k := 5) (b := 0) hj hdis
     have hput := fun v ck => zl8 (k := 5) (b := 0) (v := v) (ck := ck) hj hdis
     have hck := fun ck => ck_some (k := 5) (b := 0) (ck := ck) hj hdis
     have hTj : T[j]? = some (some ⟨3, 1, false, .p (m.map qz)⟩) := by rw [← hT]; exact zfN hj
     have hm : m.length ≤ i := hsm _ (List.mem_of_getElem? hj)
     generalize zbv l i = E at *
     rw [Nat.zero_add] at hget
     refine zo ?_
     repeat' (first | ((show zS _ _ _ _ (.region 4 _ _) _ _ _; refine zL (k := 1) (qQ.room (Nat.zero_le _) (Nat.le_of_ble_eq_true rfl) (fun _ _ h => h) rfl ⟨.inl (by decide), hfarE 1 1 (by decide), hfarT 1 1 (by decide)⟩) ?_)) | ((show zS _ _ _ _ (.region 5 _ _) _ _ _; refine xm (k := 2) (qQ.room (Nat.zero_le _) (Nat.le_of_ble_eq_true rfl) (fun _ _ h => h) rfl ⟨.inl (by decide), hfarE 2 2 (by decide), .inl (by decide), rfl, hfarT 2 2 (by decide)⟩) ?_)) | ((change zN T _; refine zo ?_)) | (refine zw (some (.ms (j + 5) 1 0 m.length)) hget ?_) | (refine zw (Rows.p ((m ++ [i]).map qz)) (by simp [qz, ei]) (zw (m ++ [i]).length (by simp [zb]) ?_)) | ((change zN (List.set T _ none) _; refine zo ?_)) | refine o1 ?_ | refine o2 ?_ | refine k1 ?_ | refine k2 ?_ | refine k3 ?_ | refine k4 ?_ | refine k6 ?_ | refine And.intro ?_ ?_ | refine o3 ?_ | refine o4 ?_ | (intro h; first | exact Bool.noConfusion h | exact nz _ h | exact nl h | (simp at h; done) | (simp at h; first | (exfalso; omega) | skip) | skip) | (refine (?_ : qt _ = zb _); rfl) | exact (by kernel_rfl : zl _ _ = true) | refine zfh (zh7 ?_) | refine zc (by omega) (by omega) ?_ | refine ⟨_, _, (by first | rfl | assumption), zg (by assumption), ?_⟩ | (refine (?_ : _ ≤ 140737488355328); simp [zb] <;> omega) | (refine (?_ : _ ≤ 9223372036854775807); simp [zb] <;> omega) | (refine (?_ : _ = zb _); simp [zb] <;> omega) | (change zI _ _ _ _ _; refine zD rfl (by repeat' (first | trivial | refine And.intro ?_ ?_ | (show 0 + _ ≤ List.length _; simp))) zT.refl (zhe o.place) rfl ?_) | (((zch => whnf); simp only [List.getElem?_cons_succ, hTj])) | fail)
     have hjl : j < E.length := (List.getElem?_eq_some_iff.1 hj).1
     refine ⟨i + 1, hlt, by omega, ?_⟩
     rw [hgs, hadd]
     refine zG (rnK E.length j 3) (zl7 (by decide) (by decide)) rfl ⟨?_, ?_⟩ (by repeat' (first | exact trivial | exact rfl | refine And.intro ?_ ?_))
     · show some (some (⟨_, _, _, .mp _ _ (zjp (zdR o.place) _ _ _) (ckM (zdR o.place) _ _)⟩ : AObj)) = some (some ⟨_, _, _, .mp _ _ ((zdN 5 0 (E.set j (o.place, m ++ [i]))).map (renE _ _)) _⟩)
       rw [hput, hck, ren_some hjl, List.length_set, Nat.zero_add]
     · refine zj8 (by simp) hjl (fun q hq hne e he => ?_) rfl
       show (T.set j none)[q]? = _
       rw [List.getElem?_set_ne (fun k => hne k.symm), ← hT]; exact zfN he
 · obtain rfl : i = l.length := by omega
   refine zo ?_
   repeat' (first | ((show zS _ _ _ _ (.region 7 _ _) _ _ _; refine zfy (hG (by rw [← hT]; rfl) rfl) ?_)) | refine o1 ?_ | refine o2 ?_ | refine k1 ?_ | refine k2 ?_ | refine k3 ?_ | refine k7 ?_ | refine k8 ?_ | refine And.intro ?_ ?_ | (intro h; first | exact Bool.noConfusion h | exact nz _ h | exact nl h | (simp at h; done) | (simp at h; first | (exfalso; omega) | skip) | skip) | fail)
   exact qv [0] [zgM 85 (zbv l l.length)] rfl rfl ⟨(by show some (some _) = some (some (zd5 _ _ _)); rw [zc6 xl]), trivial⟩ (r' := .mp 0) rfl ⟨rfl, rfl⟩
end Go.Proofs.YtihpjcmloecaaaaGreat.Cw
namespace Go.Proofs.YtihpjcmloecaaaaGreat.Cw
open Go Go.Cw Go.Proofs
set_option linter.unusedVariables false
theorem zaD {l : List Opt} {i : Nat} {o : Opt} {p : Placed} (h : l[i]? = some o) (hp : o.place = p) : qw l p i = true := by unfold qw; rw [h]; exact zaM hp
theorem zfS {l : List Opt} {i : Nat} {o : Opt} {p : Placed} (h : l[i]? = some o) (hp : ¬ o.place = p) : qw l p i = false := by unfold qw; rw [h]; exact zad hp
theorem zdB {l : List Opt} {i : Nat} {p : Placed} : qw l p i = true ↔ ∃ o, l[i]? = some o ∧ o.place = p := by
 unfold qw
 cases h : l[i]? with
 | none => simp
 | some o =>
   simp only [Option.some.injEq, exists_eq_left']
   by_cases hp : o.place = p
   · simp [zaM hp, hp]
   · simp [zad hp, hp]
theorem zbZ {l : List Opt} {p : Placed} {n i : Nat} : i ∈ qe l p n ↔ i < n ∧ qw l p i = true := by
 unfold qe; rw [List.mem_filter, List.mem_range]
theorem zaH {l : List Opt} {p : Placed} {n : Nat} (h : qw l p n = true) : qe l p (n + 1) = qe l p n ++ [n] := by
 unfold qe; rw [List.range_succ, List.filter_append]; simp [h]
theorem zby {l : List Opt} {p : Placed} {n : Nat} (h : qw l p n = false) : qe l p (n + 1) = qe l p n := by
 unfold qe; rw [List.range_succ, List.filter_append]; simp [h]
theorem zc1 {l : List Opt} {p : Placed} : ∀ {n : Nat}, (qe l p n).length ≤ n
 | 0 => Nat.le_refl _
 | n + 1 => by
   have ih := zc1 (l := l) (p := p) (n := n)
   cases h : qw l p n with
   | true => rw [zaH h]; simp; exact ih
   | false => rw [zby h]; omega
theorem zd1 {l : List Opt} {p : Placed} {i : Nat} (h : qw l p i = true) : ∀ {n : Nat}, i < n → ∃ r, qe l p n = qe l p i ++ i :: r
 | n + 1, hn => by
   rcases Nat.eq_or_lt_of_le (Nat.le_of_lt_succ hn) with e | e
   · subst e; exact ⟨[], zaH h⟩
   · obtain ⟨r, hr⟩ := zd1 h e
     cases hk : qw l p n with
     | true => exact ⟨r ++ [n], by rw [zaH hk, hr]; simp⟩
     | false => exact ⟨r, by rw [zby hk, hr]⟩
 | 0, hn => by omega
theorem zcq {l : List Opt} {p : Placed} {i n : Nat} (h : qw l p i = true) (hn : i < n) : (qe l p n)[(qe l p i).length]? = some i := by
 obtain ⟨r, hr⟩ := zd1 h hn
 rw [hr, List.getElem?_append_right (Nat.le_refl _)]; simp
def qM (p : Placed) (r : Int) : Placed := ⟨p.time, r⟩
noncomputable def zaW (l : List Opt) (i : Nat) (r : Int) : Option Nat := match l[i]? with
 | some o => (qe l (qM o.place r) l.length)[(qe l o.place i).length]?
 | none => none
theorem zmu {l : List Opt} {i j : Nat} {r : Int} (h : zaW l i r = some j) : j < l.length := by
 unfold zaW at h
 split at h
 · exact (zbZ.1 (List.mem_of_getElem? h)).1
 · cases h
theorem img_self {l : List Opt} {i : Nat} {o : Opt} (h : l[i]? = some o) : zaW l i o.place.room = some i := by
 unfold zaW
 rw [h]
 exact zcq (zaD h rfl) (List.getElem?_eq_some_iff.1 h).1
def zfz (r a b : Int) : Int := if r = a then b else if r = b then a else r
noncomputable def zcZ (l : List Opt) (a b : Int) (i : Nat) : Option Nat := match l[i]? with
 | some o => zaW l i (zfz o.place.room a b)
 | none => none
def okO (l : List Opt) (a b : Int) (i : Nat) : Prop := ∃ (j : Nat) (o q : Opt), zcZ l a b i = some j ∧ l[i]? = some o ∧ l[j]? = some q ∧ o.charges = q.charges
noncomputable def xr (l : List Opt) (a b : Int) (n : Nat) : List Nat := (List.range n).filterMap (zcZ l a b)
def zcT (l : List Opt) (a b : Int) : Prop := ∀ i, i < l.length → okO l a b i
noncomputable def zlp (l : List Opt) (a b : Int) : List Nat := if pB (zcT l a b) then xr l a b l.length else []
theorem zaP {l : List Opt} {a b : Int} {n j : Nat} (h : zcZ l a b n = some j) : xr l a b (n + 1) = xr l a b n ++ [j] := by
 unfold xr; rw [List.range_succ, List.filterMap_append]; simp [h]
theorem imgs_len {l : List Opt} {a b : Int} {n : Nat} : (xr l a b n).length ≤ n := by
 unfold xr
 have := List.length_filterMap_le (zcZ l a b) (List.range n)
 rwa [List.length_range] at this
theorem zke {p : Placed} : ∀ {E : List Ent} {b : Nat}, (∀ e ∈ E, e.1 ≠ p) → zfg (zdR p) (zcg b E) = none
 | [], b, _ => rfl
 | e :: E, b, h => by
   simp only [zcg, zfg]
   rw [zh0 fun q => h e (by simp) q.symm]
   exact zke fun e he => h e (by simp [he])
theorem zkd {p : Placed} {l : List Nat} : ∀ {E : List Ent} {b j : Nat}, E[j]? = some (p, l) → (∀ i, i < j → ∀ e, E[i]? = some e → e.1 ≠ p) → zfg (zdR p) (zcg b E) = some (.pv (.sl 1 (l.map qz)))
 | [], b, j, h, _ => by simp at h
 | e :: E, b, 0, h, _ => by
   simp only [List.getElem?_cons_zero, Option.some.injEq] at h
   subst h
   simp only [zcg, zfg]
   rw [ziX.2 rfl]; rfl
 | e :: E, b, j + 1, h, hd => by
   simp only [zcg, zfg]
   rw [zh0 fun q => hd 0 (by omega) e rfl q.symm]
   exact zkd (E := E) (b := b + 1) (j := j) (by simpa using h) fun i hi e he => hd (i + 1) (by omega) e (by simpa using he)
theorem zmE {p : Placed} {E : List Ent} : (zfg (zdR p) (zcg 0 E) = none ∧ zdg p E = []) ∨ zfg (zdR p) (zcg 0 E) = some (.pv (.sl 1 ((zdg p E).map qz))) := by
 rcases zdv (p := p) (i := 0) (E := E) with ⟨h, _⟩ | ⟨j, l, h1, h2, _⟩
 · exact .inl ⟨zke h, zjX h⟩
 · exact .inr (by rw [zkd h1 h2, zjW h1 h2])
end Go.Proofs.YtihpjcmloecaaaaGreat.Cw
namespace Go.Proofs.YtihpjcmloecaaaaGreat.Cw
open Go Go.Cw Go.Proofs
set_option linter.unusedVariables false
set_option maxRecDepth 100000
set_option maxHeartbeats 8000000
theorem nat_ints {l : List Nat} : (l.map fun n => ((n : Nat) : Int)).map (fun n => [ei n]) = l.map qz := by rw [List.map_map]; rfl
theorem c_idxNat (l : List Nat) (n : Nat) (hl : l.length ≤ 100000) : zF Tryz.prog 93 [.pv (.sl 1 (l.map qz)), zf .i64 n] (fun r => r = zf .i64 (idxN (l.map fun n => ((n : Nat) : Int)) n)) := by
 have := zm1 (l.map fun n => ((n : Nat) : Int)) n (by rw [List.length_map]; exact hl)
 unfold qN at this
 rw [nat_ints] at this
 exact this
theorem idx_at {l : List Opt} {p : Placed} {i n : Nat} (h : qw l p i = true) (hn : i < n) : idxN ((qe l p n).map fun n => ((n : Nat) : Int)) i = ((qe l p i).length : Int) := by
 unfold idxN
 refine zd8 (i := (qe l p i).length) (x := ((i : Nat) : Int)) (fun j hj q hq => ?_) ?_ (zaM rfl)
 · obtain ⟨r, hr⟩ := zd1 h hn
   rw [hr, List.getElem?_map, List.getElem?_append_left hj] at hq
   obtain ⟨m, hm, rfl⟩ := Option.map_eq_some_iff.1 hq
   have := (zbZ.1 (List.mem_of_getElem? hm)).1
   exact zad (by omega)
 · rw [List.getElem?_map, zcq h hn]; rfl
def imgA : Option Nat → AV
 | some j => .tup [zf .i64 j, zm true]
 | none => .tup [zf .i64 (0 : Nat), zm false]
theorem c_image (l : List Opt) (i : Nat) (r : Int) (hl : l.length ≤ 1000) (hi : i < l.length) : qb Tryz.prog 46 [.mp 0, .pv (.sl 6 (l.map Opt.row)), zf .i64 i, zf .i64 r] [zgM 85 (zbv l l.length)] (fun a H' => a = imgA (zaW l i r) ∧ H' = [zgM 85 (zbv l l.length)]) := by
 obtain ⟨o, ho⟩ := qd hi
 have hlk := fun p => zmn (l := l) (p := p) (n := l.length)
 have hp := zaD ho rfl
 have hidx := idx_at hp hi
 have hlen := fun p => zc1 (l := l) (p := p) (n := l.length)
 have hci := c_idxNat (qe l o.place l.length) i (by have := hlen o.place; omega)
 rw [hidx] at hci
 have him : zaW l i r = (qe l (qM o.place r) l.length)[(qe l o.place i).length]? := by unfold zaW; rw [ho]
 rw [him]
 have hne : qe l o.place l.length ≠ [] := fun e => by have := zcq hp hi; rw [e] at this; simp at this
 have hg1 : zfg (zdR o.place) (zcg 0 (zbv l l.length)) = some (.pv (.sl 1 ((qe l o.place l.length).map qz))) := by
  rcases zmE (p := o.place) (E := zbv l l.length) with ⟨_, h⟩ | h
  · rw [hlk] at h; exact absurd h hne
  · rw [hlk] at h; exact h
 have hl2 := zc1 (l := l) (p := o.place) (n := i)
 have hlw := hlen (qM o.place r)
 rcases zmE (p := qM o.place r) (E := zbv l l.length) with ⟨hg2, hz⟩ | hg2
 · rw [hlk] at hz
   rw [hz]
   generalize qe l o.place l.length = L at *
   generalize (qe l o.place i).length = k at *
   generalize zbv l l.length = E at *
   refine zh tok mixed 37 rfl (fn := Tryz.f46) (c := Tryz.f46.body.getD .skip) (by kernel_rfl) (by kernel_rfl) (by kernel_rfl) rfl 1 rfl ?_
   repeat' (first | (refine zw (some (.pv (.sl 1 (L.map qz)))) hg1 ?_) | (refine zw none hg2 ?_) | (refine ⟨4, rfl, Nat.le_of_ble_eq_true rfl, ?_⟩) | refine o1 ?_ | refine o2 ?_ | refine k1 ?_ | refine k2 ?_ | refine k3 ?_ | refine k7 ?_ | refine And.intro ?_ ?_ | (intro h; first | exact Bool.noConfusion h | exact nz _ h | exact nl h | (simp at h; done) | (simp at h; first | (exfalso; omega) | skip) | skip) | exact (by kernel_rfl : zl _ _ = true) | refine ⟨_, _, (by first | rfl | assumption), zg (by assumption), ?_⟩ | (change zn _ _ _ _ _; refine zA rfl (by repeat' (first | trivial | refine And.intro ?_ ?_ | (show 0 + _ ≤ List.length _; simp))) zT.refl (zhe o.place) rfl ?_) | (change zn _ _ _ _ _; refine zA rfl (by repeat' (first | trivial | refine And.intro ?_ ?_ | (show 0 + _ ≤ List.length _; simp))) zT.refl (hci) rfl ?_) | fail)
   exact qv [0] [zgM 85 E] rfl rfl ⟨(by show some (some _) = some (some (zd5 _ _ _)); rw [zc6 xl]), trivial⟩ (r' := imgA none) rfl ⟨rfl, rfl⟩
 · rw [hlk] at hg2
   generalize qe l (qM o.place r) l.length = M at *
   generalize qe l o.place l.length = L at *
   generalize (qe l o.place i).length = k at *
   generalize zbv l l.length = E at *
   rcases hMk : M[k]? with _ | j
   · have hle := List.getElem?_eq_none_iff.1 hMk
     refine zh tok mixed 37 rfl (fn := Tryz.f46) (c := Tryz.f46.body.getD .skip) (by kernel_rfl) (by kernel_rfl) (by kernel_rfl) rfl 1 rfl ?_
     repeat' (first | (refine zw (some (.pv (.sl 1 (L.map qz)))) hg1 ?_) | (refine zw (some (.pv (.sl 1 (M.map qz)))) hg2 ?_) | (refine ⟨4, rfl, Nat.le_of_ble_eq_true rfl, ?_⟩) | refine o1 ?_ | refine o2 ?_ | refine k1 ?_ | refine k2 ?_ | refine k3 ?_ | refine k7 ?_ | refine And.intro ?_ ?_ | (intro h; first | exact Bool.noConfusion h | exact nz _ h | exact nl h | (simp at h; done) | (simp at h; first | (exfalso; omega) | skip) | skip) | exact (by kernel_rfl : zl _ _ = true) | refine za ?_ | refine ⟨_, _, (by first | rfl | assumption), zg (by assumption), ?_⟩ | (change zn _ _ _ _ _; refine zA rfl (by repeat' (first | trivial | refine And.intro ?_ ?_ | (show 0 + _ ≤ List.length _; simp))) zT.refl (zhe o.place) rfl ?_) | (change zn _ _ _ _ _; refine zA rfl (by repeat' (first | trivial | refine And.intro ?_ ?_ | (show 0 + _ ≤ List.length _; simp))) zT.refl (hci) rfl ?_) | fail)
     all_goals first
      | (exfalso; omega)
      | exact qv [0] [zgM 85 E] rfl rfl ⟨(by show some (some _) = some (some (zd5 _ _ _)); rw [zc6 xl]), trivial⟩ (r' := imgA none) rfl ⟨rfl, rfl⟩
   · have hlt := (List.getElem?_eq_some_iff.1 hMk).1
     refine zh tok mixed 37 rfl (fn := Tryz.f46) (c := Tryz.f46.body.getD .skip) (by kernel_rfl) (by kernel_rfl) (by kernel_rfl) rfl 1 rfl ?_
     repeat' (first | (refine zw (some (.pv (.sl 1 (L.map qz)))) hg1 ?_) | (refine zw (some (.pv (.sl 1 (M.map qz)))) hg2 ?_) | (refine ⟨4, rfl, Nat.le_of_ble_eq_true rfl, ?_⟩) | refine o1 ?_ | refine o2 ?_ | refine k1 ?_ | refine k2 ?_ | refine k3 ?_ | refine k6 ?_ | refine k7 ?_ | refine And.intro ?_ ?_ | (intro h; first | exact Bool.noConfusion h | exact nz _ h | exact nl h | (simp at h; done) | (simp at h; first | (exfalso; omega) | skip) | skip) | exact (by kernel_rfl : zl _ _ = true) | refine za ?_ | refine ⟨_, _, (by first | rfl | assumption), zg (by assumption), ?_⟩ | (change zn _ _ _ _ _; refine zA rfl (by repeat' (first | trivial | refine And.intro ?_ ?_ | (show 0 + _ ≤ List.length _; simp))) zT.refl (zhe o.place) rfl ?_) | (change zn _ _ _ _ _; refine zA rfl (by repeat' (first | trivial | refine And.intro ?_ ?_ | (show 0 + _ ≤ List.length _; simp))) zT.refl (hci) rfl ?_) | fail)
     all_goals first
      | (exfalso; omega)
      | exact qv [0] [zgM 85 E] rfl rfl ⟨(by show some (some _) = some (some (zd5 _ _ _)); rw [zc6 xl]), trivial⟩ (r' := imgA (some j)) rfl ⟨rfl, rfl⟩
end Go.Proofs.YtihpjcmloecaaaaGreat.Cw
