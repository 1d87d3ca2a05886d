/-
  Part 4 of the proof (Tab, Ty, B0, BP, BQ, SB0, M1, M2, M3, BC, M4, M5, M6, BL, M7, SY1, SB1, SB2, SY2, SY3, SY4, SY5): what later parts use. No conditions.
-/
import Derived.Test.YtihpjcmloecaaaaGreatProg
import Derived.KernelRfl
import Derived.Test.YtihpjcmloecaaaaGreatMK3
namespace Go.Proofs.YtihpjcmloecaaaaGreat.Cw
open Go.Cw Go.Proofs
noncomputable def T : Tab := ⟨.node 105 (.mk 1 8 false .func [.val .nilFunc]) (.node 53 (.mk 1 8 false .func [.val .nilFunc]) (.node 25 (.mk 1 24 false (.slice 51) [.val (.slice none 0 0)]) (.node 13 (.mk 2 24 true (.struct [(0, 9), (1, 12)]) [.val (.string (⟨#[]⟩)), .val (.int .u64 0)]) (.node 7 (.mk 4 24 true (.struct [(0, 2), (1, 3), (2, 4), (3, 6)]) [.val (.int .i64 0), .val (.int .i64 0), .val (.bool false), .val (.int .u8 0)]) (.node 4 (.mk 1 1 false .bool [.val (.bool false)]) (.node 2 (.mk 1 8 false (.int .i64) [.val (.int .i64 0)]) (.node 1 (.mk 1 8 false .func [.val .nilFunc]) .nil .nil)
 (.node 3 (.mk 1 8 false (.int .i64) [.val (.int .i64 0)]) .nil .nil))
 (.node 6 (.mk 1 1 false (.int .u8) [.val (.int .u8 0)]) (.node 5 (.mk 1 1 false (.int .u8) [.val (.int .u8 0)]) .nil .nil) .nil))
 (.node 10 (.mk 1 16 false .str [.val (.string (⟨#[]⟩))]) (.node 9 (.mk 1 16 false .str [.val (.string (⟨#[]⟩))]) (.node 8 (.mk 4 24 true (.struct [(0, 2), (1, 3), (2, 4), (3, 6)]) [.val (.int .i64 0), .val (.int .i64 0), .val (.bool false), .val (.int .u8 0)]) .nil .nil) .nil)
 (.node 12 (.mk 1 8 false (.int .u64) [.val (.int .u64 0)]) (.node 11 (.mk 1 16 false .str [.val (.string (⟨#[]⟩))]) .nil .nil) .nil)))
 (.node 19 (.mk 1 8 true (.struct [(0, 17)]) [.val (.pointer none)]) (.node 16 (.mk 1 8 false (.ptr 199) [.val (.pointer none)]) (.node 15 (.mk 1 8 false (.ptr 196) [.val (.pointer none)]) (.node 14 (.mk 2 24 true (.struct [(0, 9), (1, 12)]) [.val (.string (⟨#[]⟩)), .val (.int .u64 0)]) .nil .nil) .nil)
 (.node 18 (.mk 1 8 true (.struct [(0, 17)]) [.val (.pointer none)]) (.node 17 (.mk 1 8 false (.ptr 207) [.val (.pointer none)]) .nil .nil) .nil))
 (.node 22 (.mk 1 24 false (.slice 3) [.val (.slice none 0 0)]) (.node 21 (.mk 1 4 false (.int .i32) [.val (.int .i32 0)]) (.node 20 (.mk 1 16 false .other [.val .nilIface]) .nil .nil) .nil)
 (.node 24 (.mk 1 8 false .func [.val .nilFunc]) (.node 23 (.mk 1 8 false .func [.val .nilFunc]) .nil .nil) .nil))))
 (.node 39 (.mk 1 8 false .func [.val .nilFunc]) (.node 32 (.mk 1 8 false .func [.val .nilFunc]) (.node 29 (.mk 4 80 true (.struct [(0, 25), (1, 26), (2, 27), (3, 3)]) [.val (.slice none 0 0), .val (.slice none 0 0), .val (.slice none 0 0), .val (.int .i64 0)]) (.node 27 (.mk 1 24 false (.slice 78) [.val (.slice none 0 0)]) (.node 26 (.mk 1 24 false (.slice 72) [.val (.slice none 0 0)]) .nil .nil)
 (.node 28 (.mk 4 80 true (.struct [(0, 25), (1, 26), (2, 27), (3, 3)]) [.val (.slice none 0 0), .val (.slice none 0 0), .val (.slice none 0 0), .val (.int .i64 0)]) .nil .nil))
 (.node 31 (.mk 1 8 false (.ptr 67) [.val (.pointer none)]) (.node 30 (.mk 1 8 false .func [.val .nilFunc]) .nil .nil) .nil))
 (.node 35 (.mk 1 24 false (.slice 22) [.val (.slice none 0 0)]) (.node 34 (.mk 1 24 false (.slice 33) [.val (.slice none 0 0)]) (.node 33 (.mk 2 16 true (.array 2 3) [.val (.int .i64 0), .val (.int .i64 0)]) .nil .nil) .nil)
 (.node 38 (.mk 1 8 false .func [.val .nilFunc]) (.node 37 (.mk 1 8 false .func [.val .nilFunc]) .nil .nil) .nil)))
 (.node 47 (.mk 1 8 false .func [.val .nilFunc]) (.node 42 (.mk 1 8 false (.int .i64) [.val (.int .i64 0)]) (.node 41 (.mk 1 8 false .func [.val .nilFunc]) (.node 40 (.mk 1 8 false .func [.val .nilFunc]) .nil .nil) .nil)
 (.node 45 (.mk 1 8 false .func [.val .nilFunc]) (.node 44 (.mk 1 8 false .func [.val .nilFunc]) .nil .nil) .nil))
 (.node 50 (.mk 1 8 false .func [.val .nilFunc]) (.node 49 (.mk 1 8 false .func [.val .nilFunc]) (.node 48 (.mk 1 8 false .func [.val .nilFunc]) .nil .nil) .nil)
 (.node 52 (.mk 1 8 false .func [.val .nilFunc]) (.node 51 (.mk 1 24 false (.slice 62) [.val (.slice none 0 0)]) .nil .nil) .nil)))))
 (.node 79 (.mk 1 8 false .func [.val .nilFunc]) (.node 67 (.mk 2 32 true (.struct [(0, 22), (1, 3)]) [.val (.slice none 0 0), .val (.int .i64 0)]) (.node 61 (.mk 6 64 true (.struct [(0, 59), (5, 60)]) [.val (.int .i64 0), .val (.int .i64 0), .val (.int .i64 0), .val (.int .i64 0), .val (.int .i64 0), .val (.slice none 0 0)]) (.node 58 (.mk 5 40 true (.struct [(0, 57), (4, 3)]) [.val (.int .i64 0), .val (.int .i64 0), .val (.int .i64 0), .val (.int .i64 0), .val (.int .i64 0)]) (.node 56 (.mk 4 32 true (.struct [(0, 3), (1, 3), (2, 3), (3, 3)]) [.val (.int .i64 0), .val (.int .i64 0), .val (.int .i64 0), .val (.int .i64 0)]) (.node 55 (.mk 1 8 false .func [.val .nilFunc]) .nil .nil)
 (.node 57 (.mk 4 32 true (.struct [(0, 3), (1, 3), (2, 3), (3, 3)]) [.val (.int .i64 0), .val (.int .i64 0), .val (.int .i64 0), .val (.int .i64 0)]) .nil .nil))
 (.node 60 (.mk 1 24 false (.slice 98) [.val (.slice none 0 0)]) (.node 59 (.mk 5 40 true (.struct [(0, 57), (4, 3)]) [.val (.int .i64 0), .val (.int .i64 0), .val (.int .i64 0), .val (.int .i64 0), .val (.int .i64 0)]) .nil .nil) .nil))
 (.node 64 (.mk 1 8 false .func [.val .nilFunc]) (.node 63 (.mk 1 8 false .func [.val .nilFunc]) (.node 62 (.mk 6 64 true (.struct [(0, 59), (5, 60)]) [.val (.int .i64 0), .val (.int .i64 0), .val (.int .i64 0), .val (.int .i64 0), .val (.int .i64 0), .val (.slice none 0 0)]) .nil .nil) .nil)
 (.node 66 (.mk 2 32 true (.struct [(0, 22), (1, 3)]) [.val (.slice none 0 0), .val (.int .i64 0)]) (.node 65 (.mk 1 8 false .func [.val .nilFunc]) .nil .nil) .nil)))
 (.node 73 (.mk 1 8 false .func [.val .nilFunc]) (.node 70 (.mk 1 8 false .func [.val .nilFunc]) (.node 69 (.mk 1 8 false .func [.val .nilFunc]) (.node 68 (.mk 1 8 false .func [.val .nilFunc]) .nil .nil) .nil)
 (.node 72 (.mk 4 48 true (.struct [(0, 3), (1, 3), (2, 3), (3, 22)]) [.val (.int .i64 0), .val (.int .i64 0), .val (.int .i64 0), .val (.slice none 0 0)]) (.node 71 (.mk 4 48 true (.struct [(0, 3), (1, 3), (2, 3), (3, 22)]) [.val (.int .i64 0), .val (.int .i64 0), .val (.int .i64 0), .val (.slice none 0 0)]) .nil .nil) .nil))
 (.node 76 (.mk 1 24 false (.slice 102) [.val (.slice none 0 0)]) (.node 75 (.mk 1 8 false .func [.val .nilFunc]) (.node 74 (.mk 1 24 false (.slice 4) [.val (.slice none 0 0)]) .nil .nil) .nil)
 (.node 78 (.mk 4 48 true (.struct [(0, 3), (1, 76), (2, 3), (3, 3)]) [.val (.int .i64 0), .val (.slice none 0 0), .val (.int .i64 0), .val (.int .i64 0)]) (.node 77 (.mk 4 48 true (.struct [(0, 3), (1, 76), (2, 3), (3, 3)]) [.val (.int .i64 0), .val (.slice none 0 0), .val (.int .i64 0), .val (.int .i64 0)]) .nil .nil) .nil))))
 (.node 93 (.mk 1 8 false .func [.val .nilFunc]) (.node 86 (.mk 1 8 false .func [.val .nilFunc]) (.node 83 (.mk 1 8 false (.map 3 4) [.val (.map none)]) (.node 81 (.mk 1 8 false .func [.val .nilFunc]) (.node 80 (.mk 1 8 false .func [.val .nilFunc]) .nil .nil)
 (.node 82 (.mk 1 8 false (.map 3 3) [.val (.map none)]) .nil .nil))
 (.node 85 (.mk 1 8 false (.map 130 22) [.val (.map none)]) (.node 84 (.mk 1 8 false (.map 130 22) [.val (.map none)]) .nil .nil) .nil))
 (.node 90 (.mk 1 8 false .func [.val .nilFunc]) (.node 89 (.mk 1 8 false .func [.val .nilFunc]) (.node 88 (.mk 1 8 false .func [.val .nilFunc]) .nil .nil) .nil)
 (.node 92 (.mk 1 8 false .func [.val .nilFunc]) (.node 91 (.mk 1 8 false .func [.val .nilFunc]) .nil .nil) .nil)))
 (.node 99 (.mk 1 8 false .func [.val .nilFunc]) (.node 96 (.mk 1 8 false (.ptr 62) [.val (.pointer none)]) (.node 95 (.mk 1 8 false .func [.val .nilFunc]) (.node 94 (.mk 1 8 false .func [.val .nilFunc]) .nil .nil) .nil)
 (.node 98 (.mk 2 16 true (.struct [(0, 3), (1, 3)]) [.val (.int .i64 0), .val (.int .i64 0)]) (.node 97 (.mk 2 16 true (.struct [(0, 3), (1, 3)]) [.val (.int .i64 0), .val (.int .i64 0)]) .nil .nil) .nil))
 (.node 102 (.mk 3 24 true (.struct [(0, 3), (1, 3), (2, 3)]) [.val (.int .i64 0), .val (.int .i64 0), .val (.int .i64 0)]) (.node 101 (.mk 3 24 true (.struct [(0, 3), (1, 3), (2, 3)]) [.val (.int .i64 0), .val (.int .i64 0), .val (.int .i64 0)]) (.node 100 (.mk 1 8 false .func [.val .nilFunc]) .nil .nil) .nil)
 (.node 104 (.mk 1 8 false .func [.val .nilFunc]) (.node 103 (.mk 1 8 false .func [.val .nilFunc]) .nil .nil) .nil))))))
 (.node 157 (.mk 1 8 false .func [.val .nilFunc]) (.node 132 (.mk 1 8 false .func [.val .nilFunc]) (.node 119 (.mk 1 8 false .func [.val .nilFunc]) (.node 113 (.mk 1 8 false .func [.val .nilFunc]) (.node 109 (.mk 1 8 false .func [.val .nilFunc]) (.node 107 (.mk 1 8 false .func [.val .nilFunc]) (.node 106 (.mk 1 8 false .func [.val .nilFunc]) .nil .nil)
 (.node 108 (.mk 1 8 false .func [.val .nilFunc]) .nil .nil))
 (.node 111 (.mk 1 8 false .func [.val .nilFunc]) (.node 110 (.mk 1 8 false .func [.val .nilFunc]) .nil .nil) .nil))
 (.node 116 (.mk 1 8 false .func [.val .nilFunc]) (.node 115 (.mk 1 8 false .func [.val .nilFunc]) (.node 114 (.mk 1 8 false .func [.val .nilFunc]) .nil .nil) .nil)
 (.node 118 (.mk 1 8 false .func [.val .nilFunc]) (.node 117 (.mk 1 8 false .func [.val .nilFunc]) .nil .nil) .nil)))
 (.node 126 (.mk 1 8 false .func [.val .nilFunc]) (.node 123 (.mk 1 8 false .func [.val .nilFunc]) (.node 122 (.mk 1 8 false .func [.val .nilFunc]) (.node 121 (.mk 1 8 false .func [.val .nilFunc]) .nil .nil) .nil)
 (.node 125 (.mk 1 8 false .func [.val .nilFunc]) (.node 124 (.mk 1 8 false .func [.val .nilFunc]) .nil .nil) .nil))
 (.node 129 (.mk 5 40 true (.array 5 3) [.val (.int .i64 0), .val (.int .i64 0), .val (.int .i64 0), .val (.int .i64 0), .val (.int .i64 0)]) (.node 128 (.mk 1 8 false .func [.val .nilFunc]) (.node 127 (.mk 1 8 false .func [.val .nilFunc]) .nil .nil) .nil)
 (.node 131 (.mk 1 8 false .func [.val .nilFunc]) (.node 130 (.mk 5 40 true (.array 5 3) [.val (.int .i64 0), .val (.int .i64 0), .val (.int .i64 0), .val (.int .i64 0), .val (.int .i64 0)]) .nil .nil) .nil))))
 (.node 145 (.mk 1 8 false .func [.val .nilFunc]) (.node 139 (.mk 1 24 true (.struct [(0, 22)]) [.val (.slice none 0 0)]) (.node 136 (.mk 4 32 true (.array 4 3) [.val (.int .i64 0), .val (.int .i64 0), .val (.int .i64 0), .val (.int .i64 0)]) (.node 134 (.mk 1 8 false .func [.val .nilFunc]) (.node 133 (.mk 1 8 false .func [.val .nilFunc]) .nil .nil)
 (.node 135 (.mk 1 8 false .func [.val .nilFunc]) .nil .nil))
 (.node 138 (.mk 1 24 true (.struct [(0, 22)]) [.val (.slice none 0 0)]) (.node 137 (.mk 1 8 false (.ptr 139) [.val (.pointer none)]) .nil .nil) .nil))
 (.node 142 (.mk 1 8 false .func [.val .nilFunc]) (.node 141 (.mk 1 8 false .func [.val .nilFunc]) (.node 140 (.mk 1 8 false .func [.val .nilFunc]) .nil .nil) .nil)
 (.node 144 (.mk 1 8 false .func [.val .nilFunc]) (.node 143 (.mk 1 8 false .func [.val .nilFunc]) .nil .nil) .nil)))
 (.node 151 (.mk 1 8 false .func [.val .nilFunc]) (.node 148 (.mk 1 8 false .func [.val .nilFunc]) (.node 147 (.mk 1 8 false .func [.val .nilFunc]) (.node 146 (.mk 1 8 false .func [.val .nilFunc]) .nil .nil) .nil)
 (.node 150 (.mk 1 8 false .func [.val .nilFunc]) (.node 149 (.mk 1 8 false .func [.val .nilFunc]) .nil .nil) .nil))
 (.node 154 (.mk 1 8 false (.int .u64) [.val (.int .u64 0)]) (.node 153 (.mk 1 8 false .func [.val .nilFunc]) (.node 152 (.mk 1 8 false .func [.val .nilFunc]) .nil .nil) .nil)
 (.node 156 (.mk 1 8 false .func [.val .nilFunc]) (.node 155 (.mk 1 8 false .func [.val .nilFunc]) .nil .nil) .nil)))))
 (.node 183 (.mk 1 8 false (.ptr 3) [.val (.pointer none)]) (.node 171 (.mk 1 8 false .func [.val .nilFunc]) (.node 165 (.mk 1 8 false .func [.val .nilFunc]) (.node 162 (.mk 1 8 false .func [.val .nilFunc]) (.node 159 (.mk 1 8 false (.int .i64) [.val (.int .i64 0)]) (.node 158 (.mk 1 8 false .func [.val .nilFunc]) .nil .nil)
 (.node 161 (.mk 1 8 false .func [.val .nilFunc]) .nil .nil))
 (.node 164 (.mk 1 8 false .func [.val .nilFunc]) (.node 163 (.mk 1 8 false .func [.val .nilFunc]) .nil .nil) .nil))
 (.node 168 (.mk 1 8 false (.int .u64) [.val (.int .u64 0)]) (.node 167 (.mk 1 8 false .func [.val .nilFunc]) (.node 166 (.mk 1 4 false (.int .u32) [.val (.int .u32 0)]) .nil .nil) .nil)
 (.node 170 (.mk 1 8 false .func [.val .nilFunc]) (.node 169 (.mk 1 8 false .func [.val .nilFunc]) .nil .nil) .nil)))
 (.node 177 (.mk 1 8 false .func [.val .nilFunc]) (.node 174 (.mk 1 8 false .func [.val .nilFunc]) (.node 173 (.mk 1 8 false .func [.val .nilFunc]) (.node 172 (.mk 1 8 false .func [.val .nilFunc]) .nil .nil) .nil)
 (.node 176 (.mk 1 8 false .func [.val .nilFunc]) (.node 175 (.mk 1 8 false .func [.val .nilFunc]) .nil .nil) .nil))
 (.node 180 (.mk 1 8 false .func [.val .nilFunc]) (.node 179 (.mk 1 8 false (.int .u64) [.val (.int .u64 0)]) (.node 178 (.mk 1 8 false .func [.val .nilFunc]) .nil .nil) .nil)
 (.node 182 (.mk 1 8 false .func [.val .nilFunc]) (.node 181 (.mk 1 8 false .func [.val .nilFunc]) .nil .nil) .nil))))
 (.node 197 (.mk 0 0 true (.array 0 16) []) (.node 191 (.mk 1 8 false .func [.val .nilFunc]) (.node 187 (.mk 1 8 false .func [.val .nilFunc]) (.node 185 (.mk 1 8 false .func [.val .nilFunc]) (.node 184 (.mk 1 8 false .func [.val .nilFunc]) .nil .nil)
 (.node 186 (.mk 1 8 false .func [.val .nilFunc]) .nil .nil))
 (.node 189 (.mk 1 8 false (.ptr 179) [.val (.pointer none)]) (.node 188 (.mk 1 8 false .func [.val .nilFunc]) .nil .nil) .nil))
 (.node 194 (.mk 1 8 false .func [.val .nilFunc]) (.node 193 (.mk 1 8 false .func [.val .nilFunc]) (.node 192 (.mk 1 8 false .func [.val .nilFunc]) .nil .nil) .nil)
 (.node 196 (.mk 4 40 true (.struct [(0, 17), (1, 17), (2, 17), (3, 9)]) [.val (.pointer none), .val (.pointer none), .val (.pointer none), .val (.string (⟨#[]⟩))]) (.node 195 (.mk 4 40 true (.struct [(0, 17), (1, 17), (2, 17), (3, 9)]) [.val (.pointer none), .val (.pointer none), .val (.pointer none), .val (.string (⟨#[]⟩))]) .nil .nil) .nil)))
 (.node 203 (.mk 1 8 false (.ptr 5) [.val (.pointer none)]) (.node 200 (.mk 1 1 false (.int .u8) [.val (.int .u8 0)]) (.node 199 (.mk 0 0 true (.struct [(0, 197)]) []) (.node 198 (.mk 0 0 true (.struct [(0, 197)]) []) .nil .nil) .nil)
 (.node 202 (.mk 1 8 false .func [.val .nilFunc]) (.node 201 (.mk 1 1 false (.int .u8) [.val (.int .u8 0)]) .nil .nil) .nil))
 (.node 206 (.mk 11 48 true (.struct [(0, 12), (1, 12), (2, 166), (3, 200), (4, 5), (5, 5), (6, 201), (7, 202), (8, 203), (9, 204), (10, 205)]) [.val (.int .u64 0), .val (.int .u64 0), .val (.int .u32 0), .val (.int .u8 0), .val (.int .u8 0), .val (.int .u8 0), .val (.int .u8 0), .val .nilFunc, .val (.pointer none), .val (.int .i32 0), .val (.int .i32 0)]) (.node 205 (.mk 1 4 false (.int .i32) [.val (.int .i32 0)]) (.node 204 (.mk 1 4 false (.int .i32) [.val (.int .i32 0)]) .nil .nil) .nil)
 (.node 208 (.mk 1 8 false .other [.val (.pointer none)]) (.node 207 (.mk 11 48 true (.struct [(0, 12), (1, 12), (2, 166), (3, 200), (4, 5), (5, 5), (6, 201), (7, 202), (8, 203), (9, 204), (10, 205)]) [.val (.int .u64 0), .val (.int .u64 0), .val (.int .u32 0), .val (.int .u8 0), .val (.int .u8 0), .val (.int .u8 0), .val (.int .u8 0), .val .nilFunc, .val (.pointer none), .val (.int .i32 0), .val (.int .i32 0)]) .nil .nil) .nil)))))), [7, 8, 28, 29, 56, 57, 58, 59, 61, 62, 66, 67, 71, 72, 77, 78, 97, 98, 101, 102, 138, 139]⟩
theorem tok : qS Tryz.prog T := qS.of_eq (by kernel_rfl) (by kernel_rfl)
theorem mixed : Tryz.prog.follows .mixedOrders = true := by kernel_rfl
end Go.Proofs.YtihpjcmloecaaaaGreat.Cw
namespace Go.Proofs.YtihpjcmloecaaaaGreat.Cw
open Go.Cw Go.Proofs
set_option linter.unusedVariables false
abbrev Str := ByteArray
def ei (n : Int) : PV := .val (.int .i64 n)
def es (s : Str) : PV := .val (.string s)
def zcH (l : List Str) : PV := .sl 1 (l.map fun s => [es s])
def qV (l : List Int) : PV := .sl 1 (l.map fun x => [ei x])
structure Time where
 (weeks day start len : Int)
def Time.row (t : Time) : List PV := [ei t.weeks, ei t.day, ei t.start, ei t.len]
def zmR (l : List Time) : PV := .sl 4 (l.map Time.row)
structure Grid where
 (days slots begin_ mins : Int)
def Grid.row (g : Grid) : List PV := [ei g.days, ei g.slots, ei g.begin_, ei g.mins]
structure Room where
 (code bld : Str)
 (seats : Int)
 (feats : List Str)
 (closed : List Time)
def Room.row (r : Room) : List PV := [es r.code, es r.bld, ei r.seats, zcH r.feats, zmR r.closed]
def zmS (l : List Room) : PV := .sl 5 (l.map Room.row)
structure Exam where
 (code : Str)
 (len : Int)
 (feats studs : List Str)
def Exam.row (e : Exam) : List PV := [es e.code, ei e.len, zcH e.feats, zcH e.studs]
structure Sitting where
 (day start len cost : Int)
def Sitting.row (s : Sitting) : List PV := [ei s.day, ei s.start, ei s.len, ei s.cost]
structure Gaps where
 (row day near days mixed : Int)
structure Exams where
 (rooms : List Room)
 (exams : List Exam)
 (sits : List Sitting)
 (gaps : Gaps)
def Exams.cells (x : Exams) : List PV := [zmS x.rooms, .sl 4 (x.exams.map Exam.row), .sl 4 (x.sits.map Sitting.row), ei x.gaps.row, ei x.gaps.day, ei x.gaps.near, ei x.gaps.days, ei x.gaps.mixed]
structure Term where
 (first weeks : Int)
 (hols : List Int)
def Term.row (t : Term) : List PV := [ei t.first, ei t.weeks, qV t.hols]
structure Travel where
 (blds : List Str)
 (slots : List (List Int))
def zoW (l : List Int) : List PV := [qV l]
def Travel.row (t : Travel) : List PV := [zcH t.blds, .sl 1 (t.slots.map zoW)]
structure Lecturer where
 (code : Str)
 (away : List Time)
def Lecturer.row (l : Lecturer) : List PV := [es l.code, zmR l.away]
structure Start where
 (day slot : Int)
def Start.row (s : Start) : List PV := [ei s.day, ei s.slot]
structure Class where
 (code course part : Str)
 (len : Int)
 (pats : List Int)
 (seats : Int)
 (feats staff : List Str)
 (starts : List Start)
def Class.row (c : Class) : List PV := [es c.code, es c.course, es c.part, ei c.len, qV c.pats, ei c.seats, zcH c.feats, zcH c.staff, .sl 2 (c.starts.map Start.row)]
structure Curri where
 (code : Str)
 (courses : List Str)
def Curri.row (c : Curri) : List PV := [es c.code, zcH c.courses]
structure Req where
 (student course : Str)
 (prio : Int)
 (instead : List Str)
def Req.row (r : Req) : List PV := [es r.student, es r.course, ei r.prio, zcH r.instead]
structure Reg where
 (grid : Grid)
 (term : Term)
 (rooms : List Room)
 (travel : Travel)
 (staff : List Lecturer)
 (classes : List Class)
 (curris : List Curri)
 (reqs : List Req)
def Reg.cells (r : Reg) : List PV := [ei r.grid.days, ei r.grid.slots, ei r.grid.begin_, ei r.grid.mins, ei r.term.first, ei r.term.weeks, qV r.term.hols, zmS r.rooms, zcH r.travel.blds, .sl 1 (r.travel.slots.map zoW),
 .sl 2 (r.staff.map Lecturer.row), .sl 9 (r.classes.map Class.row), .sl 2 (r.curris.map Curri.row), .sl 4 (r.reqs.map Req.row)]
abbrev ag (l : List PV) : AV := .agg (pvs l)
end Go.Proofs.YtihpjcmloecaaaaGreat.Cw
namespace Go.Proofs.YtihpjcmloecaaaaGreat.Cw
open Go.Cw Go.Proofs
set_option linter.unusedVariables false
noncomputable abbrev pB (p : Prop) : Bool := @decide p (Classical.propDecidable p)
theorem zaS {p : Prop} (h : p) : pB p = true := by simp [h]
theorem zaj {p : Prop} (h : ¬ p) : pB p = false := by simp [h]
theorem zgG {p q : Prop} (h : p ↔ q) : pB p = pB q := by simp [h]
theorem zea {p : Prop} {b : Bool} (h : b = true ↔ p) : b = pB p := by
 cases b <;> simp at h <;> simp [h]
def firstE (f : Nat → Int) : Nat → Int
 | 0 => 0
 | n + 1 => if firstE f n = 0 then f n else firstE f n
theorem zz {p : Nat → Prop} {i : Nat} (h : ∀ j, j < i → p j) (hi : p i) : ∀ j, j < i + 1 → p j := fun j hj => by
 rcases Nat.lt_or_ge j i with h1 | h1
 · exact h j h1
 · have : j = i := by omega
   subst this; exact hi
theorem mulw {a b : Int} (ha : 0 ≤ a ∧ a ≤ 1000000) (hb : 0 ≤ b ∧ b ≤ 1000000) : 0 ≤ a * b ∧ a * b ≤ 1000000000000 :=
 ⟨Int.mul_nonneg ha.1 hb.1, Int.le_trans (Int.mul_le_mul ha.2 hb.2 hb.1 (by omega)) (by omega)⟩
theorem zpd {a b : Int} {K : Int → Prop} (ha : 0 ≤ a ∧ a ≤ 1000000) (hb : 0 ≤ b ∧ b ≤ 1000000) (h : 0 ≤ a * b → a * b ≤ 1000000000000 → K (a * b)) : eqv (IntKind.i64.wrap (a * b)) K :=
 zc (by have := mulw ha hb; omega) (by have := mulw ha hb; omega) (h (mulw ha hb).1 (mulw ha hb).2)
def zmw {α : Type} (p : α → Bool) (l : List α) : Int := match l.findIdx? p with
 | some i => i
 | none => -1
theorem zeb {α : Type} {p : α → Bool} {l : List α} {i : Nat} {x : α} (h0 : ∀ j, j < i → ∀ y, l[j]? = some y → p y = false) (hx : l[i]? = some x) (hp : p x = true) : zmw p l = i := by
 have hi := (List.getElem?_eq_some_iff.1 hx).1
 have : l.findIdx? p = some i := by
  rw [List.findIdx?_eq_some_iff_getElem]
  refine ⟨hi, ?_, fun j hj => ?_⟩
  · rw [(List.getElem?_eq_some_iff.1 hx).2]; exact hp
  · have := h0 j hj l[j] (List.getElem?_eq_getElem (by omega))
    simp [this]
 simp [zmw, this]
theorem zdm {α : Type} {p : α → Bool} {l : List α} (h : ∀ j, j < l.length → ∀ y, l[j]? = some y → p y = false) : zmw p l = -1 := by
 have : l.findIdx? p = none := by
  rw [List.findIdx?_eq_none_iff]
  intro x hx
  obtain ⟨i, hi, rfl⟩ := List.getElem_of_mem hx
  exact h i hi _ (List.getElem?_eq_getElem hi)
 simp [zmw, this]
theorem zeI {α : Type} {p : α → Bool} {l : List α} : decide (zmw p l ≥ 0) = l.any p := by
 unfold zmw
 split
 · rename_i i hi
   have := List.findIdx?_eq_some_iff_getElem.1 hi
   obtain ⟨h1, h2, _⟩ := this
   rw [List.any_eq_true.2 ⟨_, List.getElem_mem h1, h2⟩]
   simp
 · rename_i hi
   rw [List.findIdx?_eq_none_iff] at hi
   have : l.any p = false := List.any_eq_false.2 fun x hx => by simp [hi x hx]
   rw [this]; rfl
end Go.Proofs.YtihpjcmloecaaaaGreat.Cw
namespace Go.Proofs.YtihpjcmloecaaaaGreat.Cw
open Go.Cw Go.Proofs
set_option linter.unusedVariables false
theorem zdK {r x : List PV} {rs : List (List PV)} {K : Go.Cw.Rows → Nat → Prop} (h : K (.p (r :: (rs ++ [x]))) ((rs ++ [x]).length + 1)) : eqv (Go.Cw.Rows.p (List.drop 0 (r :: rs) ++ List.take 1 (List.drop 0 [x]))) fun rr => eqv (zb rr) (K rr) :=
 ⟨_, rfl, _, by simp [zb], h⟩
def qr : AV := .pv (.val (.slice none 0 0))
def slP (id z : Nat) : List (List PV) → AV
 | [] => qr
 | r :: l => .ms id z 0 (r :: l).length
def obP (ty z : Nat) : List (List PV) → Option AObj
 | [] => none
 | r :: l => some ⟨ty, z, false, .p (r :: l)⟩
structure Leq (r x : AV) : Prop where
 le : ALe r x
theorem zei {α : Type} {f : α → List PV} {z n : Nat} {l : List α} (h : l.length ≤ n) : PLe (.sl z (List.take n (List.drop 0 (l.map f)))) (.sl z (l.map f)) := by
 rw [List.drop_zero, List.take_of_length_le (by simpa using h)]
 exact PLe.refl
end Go.Proofs.YtihpjcmloecaaaaGreat.Cw
namespace Go.Proofs.YtihpjcmloecaaaaGreat.Cw
open Go Go.Cw Go.Proofs
set_option linter.unusedVariables false
theorem zM {α β : Type} {f : α → β} {l : List α} {x : α} : (l ++ [x]).map f = l.map f ++ [f x] := by simp
section
variable {P : Program} {T : Tab} {id z ty : Nat} {rows : List (List PV)} {r : List PV}
theorem xl {K : AV → Prop} (h : K (slP id z rows)) : zdp (slP id z rows) K := by
 cases rows <;> exact h
theorem z6 {l : zt} {K : zt → Prop} (h : zP l fun l' => K (obP ty z rows :: l')) : zP (obP ty z rows :: l) K := by
 rw [zY] at *
 exact h
theorem zfa : ∀ (dc : qL) {d : Nat} (A B : qL → Prop), (∀ d2, A d2 → B d2) → zce dc d A → zce dc d B
 | [], d, A, B, hab, ha => hab _ ha
 | (k, bb) :: dc, d, A, B, hab, ha => by
   simp only [zce] at ha ⊢
   split
   · rename_i hk; rw [hk] at ha; exact zfa dc A B hab ha
   · rename_i hk; rw [hk] at ha; exact zfa dc _ _ (fun d2 h2 => hab _ h2) ha
theorem qn (a : List (List PV)) (x : List PV) : slP id z (a ++ [x]) = .ms id z 0 (a.length + 1) := by
 cases a with
 | nil => rfl
 | cons b l => simp [slP]
theorem qo (a : List (List PV)) (x : List PV) : obP ty z (a ++ [x]) = some ⟨ty, z, false, .p (a ++ [x])⟩ := by
 cases a <;> rfl
theorem zji {H : zt} {i site : Nat} {o : Option AObj} (h : H[i]? = some none) : app H [(i, none), (site, o)] = app H [(site, o)] := by
 have : H.set i none = H := by
  apply List.ext_getElem?
  intro k
  rw [List.getElem?_set]
  by_cases e : i = k
  · subst e
    obtain ⟨h1, h2⟩ := List.getElem?_eq_some_iff.1 h
    rw [if_pos rfl, if_pos h1, h]
  · simp [e]
 simp only [app, this]
theorem st_app {site idx b size bytes : Nat} {agg eagg fz : Bool} {zero ezero : List PV} {etk : TK} {s x : Operand} {t : TypeId} {d : Tmp} {Γ : zw} {H : zt} {K : zw → zt → Prop} (hs : ev Γ s = some (slP id z rows)) (hx : ev Γ x = some (.ms idx z 0 1)) (hl : Cw.xn T t = some ⟨size, bytes, agg, .slice ty, zero⟩) (he : Cw.xn T ty = some ⟨z, b, eagg, etk, ezero⟩) (hz : Nat.blt 0 z = true)
  (hi : H[idx]? = some (some ⟨ty, z, fz, .p [r]⟩)) (ho : H[id]? = some (obP ty z rows)) (hb : (rows.length + 1) * b ≤ 140737488355328) (hn : rows.length + 1 ≤ 9223372036854775807)
  (h : zP (app H [(id, none), (site, some ⟨ty, z, false, .p (rows ++ [r])⟩)]) fun H2 => K ((d, .ms site z 0 (rows.length + 1)) :: Γ) H2) :
  zag P T site (some d) (.call { callee := .builtin .append, args := #[s, x], argTypes := #[t, t] }) Γ H K := by
 have hbq : Nat.beq t t = true := Nat.beq_refl t
 have hzz : Nat.beq z z = true := Nat.beq_refl z
 have hty : Nat.beq ty ty = true := Nat.beq_refl ty
 rw [zY] at h
 cases rows with
 | nil =>
   rw [zji ho] at h
   simp only [zag, xB, hbq, hs, hx, xb, hl, he, zfH, hzz, hz, xT, hi, Bool.and_self, Bool.true_and, slP, qr, zT, zdP, zdp, zkJ, zY]
   refine ⟨rfl, by simpa [zb] using hb, by simp [zb], fun _ => ?_, fun e => by simp [zb] at e⟩
   exact h
 | cons a l =>
   simp only [zag, xB, hbq, hs, hx, xb, hl, he, zfH, hzz, hz, xT, hi, ho, obP, Bool.and_self, Bool.true_and, slP, zT, zdP, zdp, zkJ, zY, Bool.not_false, hty, zdS, xz, List.drop_zero]
   refine ⟨by simp [zb], rfl, by simpa [zb] using hb, by simpa [zb] using hn, ?_⟩
   have e : zb (.p (a :: l ++ List.take 1 [r])) = (a :: l).length + 1 := by simp [zb]
   rw [e]
   exact h
theorem zbB {n site idx b size bytes : Nat} {agg eagg fz : Bool} {zero ezero : List PV} {etk : TK} {s x : Operand} {t : TypeId} {d : Tmp} {Γ : zw} {H : zt} {K : zw → zt → Prop} {o : Oper} {all l : List Oper} {dc : qL}
  (hop : o.op = .call { callee := .builtin .append, args := #[s, x], argTypes := #[t, t] }) (hg : o.guard = none) (hd : o.dst = some d) (hdn : Nat.blt d n = true) (hs : ev Γ s = some (slP id z rows)) (hx : ev Γ x = some (.ms idx z 0 1)) (hl : Cw.xn T t = some ⟨size, bytes, agg, .slice ty, zero⟩) (he : Cw.xn T ty = some ⟨z, b, eagg, etk, ezero⟩) (hz : Nat.blt 0 z = true)
  (hi : H[idx]? = some (some ⟨ty, z, fz, .p [r]⟩)) (ho : H[id]? = some (obP ty z rows)) (hb : (rows.length + 1) * b ≤ 140737488355328) (hn : rows.length + 1 ≤ 9223372036854775807)
  (h : zce dc d fun d2 => zP (app H [(id, none), (site, some ⟨ty, z, false, .p (rows ++ [r])⟩)]) fun H2 => zjq P T n all l (site + 1) K d2 ((d, .ms site z 0 (rows.length + 1)) :: Γ) H2) :
  zjq P T n all (o :: l) site K dc Γ H := by
 refine ziH ?_
 have e1 : zbt n o = true := by unfold zbt; rw [hd]; exact hdn
 have e2 : zX o.op = true := by rw [hop]; rfl
 rw [e1, e2]
 show qz all Γ dc o.guard _ _
 rw [hg]
 simp only [qz, zcW, hd, hop, zbW, xc]
 have key : ∀ d2, (zP (app H [(id, none), (site, some ⟨ty, z, false, .p (rows ++ [r])⟩)]) fun H2 => zjq P T n all l (site + 1) K d2 ((d, .ms site z 0 (rows.length + 1)) :: Γ) H2) → zag P T site (some d) (.call { callee := .builtin .append, args := #[s, x], argTypes := #[t, t] }) Γ H (zjq P T n all l (site + 1) K d2) := fun d2 hh =>
  st_app hs hx hl he hz hi ho hb hn hh
 have mono : ∀ (dc : qL) (A B : qL → Prop), (∀ d2, A d2 → B d2) → zce dc d A → zce dc d B := by
  intro dc
  induction dc with
  | nil => intro A B hab ha; exact hab _ ha
  | cons q dc ih =>
    obtain ⟨k, bb⟩ := q
    intro A B hab ha
    simp only [zce] at ha ⊢
    split
    · rename_i hk; rw [hk] at ha; exact ih A B hab ha
    · rename_i hk; rw [hk] at ha; exact ih _ _ (fun d2 h2 => hab _ h2) ha
 exact mono dc _ _ key h
theorem st_appD {site idx b size bytes : Nat} {agg eagg fz : Bool} {zero ezero : List PV} {etk : TK} {s x : Operand} {t : TypeId} {d : Tmp} {Γ : zw} {H : zt} {K : zw → zt → List Nat × List Nat → Prop} (hs : ev Γ s = some (slP id z rows)) (hx : ev Γ x = some (.ms idx z 0 1)) (hl : Cw.xn T t = some ⟨size, bytes, agg, .slice ty, zero⟩) (he : Cw.xn T ty = some ⟨z, b, eagg, etk, ezero⟩) (hz : Nat.blt 0 z = true)
  (hi : H[idx]? = some (some ⟨ty, z, fz, .p [r]⟩)) (ho : H[id]? = some (obP ty z rows)) (hb : (rows.length + 1) * b ≤ 140737488355328) (hn : rows.length + 1 ≤ 9223372036854775807)
  (h : (zP (app H [(id, none), (site, some ⟨ty, z, false, .p (rows ++ [r])⟩)]) fun H2 => K ((d, .ms site z 0 (rows.length + 1)) :: Γ) H2 ([idx], [site])) ∧ zP (app H [(id, none), (site, some ⟨ty, z, false, .p (rows ++ [r])⟩)]) fun H2 => K ((d, .ms site z 0 (rows.length + 1)) :: Γ) H2 ([id, idx], [id, site])) :
  zcY P T site (some d) (.call { callee := .builtin .append, args := #[s, x], argTypes := #[t, t] }) Γ H K := by
 have hbq : Nat.beq t t = true := Nat.beq_refl t
 have hzz : Nat.beq z z = true := Nat.beq_refl z
 have hty : Nat.beq ty ty = true := Nat.beq_refl ty
 simp only [zY] at h
 obtain ⟨h1, h2⟩ := h
 cases rows with
 | nil =>
   rw [zji ho] at h1
   simp only [zcY, xB, hbq, hs, hx, xb, hl, he, zfH, hzz, hz, xT, hi, Bool.and_self, Bool.true_and, slP, qr, zT, zdP, zdp, zkJ, zY]
   refine ⟨rfl, by simpa [zb] using hb, by simp [zb], fun _ => ?_, fun e => by simp [zb] at e⟩
   exact h1
 | cons a l =>
   simp only [zcY, xB, hbq, hs, hx, xb, hl, he, zfH, hzz, hz, xT, hi, ho, obP, Bool.and_self, Bool.true_and, slP, zT, zdP, zdp, zkJ, zY, Bool.not_false, hty, zdS, xz, List.drop_zero]
   refine ⟨by simp [zb], rfl, by simpa [zb] using hb, by simpa [zb] using hn, ?_⟩
   have e : zb (.p (a :: l ++ List.take 1 [r])) = (a :: l).length + 1 := by simp [zb]
   rw [e]
   exact h2
theorem zcc {n site idx b size bytes : Nat} {agg eagg fz : Bool} {zero ezero : List PV} {etk : TK} {s x : Operand} {t : TypeId} {d : Tmp} {Γ : zw} {H : zt} {KD : List (List Nat × List Nat) → zw → zt → Prop} {fs : List (List Nat × List Nat)} {o : Oper} {all l : List Oper} {dc : qL}
  (hop : o.op = .call { callee := .builtin .append, args := #[s, x], argTypes := #[t, t] }) (hg : o.guard = none) (hd : o.dst = some d) (hdn : Nat.blt d n = true) (hs : ev Γ s = some (slP id z rows)) (hx : ev Γ x = some (.ms idx z 0 1)) (hl : Cw.xn T t = some ⟨size, bytes, agg, .slice ty, zero⟩) (he : Cw.xn T ty = some ⟨z, b, eagg, etk, ezero⟩) (hz : Nat.blt 0 z = true)
  (hi : H[idx]? = some (some ⟨ty, z, fz, .p [r]⟩)) (ho : H[id]? = some (obP ty z rows)) (hb : (rows.length + 1) * b ≤ 140737488355328) (hn : rows.length + 1 ≤ 9223372036854775807)
  (h : zce dc d fun d2 => (zP (app H [(id, none), (site, some ⟨ty, z, false, .p (rows ++ [r])⟩)]) fun H2 => zeh P T n all l (site + 1) KD (([idx], [site]) :: fs) d2 ((d, .ms site z 0 (rows.length + 1)) :: Γ) H2) ∧ zP (app H [(id, none), (site, some ⟨ty, z, false, .p (rows ++ [r])⟩)]) fun H2 => zeh P T n all l (site + 1) KD (([id, idx], [id, site]) :: fs) d2 ((d, .ms site z 0 (rows.length + 1)) :: Γ) H2) :
  zeh P T n all (o :: l) site KD fs dc Γ H := by
 refine zjR ?_
 have e1 : zbt n o = true := by unfold zbt; rw [hd]; exact hdn
 have e2 : zX o.op = true := by rw [hop]; rfl
 rw [e1, e2]
 show qz all Γ dc o.guard _ _
 rw [hg]
 simp only [qz, zcW, hd, hop, zbW, xc]
 exact zfa dc _ _ (fun d2 hh => st_appD hs hx hl he hz hi ho hb hn hh) h
theorem zft {d : Nat} {rn : List Nat} : xP d rn (slP id z rows) = slP (rn.getD id d) z rows := by
 cases rows <;> simp [slP, qr, xP]
theorem zG {d : Nat} {rn : List Nat} {Γ : zw} {s : Nat} (h : get Γ s = some (slP (rn.getD id d) z rows)) : get Γ s = some (xP d rn (slP id z rows)) := by rw [zft]; exact h
theorem zu {H Hc : zt} {d i : Nat} {rn l : List Nat} (h : H[i]? = some (obP ty z rows)) (hk : zaz H d rn l Hc) : zaz H d rn (i :: l) (obP ty z rows :: Hc) := by
 cases rows with
 | nil => exact hk
 | cons a l' => exact ⟨h, hk⟩
theorem zB {n nh : Nat} {a : Code} {Q : Exit → zw → zt → Prop} {Γ : zw} {H : zt} {X : Type} (g : X → zw) (hp : X → zt) (cond : X → Prop) (μ : X → Nat) (x0 : X) (h0 : cond x0) (he : zD n nh Γ H (g x0) (hp x0))
  (hb : ∀ x, cond x → zP (hp x) fun H1 => zU P T n nh a (zdN (fun Γ' H' => ∃ x', cond x' ∧ μ x' < μ x ∧ zD n nh Γ' H' (g x') (hp x')) Q) (g x) H1) : zU P T n nh (.loop a) Q Γ H := by
 refine zg4 (fun x => ⟨g x, hp x⟩) cond μ ⟨x0, h0, he⟩ fun x hx => ?_
 have := hb x hx
 rw [zY] at this
 exact this
theorem zl {H Hc : zt} {d i : Nat} {rn l : List Nat} {ty' z' : Nat} {fz : Bool} {cs cs' : List AV} (e : zae d rn cs = cs') (h : H[i]? = some (some ⟨ty', z', fz, .box cs'⟩)) (hk : zaz H d rn l Hc) : zaz H d rn (i :: l) (some ⟨ty', z', fz, .box cs⟩ :: Hc) := by
 subst e
 exact ⟨h, hk⟩
theorem zlu {H : zt} (ho : H[id]? = some (obP ty z rows)) : ∃ r0, conv H (slP id z rows) = some r0 ∧ ok1 H (slP id z rows) ∧ ALe r0 (.pv (.sl z rows)) := by
 cases rows with
 | nil => exact ⟨_, rfl, trivial, ALe.pv PLe.nil⟩
 | cons a l =>
   refine ⟨.pv (.sl z (a :: l)), ?_, ?_, ALe.refl⟩
   · simp only [slP, conv, zdt, qv, ho, obP]
     simp
   · simp only [slP, ok1, ok0, okC, ho, obP]
     simp
theorem ids_sl {H : zt} (ho : H[id]? = some (obP ty z rows)) : ∀ i : Nat, i ≠ id → (app H (frz H (zby H (slP id z rows))))[i]? = H[i]? := fun i hne => by
 cases rows with
 | nil => rfl
 | cons a l =>
   have hi : zby H (slP id z (a :: l)) = [id] := by
    show zaW H 5 (.ms id z 0 (a :: l).length) = _
    simp only [zaW, ho, obP]; rfl
   rw [hi]
   simp only [frz, ho, obP, app]
   rw [List.getElem?_set, if_neg (fun e => hne e.symm)]
theorem zgj : ∀ H : zt, subH H H
 | [] => trivial
 | none :: l => zgj l
 | some o :: l => ⟨rfl, zgj l⟩
theorem zD.sl {n nh s : Nat} {Γ Γ2 : zw} {H H2 : zt} (h : get Γ s = some (slP id z rows)) (ho : H[id]? = some (obP ty z rows))
  (k : ∀ H' : zt, H'.length = H.length → (∀ i : Nat, i ≠ id → H'[i]? = H[i]?) → zD n nh ((s, .pv (.sl z rows)) :: Γ) H' Γ2 H2) : zD n nh Γ H Γ2 H2 := by
 obtain ⟨r0, h1, h2, h3⟩ := zlu ho
 have g1 := zD.freeze (n := n) (nh := nh) h h1 h2
 have g2 := zD.weak (n := n) (nh := nh) (Γ := (s, r0) :: Γ) (H := app H (frz H (zby H (slP id z rows)))) (s := s) (x := r0) (y := .pv (.sl z rows)) (by rw [xu, if_pos rfl]) h3
 have g3 : zD n nh ((s, .pv (.sl z rows)) :: (s, r0) :: Γ) (app H (frz H (zby H (slP id z rows)))) ((s, .pv (.sl z rows)) :: Γ) (app H (frz H (zby H (slP id z rows)))) := zD.le (fun t y hy => by
  rw [xu] at hy
  split at hy
  · rename_i e
    exact ⟨y, by rw [xu, if_pos e]; exact hy, ALe.refl⟩
  · rename_i e
    exact ⟨y, by rw [xu, if_neg e, xu, if_neg e]; exact hy, ALe.refl⟩) (zgj _)
 exact ((g1.trans g2).trans g3).trans (k _ (by rw [qO]) (ids_sl ho))
theorem zD.shut_sl {n nh i c ty' z' : Nat} {fz : Bool} {cs : List AV} {Γ Γ2 : zw} {H H2 : zt} (hi : H[i]? = some (some ⟨ty', z', fz, .box cs⟩)) (hx : cs[c]? = some (slP id z rows)) (ho : H[id]? = some (obP ty z rows)) (hne : i ≠ id)
  (k : ∀ H' : zt, H'.length = H.length → H'[i]? = some (some ⟨ty', z', fz, .box (cs.set c (.pv (.sl z rows)))⟩) → (∀ j : Nat, j ≠ id → j ≠ i → H'[j]? = H[j]?) → zD n nh Γ H' Γ2 H2) : zD n nh Γ H Γ2 H2 := by
 obtain ⟨r0, h1, h2, h3⟩ := zlu ho
 have hn : i ∉ zby H (slP id z rows) := by
  cases rows with
  | nil => exact List.not_mem_nil
  | cons a l =>
    have e : zby H (slP id z (a :: l)) = [id] := by
     show zaW H 5 (.ms id z 0 (a :: l).length) = _
     simp only [zaW, ho, obP]; rfl
    rw [e]; simpa using hne
 have g := zD.shut (n := n) (nh := nh) (Γ := Γ) hi hx h1 h2 hn h3
 have hlt := (List.getElem?_eq_some_iff.1 hi).1
 refine g.trans (k _ (by rw [List.length_set, qO]) ?_ fun j hj1 hj2 => ?_)
 · rw [List.getElem?_set, if_pos rfl, if_pos (by rw [qO]; exact hlt)]
 · rw [List.getElem?_set, if_neg (fun e => hj2 e.symm)]
   exact ids_sl ho j hj1
theorem zon {H : zt} {Post : AV → Prop} (ho : H[id]? = some (obP ty z rows)) (h : Post (.pv (.sl z rows))) (hp : ∀ r r', ALe r r' → Post r' → Post r) : zx 0 (slP id z rows) H (fun r H' => H' = [] ∧ Post r) := by
 obtain ⟨r0, h1, h2, h3⟩ := zlu ho
 exact zd h1 h2 (hp _ _ h3 h)
theorem ziV {x : AV} : ∀ r r', ALe r r' → Leq r' x → Leq r x := fun r r' h k => ⟨fun I β w v hv => k.le I β w v (h I β w v hv)⟩
end
end Go.Proofs.YtihpjcmloecaaaaGreat.Cw
namespace Go.Proofs.YtihpjcmloecaaaaGreat.Cw
open Go.Cw Go.Proofs
set_option linter.unusedVariables false
def slC (id z : Nat) (rows : List (List AV)) : AV := match rows with
 | [] => .clip z []
 | _ :: l => .ms id z 0 (l.length + 1)
def obM (ty z : Nat) (rows : List (List AV)) : Option AObj := match rows with
 | [] => none
 | _ :: _ => some ⟨ty, z, false, .m rows⟩
theorem zeA (z : Nat) : ALe qr (.clip z []) := fun I β w v hv => by
 have hv : ARel I β w (.pv (.val (.slice none 0 0))) v := hv
 cases hv with
 | pv h => cases h with
   | val v => exact .clip (.sl (fun _ _ => undef) (Nat.le_refl _) (fun i r h => by simp at h) fun i r j p h => by simp at h)
section
variable {P : Program} {T : Tab} {id z ty : Nat} {rows : List (List AV)} {r : List AV}
theorem zh5 {K : AV → Prop} (h : K (slC id z rows)) : zdp (slC id z rows) K := by
 cases rows <;> exact h
theorem zbs {l : zt} {K : zt → Prop} (h : zP l fun l' => K (obM ty z rows :: l')) : zP (obM ty z rows :: l) K := by
 rw [zY] at *
 exact h
theorem ziy (a : List (List AV)) (x : List AV) : slC id z (a ++ [x]) = .ms id z 0 (a.length + 1) := by
 cases a with
 | nil => rfl
 | cons b l => simp [slC]
theorem zc4 (h : 0 < rows.length) : slC id z rows = .ms id z 0 rows.length := by
 cases rows with
 | nil => simp at h
 | cons b l => rfl
theorem ziJ (a : List (List AV)) (x : List AV) : obM ty z (a ++ [x]) = some ⟨ty, z, false, .m (a ++ [x])⟩ := by
 cases a <;> rfl
theorem zbV (h : 0 < rows.length) : obM ty z rows = some ⟨ty, z, false, .m rows⟩ := by
 cases rows with
 | nil => simp at h
 | cons b l => rfl
theorem zk0 {site idx b size bytes : Nat} {agg eagg fz : Bool} {zero ezero : List PV} {etk : TK} {s x : Operand} {t : TypeId} {d : Tmp} {Γ : zw} {H : zt} {K : zw → zt → Prop} (hs : ev Γ s = some (slC id z rows)) (hx : ev Γ x = some (.ms idx z 0 1)) (hl : Cw.xn T t = some ⟨size, bytes, agg, .slice ty, zero⟩) (he : Cw.xn T ty = some ⟨z, b, eagg, etk, ezero⟩) (hz : Nat.blt 0 z = true)
  (hi : H[idx]? = some (some ⟨ty, z, fz, .m [r]⟩)) (ho : H[id]? = some (obM ty z rows)) (hb : (rows.length + 1) * b ≤ 140737488355328) (hn : rows.length + 1 ≤ 9223372036854775807)
  (h : zP (app H [(id, none), (site, some ⟨ty, z, false, .m (rows ++ [r])⟩)]) fun H2 => K ((d, .ms site z 0 (rows.length + 1)) :: Γ) H2) :
  zag P T site (some d) (.call { callee := .builtin .append, args := #[s, x], argTypes := #[t, t] }) Γ H K := by
 have hbq : Nat.beq t t = true := Nat.beq_refl t
 have hzz : Nat.beq z z = true := Nat.beq_refl z
 have hty : Nat.beq ty ty = true := Nat.beq_refl ty
 rw [zY] at h
 cases rows with
 | nil =>
   rw [zji ho] at h
   simp only [zag, xB, hbq, hs, hx, xb, hl, he, zfH, hzz, hz, xT, hi, Bool.and_self, Bool.true_and, slC, xz, List.map_nil, List.nil_append, zT, zdP, zdp, zkJ, zY]
   refine ⟨by simp [z8, zb], by simpa [zb] using hb, by simp [zb], fun _ => ?_, fun e => by simp [zb] at e⟩
   exact h
 | cons a l =>
   simp only [zag, xB, hbq, hs, hx, xb, hl, he, zfH, hzz, hz, xT, hi, ho, obM, Bool.and_self, Bool.true_and, slC, zT, zdP, zdp, zkJ, zY, Bool.not_false, hty, zdS, xz, List.drop_zero]
   refine ⟨by simp [zb], rfl, by simpa [zb] using hb, by simpa [zb] using hn, ?_⟩
   have e : zb (.m (a :: l ++ List.take 1 [r])) = (a :: l).length + 1 := by simp [zb]
   rw [e]
   exact h
theorem zmh {n site idx b size bytes : Nat} {agg eagg fz : Bool} {zero ezero : List PV} {etk : TK} {s x : Operand} {t : TypeId} {d : Tmp} {Γ : zw} {H : zt} {K : zw → zt → Prop} {o : Oper} {all l : List Oper} {dc : qL}
  (hop : o.op = .call { callee := .builtin .append, args := #[s, x], argTypes := #[t, t] }) (hg : o.guard = none) (hd : o.dst = some d) (hdn : Nat.blt d n = true) (hs : ev Γ s = some (slC id z rows)) (hx : ev Γ x = some (.ms idx z 0 1)) (hl : Cw.xn T t = some ⟨size, bytes, agg, .slice ty, zero⟩) (he : Cw.xn T ty = some ⟨z, b, eagg, etk, ezero⟩) (hz : Nat.blt 0 z = true)
  (hi : H[idx]? = some (some ⟨ty, z, fz, .m [r]⟩)) (ho : H[id]? = some (obM ty z rows)) (hb : (rows.length + 1) * b ≤ 140737488355328) (hn : rows.length + 1 ≤ 9223372036854775807)
  (h : zce dc d fun d2 => zP (app H [(id, none), (site, some ⟨ty, z, false, .m (rows ++ [r])⟩)]) fun H2 => zjq P T n all l (site + 1) K d2 ((d, .ms site z 0 (rows.length + 1)) :: Γ) H2) :
  zjq P T n all (o :: l) site K dc Γ H := by
 refine ziH ?_
 have e1 : zbt n o = true := by unfold zbt; rw [hd]; exact hdn
 have e2 : zX o.op = true := by rw [hop]; rfl
 rw [e1, e2]
 show qz all Γ dc o.guard _ _
 rw [hg]
 simp only [qz, zcW, hd, hop, zbW, xc]
 exact zaD dc _ _ (fun d2 hh => zk0 hs hx hl he hz hi ho hb hn hh) h
theorem zfB {ops : Array Oper} {rem : List Nat} {F : Nat → Prop} : ∀ {l : List Nat}, (∀ j ∈ l, zat ops rem j = true → F j) → zaY ops rem F l
 | [], _ => True.intro
 | j :: l, h => by
   have ih := zfB (l := l) fun i hi => h i (List.mem_cons_of_mem _ hi)
   unfold zaY
   cases e : zat ops rem j with
   | true => exact ⟨h j (by simp) e, ih⟩
   | false => exact ih
theorem zp3 {n fuel j site : Nat} {o : Oper} {ops : Array Oper} {rem0 rem1 : List Nat} {K : zw → zt → Prop} {Γ : zw} {H : zt} (ho : ops[j]? = some o) (hr : (j :: rem0).filter (zat ops (j :: rem0)) = [j]) (hd : zbt n o = true) (ha : zX o.op = true) (hg : o.guard = none) (hs : xc [] o.op = o.op) (hw : qT j (j :: rem0) = rem1)
  (h : zag P T site o.dst o.op Γ H (znf P T n ops fuel rem1 (site + 1) K)) : znf P T n ops (fuel + 1) (j :: rem0) site K Γ H := by
 refine zna ?_
 have hj : zat ops (j :: rem0) j = true := by
  have : j ∈ (j :: rem0).filter (zat ops (j :: rem0)) := by rw [hr]; simp
  exact (List.mem_filter.1 this).2
 have hany : (j :: rem0).any (zat ops (j :: rem0)) = true := List.any_eq_true.2 ⟨j, by simp, hj⟩
 rw [hany]
 refine zfB fun i hi hri => ?_
 have : i ∈ (j :: rem0).filter (zat ops (j :: rem0)) := List.mem_filter.2 ⟨hi, hri⟩
 rw [hr] at this
 obtain rfl := List.mem_singleton.1 this
 simp only [ho, hd, ha, hg, qz, hs, hw]
 exact h
end
end Go.Proofs.YtihpjcmloecaaaaGreat.Cw
namespace Go.Proofs.YtihpjcmloecaaaaGreat.Cw
open Go.Cw Go.Proofs
set_option linter.unusedVariables false
set_option maxRecDepth 100000
structure Placed where
 (time : Time)
 (room : Int)
def Placed.row (p : Placed) : List PV := [ei p.time.weeks, ei p.time.day, ei p.time.start, ei p.time.len, ei p.room]
structure Charge where
 (rule cost : Int)
def Charge.row (c : Charge) : List PV := [ei c.rule, ei c.cost]
structure Opt where
 (place : Placed)
 (charges : List Charge)
def Opt.row (o : Opt) : List PV := [ei o.place.time.weeks, ei o.place.time.day, ei o.place.time.start, ei o.place.time.len, ei o.place.room, .sl 2 (o.charges.map Charge.row)]
structure Pair where
 (first second rule : Int)
 (table : List Int)
def Pair.row (p : Pair) : List PV := [ei p.first, ei p.second, ei p.rule, qV p.table]
structure Load where
 (cls opt weight : Int)
def Load.row (l : Load) : List PV := [ei l.cls, ei l.opt, ei l.weight]
structure Count where
 (rule : Int)
 (loads : List Load)
 (most penalty : Int)
def Count.row (c : Count) : List PV := [ei c.rule, .sl 3 (c.loads.map Load.row), ei c.most, ei c.penalty]
structure Model where
 (classes : List (List Opt))
 (pairs : List Pair)
 (counts : List Count)
 (rules : Int)
def zA (l : List Opt) : List PV := [.sl 6 (l.map Opt.row)]
def Model.cells (m : Model) : List PV := [.sl 1 (m.classes.map zA), .sl 4 (m.pairs.map Pair.row), .sl 4 (m.counts.map Count.row), ei m.rules]
def BIG : Nat := 9223372036854775807
structure Laid (m : Model) : Prop where
 cn : m.classes.length ≤ 9223372036854775807
 pn : m.pairs.length ≤ 9223372036854775807
 ch : ∀ l ∈ m.classes, ∀ o ∈ l, o.charges.length ≤ 9223372036854775807
 ld : ∀ c ∈ m.counts, c.loads.length ≤ 9223372036854775807
def qF (n : Int) : Prop := (1 ≤ n ∧ n ≤ 1048576) ∨ n = 1099511627776
def zhu (m : Model) (n : Int) : Prop := 0 ≤ n ∧ n < m.rules
def xV (m : Model) (c o : Int) : Prop := 0 ≤ c ∧ 0 ≤ o ∧ ∃ l, m.classes[c.toNat]? = some l ∧ o < l.length
def qJ (m : Model) : Prop := m.classes.length ≤ 24 ∧ (∀ l ∈ m.classes, l.length ≤ 24) ∧ m.pairs.length ≤ 4000 ∧ m.counts.length ≤ 800 ∧ 0 ≤ m.rules ∧ m.rules ≤ 56
def zcK (m : Model) (l : List Charge) (i : Nat) : Prop := ∀ c, l[i]? = some c → zhu m c.rule ∧ qF c.cost ∧ ∀ k b, i = k + 1 → l[k]? = some b → b.rule < c.rule
def xI (m : Model) (o : Opt) : Prop := ∀ i, i < o.charges.length → zcK m o.charges i
def zhv (m : Model) (p : Pair) : Prop := zhu m p.rule ∧ 0 ≤ p.first ∧ p.first < p.second ∧ (∃ a b, m.classes[p.first.toNat]? = some a ∧ m.classes[p.second.toNat]? = some b ∧ p.table.length = a.length * b.length) ∧ ∀ n ∈ p.table, n = 0 ∨ qF n
def zgD (p q : Pair) : Prop := p.rule < q.rule ∨ (p.rule = q.rule ∧ (p.first < q.first ∨ (p.first = q.first ∧ p.second < q.second)))
def zcb (m : Model) (i : Nat) : Prop := ∀ p, m.pairs[i]? = some p → zhv m p ∧ ∀ k q, i = k + 1 → m.pairs[k]? = some q → zgD q p
def loadAt (m : Model) (l : List Load) (i : Nat) : Prop := ∀ x, l[i]? = some x → xV m x.cls x.opt ∧ 1 ≤ x.weight ∧ x.weight ≤ 1000 ∧ ∀ k y, i = k + 1 → l[k]? = some y → y.cls < x.cls ∨ (y.cls = x.cls ∧ y.opt < x.opt)
def zds (m : Model) (c : Count) : Prop := zhu m c.rule ∧ 0 ≤ c.most ∧ c.most ≤ 1048576 ∧ qF c.penalty ∧ ∀ i, i < c.loads.length → loadAt m c.loads i
def zdQ (m : Model) : Prop := (∀ l ∈ m.classes, ∀ o ∈ l, xI m o) ∧ (∀ i, i < m.pairs.length → zcb m i) ∧ ∀ c ∈ m.counts, zds m c
noncomputable def qx (m : Model) : Int := if pB (qJ m) then (if pB (zdQ m) then 0 else 1) else 2
theorem mE2 {m : Model} (h : ¬ qJ m) : qx m = 2 := by unfold qx; rw [zaj h]; rfl
theorem mE1 {m : Model} (h0 : qJ m) (h : ¬ zdQ m) : qx m = 1 := by unfold qx; rw [zaS h0, zaj h]; rfl
theorem mE0 {m : Model} (h0 : qJ m) (h : zdQ m) : qx m = 0 := by unfold qx; rw [zaS h0, zaS h]; rfl
end Go.Proofs.YtihpjcmloecaaaaGreat.Cw
namespace Go.Proofs.YtihpjcmloecaaaaGreat.Cw
open Go.Cw Go.Proofs
set_option linter.unusedVariables false
set_option maxRecDepth 100000
set_option maxHeartbeats 800000
theorem zm3 (n : Int) : zH Tryz.prog 106 [zg .i64 n] (fun r => r = zo (pB (qF n))) := by
 refine zh tok mixed 13 rfl (fn := Tryz.f106) (c := Tryz.f106.body.getD .skip) (by kernel_rfl) (by kernel_rfl) (by kernel_rfl) rfl 0 rfl ?_
 repeat' (first | refine o1 ?_ | refine o2 ?_ | refine k1 ?_ | refine k2 ?_ | refine k7 ?_ | refine And.intro ?_ ?_ | (intro h; first | exact Bool.noConfusion h | exact nz _ h | exact nl h | (simp at h; done) | (simp at h; first | (exfalso; omega) | skip) | skip) | (change zx _ _ _ _; refine zd rfl trivial ?_) | fail)
 all_goals (refine congrArg zo (zea ?_); unfold qF; simp; omega)
theorem zhd (n : Int) : zH Tryz.prog 64 [zg .i64 n] (fun r => r = zo (pB (qF n))) := by
 refine zh tok mixed 13 rfl (fn := Tryz.f64) (c := Tryz.f64.body.getD .skip) (by kernel_rfl) (by kernel_rfl) (by kernel_rfl) rfl 0 rfl ?_
 repeat' (first | refine o1 ?_ | refine o2 ?_ | refine k1 ?_ | refine k2 ?_ | refine k7 ?_ | refine And.intro ?_ ?_ | (intro h; first | exact Bool.noConfusion h | exact nz _ h | exact nl h | (simp at h; done) | (simp at h; first | (exfalso; omega) | skip) | skip) | (change zx _ _ _ _; refine zd rfl trivial ?_) | fail)
 all_goals (refine congrArg zo (zea ?_); unfold qF; simp; omega)
theorem zhe (m : Model) (n : Int) : zH Tryz.prog 105 [ag m.cells, zg .i64 n] (fun r => r = zo (pB (zhu m n))) := by
 refine zh tok mixed 13 rfl (fn := Tryz.f105) (c := Tryz.f105.body.getD .skip) (by kernel_rfl) (by kernel_rfl) (by kernel_rfl) rfl 0 rfl ?_
 repeat' (first | refine o1 ?_ | refine o2 ?_ | refine k1 ?_ | refine k2 ?_ | refine k7 ?_ | refine And.intro ?_ ?_ | (intro h; first | exact Bool.noConfusion h | exact nz _ h | exact nl h | (simp at h; done) | (simp at h; first | (exfalso; omega) | skip) | skip) | (change zx _ _ _ _; refine zd rfl trivial ?_) | fail)
 all_goals (refine congrArg zo (zea ?_); unfold zhu; simp; omega)
theorem zcL (m : Model) (n : Int) : zH Tryz.prog 63 [ag m.cells, zg .i64 n] (fun r => r = zo (pB (zhu m n))) := by
 refine zh tok mixed 13 rfl (fn := Tryz.f63) (c := Tryz.f63.body.getD .skip) (by kernel_rfl) (by kernel_rfl) (by kernel_rfl) rfl 0 rfl ?_
 repeat' (first | refine o1 ?_ | refine o2 ?_ | refine k1 ?_ | refine k2 ?_ | refine k7 ?_ | refine And.intro ?_ ?_ | (intro h; first | exact Bool.noConfusion h | exact nz _ h | exact nl h | (simp at h; done) | (simp at h; first | (exfalso; omega) | skip) | skip) | (change zx _ _ _ _; refine zd rfl trivial ?_) | fail)
 all_goals (refine congrArg zo (zea ?_); unfold zhu; simp; omega)
theorem zhR {m : Model} {n : Nat} {o : Int} {l : List Opt} (hl : m.classes[n]? = some l) : xV m n o ↔ 0 ≤ o ∧ o < l.length := by
 unfold xV
 rw [Int.toNat_natCast, hl]
 constructor
 · rintro ⟨h1, h2, l', h3, h4⟩; cases h3; exact ⟨h2, h4⟩
 · rintro ⟨h1, h2⟩; exact ⟨by omega, h1, l, rfl, h2⟩
theorem zme {m : Model} {c o : Int} (h : ¬ (0 ≤ c ∧ c < m.classes.length)) : ¬ xV m c o := fun ⟨h1, h2, l, h3, h4⟩ => by
 have := (List.getElem?_eq_some_iff.1 h3).1
 omega
theorem zm0 (m : Model) (c o : Int) : zH Tryz.prog 99 [ag m.cells, zg .i64 c, zg .i64 o] (fun r => r = zo (pB (xV m c o))) := by
 by_cases h : 0 ≤ c ∧ c < m.classes.length
 · obtain ⟨h1, h2⟩ := h
   obtain ⟨n, rfl⟩ := Int.eq_ofNat_of_zero_le h1
   obtain ⟨l, hl⟩ := qj (show n < m.classes.length by omega)
   refine zh tok mixed 30 rfl (fn := Tryz.f99) (c := Tryz.f99.body.getD .skip) (by kernel_rfl) (by kernel_rfl) (by kernel_rfl) rfl 0 rfl ?_
   rw [zgG (zhR hl)]
   repeat' (first | (refine zj (k := n) (zf hl) (by omega) ?_) | refine o1 ?_ | refine o2 ?_ | refine k1 ?_ | refine k2 ?_ | refine k7 ?_ | refine And.intro ?_ ?_ | (intro h; first | exact Bool.noConfusion h | exact nz _ h | exact nl h | (simp at h; done) | (simp at h; first | (exfalso; omega) | skip) | skip) | (change zx _ _ _ _; refine zd rfl trivial ?_) | refine za ?_ | fail)
   all_goals first
    | (exfalso; omega)
    | (refine congrArg zo (zea ?_); simp; omega)
 · refine zh tok mixed 30 rfl (fn := Tryz.f99) (c := Tryz.f99.body.getD .skip) (by kernel_rfl) (by kernel_rfl) (by kernel_rfl) rfl 0 rfl ?_
   rw [zaj (zme h)]
   repeat' (first | refine o1 ?_ | refine o2 ?_ | refine k1 ?_ | refine k2 ?_ | refine k7 ?_ | refine And.intro ?_ ?_ | (intro h; first | exact Bool.noConfusion h | exact nz _ h | exact nl h | (simp at h; done) | (simp at h; first | (exfalso; omega) | skip) | skip) | (change zx _ _ _ _; refine zd rfl trivial ?_) | refine za ?_ | fail)
   all_goals first
    | exact rfl
    | (exfalso; omega)
theorem zkw (m : Model) (c o : Int) : zH Tryz.prog 94 [ag m.cells, zg .i64 c, zg .i64 o] (fun r => r = zo (pB (xV m c o))) := by
 by_cases h : 0 ≤ c ∧ c < m.classes.length
 · obtain ⟨h1, h2⟩ := h
   obtain ⟨n, rfl⟩ := Int.eq_ofNat_of_zero_le h1
   obtain ⟨l, hl⟩ := qj (show n < m.classes.length by omega)
   refine zh tok mixed 30 rfl (fn := Tryz.f94) (c := Tryz.f94.body.getD .skip) (by kernel_rfl) (by kernel_rfl) (by kernel_rfl) rfl 0 rfl ?_
   rw [zgG (zhR hl)]
   repeat' (first | (refine zj (k := n) (zf hl) (by omega) ?_) | refine o1 ?_ | refine o2 ?_ | refine k1 ?_ | refine k2 ?_ | refine k7 ?_ | refine And.intro ?_ ?_ | (intro h; first | exact Bool.noConfusion h | exact nz _ h | exact nl h | (simp at h; done) | (simp at h; first | (exfalso; omega) | skip) | skip) | (change zx _ _ _ _; refine zd rfl trivial ?_) | refine za ?_ | fail)
   all_goals first
    | (exfalso; omega)
    | (refine congrArg zo (zea ?_); simp; omega)
 · refine zh tok mixed 30 rfl (fn := Tryz.f94) (c := Tryz.f94.body.getD .skip) (by kernel_rfl) (by kernel_rfl) (by kernel_rfl) rfl 0 rfl ?_
   rw [zaj (zme h)]
   repeat' (first | refine o1 ?_ | refine o2 ?_ | refine k1 ?_ | refine k2 ?_ | refine k7 ?_ | refine And.intro ?_ ?_ | (intro h; first | exact Bool.noConfusion h | exact nz _ h | exact nl h | (simp at h; done) | (simp at h; first | (exfalso; omega) | skip) | skip) | (change zx _ _ _ _; refine zd rfl trivial ?_) | refine za ?_ | fail)
   all_goals first
    | exact rfl
    | (exfalso; omega)
end Go.Proofs.YtihpjcmloecaaaaGreat.Cw
namespace Go.Proofs.YtihpjcmloecaaaaGreat.Cw
open Go.Cw Go.Proofs
set_option linter.unusedVariables false
set_option maxRecDepth 100000
set_option maxHeartbeats 800000
theorem zlG (l : List Opt) (f : FuncId) (caps : List PV) (p : Opt → Bool) (hl : l.length ≤ 100000) (hf : ∀ x ∈ l, zH Tryz.prog f (ag (Opt.row x) :: pvs caps) (fun r => r = zo (p x))) :
  zH Tryz.prog 97 [.pv (.sl 6 (l.map Opt.row)), .pv (.fn f caps)] (fun r => r = zg .i64 (zmw p l)) := by
 refine zh tok mixed 19 rfl (fn := Tryz.f97) (c := Tryz.f97.body.getD .skip) (by kernel_rfl) (by kernel_rfl) (by kernel_rfl) rfl 0 rfl ?_
 repeat' (first | refine o1 ?_ | refine o2 ?_ | refine k1 ?_ | refine k2 ?_ | refine k4 ?_ | refine za ?_ | fail)
 refine qu (fun i : Nat => [(8, zg .i64 i)]) (fun _ => []) (fun i => i ≤ l.length ∧ ∀ j, j < i → ∀ y, l[j]? = some y → p y = false) (fun i => l.length - i) 0 ⟨by omega, fun j hj => by omega⟩ (by repeat' (first | exact trivial | exact ⟨_, rfl, ALe.refl⟩ | refine And.intro ?_ ?_)) (by repeat' (first | exact trivial)) ?_
 intro i ⟨hi, hall⟩
 rcases Nat.lt_or_ge i l.length with hlt | hge
 · obtain ⟨x, hx⟩ := qj hlt
   have hm := List.mem_of_getElem? hx
   repeat' (first | refine o1 ?_ | refine o2 ?_ | refine k1 ?_ | refine k2 ?_ | refine k3 ?_ | refine k4 ?_ | refine k6 ?_ | refine k7 ?_ | refine And.intro ?_ ?_ | (intro h; first | exact Bool.noConfusion h | exact nz _ h | exact nl h | (simp at h; done) | (simp at h; first | (exfalso; omega) | skip) | skip) | (change zx _ _ _ _; refine zd rfl trivial ?_) | refine zc (by omega) (by omega) ?_ | refine ⟨_, _, (by first | rfl | assumption), zf (by assumption), ?_⟩ | (change zp _ _ (_ ++ pvs _) _ _; refine zbM rfl (by repeat' (first | trivial | refine And.intro ?_ ?_ | (show 0 + _ ≤ List.length _; simp))) (hf x hm) rfl ?_) | fail)
   all_goals first
    | exact ⟨i + 1, ⟨by omega, zz hall fun y hy => by rw [hx] at hy; cases hy; assumption⟩, by omega, zJ [] rfl rfl trivial (by repeat' (first | exact trivial | exact rfl | refine And.intro ?_ ?_))⟩
    | exact congrArg (zg .i64) (zeb hall hx (by assumption)).symm
 · repeat' (first | refine o1 ?_ | refine o2 ?_ | refine k1 ?_ | refine k2 ?_ | refine k3 ?_ | refine k7 ?_ | refine k8 ?_ | refine And.intro ?_ ?_ | (intro h; first | exact Bool.noConfusion h | exact nz _ h | exact nl h | (simp at h; done) | (simp at h; first | (exfalso; omega) | skip) | skip) | (change zx _ _ _ _; refine zd rfl trivial ?_) | fail)
   exact congrArg (zg .i64) (zdm fun j hj => hall j (by omega)).symm
theorem zkB (l : List Opt) (f : FuncId) (caps : List PV) (p : Opt → Bool) (hl : l.length ≤ 100000) (hf : ∀ x ∈ l, zH Tryz.prog f (ag (Opt.row x) :: pvs caps) (fun r => r = zo (p x))) :
  zH Tryz.prog 55 [.pv (.sl 6 (l.map Opt.row)), .pv (.fn f caps)] (fun r => r = zo (l.any p)) := by
 refine zh tok mixed 9 rfl (fn := Tryz.f55) (c := Tryz.f55.body.getD .skip) (by kernel_rfl) (by kernel_rfl) (by kernel_rfl) rfl 0 rfl ?_
 repeat' (first | refine o1 ?_ | refine o2 ?_ | refine k1 ?_ | refine k2 ?_ | refine k7 ?_ | (change zx _ _ _ _; refine zd rfl trivial ?_) | (change zp _ _ _ _ _; refine zC rfl (by repeat' (first | trivial | refine And.intro ?_ ?_ | (show 0 + _ ≤ List.length _; simp))) zW.refl (zlG l f caps p hl hf) rfl ?_) | fail)
 exact congrArg zo zeI
theorem zjf (l : List Count) (f : FuncId) (caps : List PV) (p : Count → Bool) (hl : l.length ≤ 100000) (hf : ∀ x ∈ l, zH Tryz.prog f (ag (Count.row x) :: pvs caps) (fun r => r = zo (p x))) :
  zH Tryz.prog 111 [.pv (.sl 4 (l.map Count.row)), .pv (.fn f caps)] (fun r => r = zg .i64 (zmw p l)) := by
 refine zh tok mixed 19 rfl (fn := Tryz.f111) (c := Tryz.f111.body.getD .skip) (by kernel_rfl) (by kernel_rfl) (by kernel_rfl) rfl 0 rfl ?_
 repeat' (first | refine o1 ?_ | refine o2 ?_ | refine k1 ?_ | refine k2 ?_ | refine k4 ?_ | refine za ?_ | fail)
 refine qu (fun i : Nat => [(8, zg .i64 i)]) (fun _ => []) (fun i => i ≤ l.length ∧ ∀ j, j < i → ∀ y, l[j]? = some y → p y = false) (fun i => l.length - i) 0 ⟨by omega, fun j hj => by omega⟩ (by repeat' (first | exact trivial | exact ⟨_, rfl, ALe.refl⟩ | refine And.intro ?_ ?_)) (by repeat' (first | exact trivial)) ?_
 intro i ⟨hi, hall⟩
 rcases Nat.lt_or_ge i l.length with hlt | hge
 · obtain ⟨x, hx⟩ := qj hlt
   have hm := List.mem_of_getElem? hx
   repeat' (first | refine o1 ?_ | refine o2 ?_ | refine k1 ?_ | refine k2 ?_ | refine k3 ?_ | refine k4 ?_ | refine k6 ?_ | refine k7 ?_ | refine And.intro ?_ ?_ | (intro h; first | exact Bool.noConfusion h | exact nz _ h | exact nl h | (simp at h; done) | (simp at h; first | (exfalso; omega) | skip) | skip) | (change zx _ _ _ _; refine zd rfl trivial ?_) | refine zc (by omega) (by omega) ?_ | refine ⟨_, _, (by first | rfl | assumption), zf (by assumption), ?_⟩ | (change zp _ _ (_ ++ pvs _) _ _; refine zbM rfl (by repeat' (first | trivial | refine And.intro ?_ ?_ | (show 0 + _ ≤ List.length _; simp))) (hf x hm) rfl ?_) | fail)
   all_goals first
    | exact ⟨i + 1, ⟨by omega, zz hall fun y hy => by rw [hx] at hy; cases hy; assumption⟩, by omega, zJ [] rfl rfl trivial (by repeat' (first | exact trivial | exact rfl | refine And.intro ?_ ?_))⟩
    | exact congrArg (zg .i64) (zeb hall hx (by assumption)).symm
 · repeat' (first | refine o1 ?_ | refine o2 ?_ | refine k1 ?_ | refine k2 ?_ | refine k3 ?_ | refine k7 ?_ | refine k8 ?_ | refine And.intro ?_ ?_ | (intro h; first | exact Bool.noConfusion h | exact nz _ h | exact nl h | (simp at h; done) | (simp at h; first | (exfalso; omega) | skip) | skip) | (change zx _ _ _ _; refine zd rfl trivial ?_) | fail)
   exact congrArg (zg .i64) (zdm fun j hj => hall j (by omega)).symm
theorem zlL (l : List Count) (f : FuncId) (caps : List PV) (p : Count → Bool) (hl : l.length ≤ 100000) (hf : ∀ x ∈ l, zH Tryz.prog f (ag (Count.row x) :: pvs caps) (fun r => r = zo (p x))) :
  zH Tryz.prog 78 [.pv (.sl 4 (l.map Count.row)), .pv (.fn f caps)] (fun r => r = zo (l.any p)) := by
 refine zh tok mixed 9 rfl (fn := Tryz.f78) (c := Tryz.f78.body.getD .skip) (by kernel_rfl) (by kernel_rfl) (by kernel_rfl) rfl 0 rfl ?_
 repeat' (first | refine o1 ?_ | refine o2 ?_ | refine k1 ?_ | refine k2 ?_ | refine k7 ?_ | (change zx _ _ _ _; refine zd rfl trivial ?_) | (change zp _ _ _ _ _; refine zC rfl (by repeat' (first | trivial | refine And.intro ?_ ?_ | (show 0 + _ ≤ List.length _; simp))) zW.refl (zjf l f caps p hl hf) rfl ?_) | fail)
 exact congrArg zo zeI
theorem zfC (l : List (List Opt)) (f : FuncId) (caps : List PV) (p : (List Opt) → Bool) (hl : l.length ≤ 100000) (hf : ∀ x ∈ l, zH Tryz.prog f (AV.pv (PV.sl 6 (List.map Opt.row x)) :: pvs caps) (fun r => r = zo (p x))) :
  zH Tryz.prog 53 [.pv (.sl 1 (l.map zA)), .pv (.fn f caps)] (fun r => r = zg .i64 (zmw p l)) := by
 refine zh tok mixed 19 rfl (fn := Tryz.f53) (c := Tryz.f53.body.getD .skip) (by kernel_rfl) (by kernel_rfl) (by kernel_rfl) rfl 0 rfl ?_
 repeat' (first | refine o1 ?_ | refine o2 ?_ | refine k1 ?_ | refine k2 ?_ | refine k4 ?_ | refine za ?_ | fail)
 refine qu (fun i : Nat => [(8, zg .i64 i)]) (fun _ => []) (fun i => i ≤ l.length ∧ ∀ j, j < i → ∀ y, l[j]? = some y → p y = false) (fun i => l.length - i) 0 ⟨by omega, fun j hj => by omega⟩ (by repeat' (first | exact trivial | exact ⟨_, rfl, ALe.refl⟩ | refine And.intro ?_ ?_)) (by repeat' (first | exact trivial)) ?_
 intro i ⟨hi, hall⟩
 rcases Nat.lt_or_ge i l.length with hlt | hge
 · obtain ⟨x, hx⟩ := qj hlt
   have hm := List.mem_of_getElem? hx
   repeat' (first | refine o1 ?_ | refine o2 ?_ | refine k1 ?_ | refine k2 ?_ | refine k3 ?_ | refine k4 ?_ | refine k6 ?_ | refine k7 ?_ | refine And.intro ?_ ?_ | (intro h; first | exact Bool.noConfusion h | exact nz _ h | exact nl h | (simp at h; done) | (simp at h; first | (exfalso; omega) | skip) | skip) | (change zx _ _ _ _; refine zd rfl trivial ?_) | refine zc (by omega) (by omega) ?_ | refine ⟨_, _, (by first | rfl | assumption), zf (by assumption), ?_⟩ | (change zp _ _ (_ ++ pvs _) _ _; refine zbM rfl (by repeat' (first | trivial | refine And.intro ?_ ?_ | (show 0 + _ ≤ List.length _; simp))) (hf x hm) rfl ?_) | fail)
   all_goals first
    | exact ⟨i + 1, ⟨by omega, zz hall fun y hy => by rw [hx] at hy; cases hy; assumption⟩, by omega, zJ [] rfl rfl trivial (by repeat' (first | exact trivial | exact rfl | refine And.intro ?_ ?_))⟩
    | exact congrArg (zg .i64) (zeb hall hx (by assumption)).symm
 · repeat' (first | refine o1 ?_ | refine o2 ?_ | refine k1 ?_ | refine k2 ?_ | refine k3 ?_ | refine k7 ?_ | refine k8 ?_ | refine And.intro ?_ ?_ | (intro h; first | exact Bool.noConfusion h | exact nz _ h | exact nl h | (simp at h; done) | (simp at h; first | (exfalso; omega) | skip) | skip) | (change zx _ _ _ _; refine zd rfl trivial ?_) | fail)
   exact congrArg (zg .i64) (zdm fun j hj => hall j (by omega)).symm
theorem znV (l : List (List Opt)) (f : FuncId) (caps : List PV) (p : (List Opt) → Bool) (hl : l.length ≤ 100000) (hf : ∀ x ∈ l, zH Tryz.prog f (AV.pv (PV.sl 6 (List.map Opt.row x)) :: pvs caps) (fun r => r = zo (p x))) :
  zH Tryz.prog 104 [.pv (.sl 1 (l.map zA)), .pv (.fn f caps)] (fun r => r = zo (l.any p)) := by
 refine zh tok mixed 9 rfl (fn := Tryz.f104) (c := Tryz.f104.body.getD .skip) (by kernel_rfl) (by kernel_rfl) (by kernel_rfl) rfl 0 rfl ?_
 repeat' (first | refine o1 ?_ | refine o2 ?_ | refine k1 ?_ | refine k2 ?_ | refine k7 ?_ | (change zx _ _ _ _; refine zd rfl trivial ?_) | (change zp _ _ _ _ _; refine zC rfl (by repeat' (first | trivial | refine And.intro ?_ ?_ | (show 0 + _ ≤ List.length _; simp))) zW.refl (zfC l f caps p hl hf) rfl ?_) | fail)
 exact congrArg zo zeI
theorem zlH (l : List Int) (f : FuncId) (caps : List PV) (p : Int → Bool) (hl : l.length ≤ 100000) (hf : ∀ x ∈ l, zH Tryz.prog f (zg .i64 x :: pvs caps) (fun r => r = zo (p x))) :
  zH Tryz.prog 120 [.pv (.sl 1 (l.map (fun n => [ei n]))), .pv (.fn f caps)] (fun r => r = zg .i64 (zmw p l)) := by
 refine zh tok mixed 19 rfl (fn := Tryz.f120) (c := Tryz.f120.body.getD .skip) (by kernel_rfl) (by kernel_rfl) (by kernel_rfl) rfl 0 rfl ?_
 repeat' (first | refine o1 ?_ | refine o2 ?_ | refine k1 ?_ | refine k2 ?_ | refine k4 ?_ | refine za ?_ | fail)
 refine qu (fun i : Nat => [(8, zg .i64 i)]) (fun _ => []) (fun i => i ≤ l.length ∧ ∀ j, j < i → ∀ y, l[j]? = some y → p y = false) (fun i => l.length - i) 0 ⟨by omega, fun j hj => by omega⟩ (by repeat' (first | exact trivial | exact ⟨_, rfl, ALe.refl⟩ | refine And.intro ?_ ?_)) (by repeat' (first | exact trivial)) ?_
 intro i ⟨hi, hall⟩
 rcases Nat.lt_or_ge i l.length with hlt | hge
 · obtain ⟨x, hx⟩ := qj hlt
   have hm := List.mem_of_getElem? hx
   repeat' (first | refine o1 ?_ | refine o2 ?_ | refine k1 ?_ | refine k2 ?_ | refine k3 ?_ | refine k4 ?_ | refine k6 ?_ | refine k7 ?_ | refine And.intro ?_ ?_ | (intro h; first | exact Bool.noConfusion h | exact nz _ h | exact nl h | (simp at h; done) | (simp at h; first | (exfalso; omega) | skip) | skip) | (change zx _ _ _ _; refine zd rfl trivial ?_) | refine zc (by omega) (by omega) ?_ | refine ⟨_, _, (by first | rfl | assumption), zf (by assumption), ?_⟩ | (change zp _ _ (_ ++ pvs _) _ _; refine zbM rfl (by repeat' (first | trivial | refine And.intro ?_ ?_ | (show 0 + _ ≤ List.length _; simp))) (hf x hm) rfl ?_) | fail)
   all_goals first
    | exact ⟨i + 1, ⟨by omega, zz hall fun y hy => by rw [hx] at hy; cases hy; assumption⟩, by omega, zJ [] rfl rfl trivial (by repeat' (first | exact trivial | exact rfl | refine And.intro ?_ ?_))⟩
    | exact congrArg (zg .i64) (zeb hall hx (by assumption)).symm
 · repeat' (first | refine o1 ?_ | refine o2 ?_ | refine k1 ?_ | refine k2 ?_ | refine k3 ?_ | refine k7 ?_ | refine k8 ?_ | refine And.intro ?_ ?_ | (intro h; first | exact Bool.noConfusion h | exact nz _ h | exact nl h | (simp at h; done) | (simp at h; first | (exfalso; omega) | skip) | skip) | (change zx _ _ _ _; refine zd rfl trivial ?_) | fail)
   exact congrArg (zg .i64) (zdm fun j hj => hall j (by omega)).symm
theorem zpU (l : List Int) (f : FuncId) (caps : List PV) (p : Int → Bool) (hl : l.length ≤ 100000) (hf : ∀ x ∈ l, zH Tryz.prog f (zg .i64 x :: pvs caps) (fun r => r = zo (p x))) :
  zH Tryz.prog 107 [.pv (.sl 1 (l.map (fun n => [ei n]))), .pv (.fn f caps)] (fun r => r = zo (l.any p)) := by
 refine zh tok mixed 9 rfl (fn := Tryz.f107) (c := Tryz.f107.body.getD .skip) (by kernel_rfl) (by kernel_rfl) (by kernel_rfl) rfl 0 rfl ?_
 repeat' (first | refine o1 ?_ | refine o2 ?_ | refine k1 ?_ | refine k2 ?_ | refine k7 ?_ | (change zx _ _ _ _; refine zd rfl trivial ?_) | (change zp _ _ _ _ _; refine zC rfl (by repeat' (first | trivial | refine And.intro ?_ ?_ | (show 0 + _ ≤ List.length _; simp))) zW.refl (zlH l f caps p hl hf) rfl ?_) | fail)
 exact congrArg zo zeI
theorem zg6 {m : Model} {l : List Charge} {c : Charge} (hc : l[0]? = some c) (h1 : zhu m c.rule) (h2 : qF c.cost) : zcK m l 0 := fun c' h' => by
 rw [hc] at h'; cases h'
 exact ⟨h1, h2, fun k b e => by omega⟩
theorem zg7 {m : Model} {l : List Charge} {k : Nat} {c b : Charge} (hc : l[k + 1]? = some c) (hb : l[k]? = some b) (h1 : zhu m c.rule) (h2 : qF c.cost) (h3 : b.rule < c.rule) : zcK m l (k + 1) := fun c' h' => by
 rw [hc] at h'; cases h'
 refine ⟨h1, h2, fun k' b' e hb' => ?_⟩
 obtain rfl : k = k' := by omega
 rw [hb] at hb'; cases hb'; exact h3
theorem zhK {m : Model} (h : ∀ l ∈ m.classes, l.length ≤ 24) : qJ m ↔ m.classes.length ≤ 24 ∧ m.pairs.length ≤ 4000 ∧ m.counts.length ≤ 800 ∧ 0 ≤ m.rules ∧ m.rules ≤ 56 :=
 ⟨fun ⟨a, _, b⟩ => ⟨a, b⟩, fun ⟨a, b⟩ => ⟨a, h, b⟩⟩
theorem zpT (m : Model) (o : Opt) (ho : o.charges.length ≤ 9223372036854775807) : zH Tryz.prog 75 [ag m.cells, ag o.row] (fun r => r = zo (pB (xI m o))) := by
 refine zh tok mixed 43 rfl (fn := Tryz.f75) (c := Tryz.f75.body.getD .skip) (by kernel_rfl) (by kernel_rfl) (by kernel_rfl) rfl 0 rfl ?_
 repeat' (first | refine o1 ?_ | refine o2 ?_ | refine k1 ?_ | refine k2 ?_ | refine k4 ?_ | refine za ?_ | fail)
 refine qu (fun i : Nat => [(10, zg .i64 i)]) (fun _ => []) (fun i => i ≤ o.charges.length ∧ ∀ j, j < i → zcK m o.charges j) (fun i => o.charges.length - i) 0 ⟨by omega, fun j hj => by omega⟩ (by repeat' (first | exact trivial | exact ⟨_, rfl, ALe.refl⟩ | refine And.intro ?_ ?_)) (by repeat' (first | exact trivial | exact rfl | refine And.intro ?_ ?_)) ?_
 intro i ⟨hi, hall⟩
 rcases Nat.lt_or_ge i o.charges.length with hlt | hge
 · obtain ⟨c, hc⟩ := qj hlt
   rcases i with _ | k
   · repeat' (first | refine o1 ?_ | refine o2 ?_ | refine k1 ?_ | refine k2 ?_ | refine k3 ?_ | refine k4 ?_ | refine k6 ?_ | refine k7 ?_ | refine k8 ?_ | refine And.intro ?_ ?_ | refine o3 ?_ | refine o4 ?_ | (intro h; first | exact Bool.noConfusion h | exact nz _ h | exact nl h | (simp at h; done) | (simp at h; first | (exfalso; omega) | skip) | skip) | (change zx _ _ _ _; refine zd rfl trivial ?_) | exact (by kernel_rfl : zn _ _ = true) | refine zc (by omega) (by omega) ?_ | refine ⟨_, _, (by first | rfl | assumption), zf (by assumption), ?_⟩ | (change zI _ _ _ _ _; refine zF rfl (by repeat' (first | trivial | refine And.intro ?_ ?_ | (show 0 + _ ≤ List.length _; simp))) zW.refl (zhe m c.rule) rfl ?_) | (change zI _ _ _ _ _; refine zF rfl (by repeat' (first | trivial | refine And.intro ?_ ?_ | (show 0 + _ ≤ List.length _; simp))) zW.refl (zm3 c.cost) rfl ?_) | fail)
     all_goals first
      | (exfalso; omega)
      | (refine congrArg zo (zaj fun h => ?_).symm; obtain ⟨g1, g2, g3⟩ := h _ hlt c hc; first | exact absurd g1 (by assumption) | exact absurd g2 (by assumption))
      | exact ⟨1, ⟨by omega, zz hall (zg6 hc (by assumption) (by assumption))⟩, by omega, zJ [0, 1] rfl rfl ⟨rfl, rfl, trivial⟩ (by repeat' (first | exact trivial | exact rfl | refine And.intro ?_ ?_))⟩
      | (exfalso; simp_all; done)
   · obtain ⟨b, hb⟩ := qj (show k < o.charges.length by omega)
     repeat' (first | (refine zj (k := k + 1) (zf hc) (by omega) ?_) | (refine zj (k := k) (zf hb) (by omega) ?_) | refine o1 ?_ | refine o2 ?_ | refine k1 ?_ | refine k2 ?_ | refine k3 ?_ | refine k4 ?_ | refine k6 ?_ | refine k7 ?_ | refine And.intro ?_ ?_ | refine o3 ?_ | refine o4 ?_ | (intro h; first | exact Bool.noConfusion h | exact nz _ h | exact nl h | (simp at h; done) | (simp at h; first | (exfalso; omega) | skip) | skip) | (change zx _ _ _ _; refine zd rfl trivial ?_) | exact (by kernel_rfl : zn _ _ = true) | refine zc (by omega) (by omega) ?_ | (change zI _ _ _ _ _; refine zF rfl (by repeat' (first | trivial | refine And.intro ?_ ?_ | (show 0 + _ ≤ List.length _; simp))) zW.refl (zhe m c.rule) rfl ?_) | (change zI _ _ _ _ _; refine zF rfl (by repeat' (first | trivial | refine And.intro ?_ ?_ | (show 0 + _ ≤ List.length _; simp))) zW.refl (zm3 c.cost) rfl ?_) | fail)
     all_goals first
      | (exfalso; omega)
      | (refine congrArg zo (zaj fun h => ?_).symm; obtain ⟨g1, g2, g3⟩ := h _ hlt c hc; first | exact absurd g1 (by assumption) | exact absurd g2 (by assumption) | (have := g3 k b rfl hb; omega))
      | exact ⟨k + 2, ⟨by omega, zz hall (zg7 hc hb (by assumption) (by assumption) (by omega))⟩, by omega, zJ [0, 1] rfl rfl ⟨rfl, rfl, trivial⟩ (by repeat' (first | exact trivial | exact rfl | refine And.intro ?_ ?_))⟩
 · repeat' (first | refine o1 ?_ | refine o2 ?_ | refine k1 ?_ | refine k2 ?_ | refine k3 ?_ | refine k7 ?_ | refine k8 ?_ | refine And.intro ?_ ?_ | (intro h; first | exact Bool.noConfusion h | exact nz _ h | exact nl h | (simp at h; done) | (simp at h; first | (exfalso; omega) | skip) | skip) | (change zx _ _ _ _; refine zd rfl trivial ?_) | fail)
   all_goals first
    | exact congrArg zo (zaS fun j hj => hall j (by omega)).symm
theorem c_many (l : List Opt) : zH Tryz.prog 103 [.pv (.sl 6 (l.map Opt.row))] (fun r => r = zo (decide (24 < l.length))) := by
 refine zh tok mixed 6 rfl (fn := Tryz.f103) (c := Tryz.f103.body.getD .skip) (by kernel_rfl) (by kernel_rfl) (by kernel_rfl) rfl 0 rfl ?_
 repeat' (first | refine o1 ?_ | refine o2 ?_ | refine k1 ?_ | refine k2 ?_ | refine k7 ?_ | (change zx _ _ _ _; refine zd rfl trivial ?_) | refine za ?_ | fail)
 all_goals (refine congrArg zo (decide_eq_decide.2 ?_); omega)
theorem zpF (m : Model) : zH Tryz.prog 73 [ag m.cells] (fun r => r = zo (pB (¬ qJ m))) := by
 refine zh tok mixed 36 rfl (fn := Tryz.f73) (c := Tryz.f73.body.getD .skip) (by kernel_rfl) (by kernel_rfl) (by kernel_rfl) rfl 0 rfl ?_
 repeat' (first | refine o1 ?_ | refine o2 ?_ | refine k1 ?_ | refine k2 ?_ | refine k7 ?_ | refine And.intro ?_ ?_ | (intro h; first | exact Bool.noConfusion h | exact nz _ h | exact nl h | (simp at h; done) | (simp at h; first | (exfalso; omega) | skip) | skip) | (change zx _ _ _ _; refine zd rfl trivial ?_) | refine za ?_ | (change zp _ _ _ _ _; refine zC rfl (by repeat' (first | trivial | refine And.intro ?_ ?_ | (show 0 + _ ≤ List.length _; simp))) zW.refl (znV m.classes 103 [] (fun x => decide (24 < x.length)) (by omega) (fun x _ => c_many x)) rfl ?_) | fail)
 all_goals first
  | (refine congrArg zo (zea ?_); rw [zhK (by assumption), decide_eq_true_iff]; omega)
  | (refine congrArg zo (zaS fun h => ?_).symm; obtain ⟨h1, h2, h3, h4, h5, h6⟩ := h; omega)
  | (refine congrArg zo (zaS fun h => ?_).symm; obtain ⟨x, hx, h7⟩ := (by assumption : ∃ x, x ∈ m.classes ∧ 24 < List.length x); have := h.2.1 x hx; omega)
theorem zpw (m : Model) (hm : Laid m) : zH Tryz.prog 62 [ag m.cells] (fun r => r = zo (pB (qJ m))) := by
 have hn := hm.cn
 refine zh tok mixed 44 rfl (fn := Tryz.f62) (c := Tryz.f62.body.getD .skip) (by kernel_rfl) (by kernel_rfl) (by kernel_rfl) rfl 0 rfl ?_
 repeat' (first | refine o1 ?_ | refine o2 ?_ | refine k1 ?_ | refine k2 ?_ | refine k4 ?_ | fail)
 refine qu (fun i : Nat => [(3, zg .i64 i)]) (fun _ => []) (fun i => i ≤ m.classes.length ∧ ∀ j, j < i → ∀ l, m.classes[j]? = some l → l.length ≤ 24) (fun i => m.classes.length - i) 0 ⟨by omega, fun j hj => by omega⟩ (by repeat' (first | exact trivial | exact ⟨_, rfl, ALe.refl⟩ | refine And.intro ?_ ?_)) (by repeat' (first | exact trivial | exact rfl | refine And.intro ?_ ?_)) ?_
 intro i ⟨hi, hall⟩
 rcases Nat.lt_or_ge i m.classes.length with hlt | hge
 · obtain ⟨l, hl⟩ := qj hlt
   repeat' (first | refine o1 ?_ | refine o2 ?_ | refine k1 ?_ | refine k2 ?_ | refine k3 ?_ | refine k4 ?_ | refine k6 ?_ | refine k7 ?_ | refine And.intro ?_ ?_ | (intro h; first | exact Bool.noConfusion h | exact nz _ h | exact nl h | (simp at h; done) | (simp at h; first | (exfalso; omega) | skip) | skip) | (change zx _ _ _ _; refine zd rfl trivial ?_) | refine za ?_ | refine zc (by omega) (by omega) ?_ | refine ⟨_, _, (by first | rfl | assumption), zf (by assumption), ?_⟩ | fail)
   all_goals first
    | (refine congrArg zo (zaj fun h => ?_).symm; have := h.2.1 l (List.mem_of_getElem? hl); omega)
    | exact ⟨i + 1, ⟨by omega, zz hall fun l' h' => by rw [hl] at h'; cases h'; omega⟩, by omega, zJ [0] rfl rfl ⟨rfl, trivial⟩ (by repeat' (first | exact trivial | exact rfl | refine And.intro ?_ ?_))⟩
 · have hall2 : ∀ l ∈ m.classes, l.length ≤ 24 := fun l hl => by
    obtain ⟨j, hj⟩ := List.getElem?_of_mem hl
    exact hall j (by have := (List.getElem?_eq_some_iff.1 hj).1; omega) l hj
   repeat' (first | refine o1 ?_ | refine o2 ?_ | refine k1 ?_ | refine k2 ?_ | refine k3 ?_ | refine k7 ?_ | refine k8 ?_ | refine And.intro ?_ ?_ | (intro h; first | exact Bool.noConfusion h | exact nz _ h | exact nl h | (simp at h; done) | (simp at h; first | (exfalso; omega) | skip) | skip) | (change zx _ _ _ _; refine zd rfl trivial ?_) | refine za ?_ | fail)
   all_goals first
    | (refine congrArg zo (zea ?_); rw [zhK hall2, decide_eq_true_iff]; omega)
    | (refine congrArg zo (zaj fun h => ?_).symm; obtain ⟨h1, h2, h3, h4, h5, h6⟩ := h; omega)
end Go.Proofs.YtihpjcmloecaaaaGreat.Cw
namespace Go.Proofs.YtihpjcmloecaaaaGreat.Cw
open Go.Cw Go.Proofs
set_option linter.unusedVariables false
set_option maxRecDepth 100000
def zcI (a b : Int) : Int := if a < b then -1 else if a > b then 1 else 0
def orI : List Int → Int
 | [] => 0
 | x :: l => if x = 0 then orI l else x
theorem orI_at : ∀ {l : List Int} {i : Nat} {x : Int}, (∀ j, j < i → ∀ y, l[j]? = some y → y = 0) → l[i]? = some x → x ≠ 0 → orI l = x
 | [], i, x, _, h, _ => by simp at h
 | y :: l, 0, x, _, h, hx => by simp at h; subst h; simp [orI, hx]
 | y :: l, i + 1, x, h0, h, hx => by
   have := h0 0 (by omega) y rfl
   subst this
   simp only [orI, if_true]
   exact orI_at (i := i) (fun j hj z hz => h0 (j + 1) (by omega) z (by simpa using hz)) (by simpa using h) hx
theorem zmd : ∀ {l : List Int}, (∀ j, j < l.length → ∀ y, l[j]? = some y → y = 0) → orI l = 0
 | [], _ => rfl
 | y :: l, h0 => by
   have := h0 0 (by simp) y rfl
   subst this
   simp only [orI, if_true]
   exact zmd fun j hj z hz => h0 (j + 1) (by simpa using hj) z (by simpa using hz)
theorem c_isNaN (a : Int) : zH Tryz.prog 121 [zg .i64 a] (fun r => r = zo false) := by
 refine zh tok mixed 6 rfl (fn := Tryz.f121) (c := Tryz.f121.body.getD .skip) (by kernel_rfl) (by kernel_rfl) (by kernel_rfl) rfl 0 rfl ?_
 repeat' (first | refine o1 ?_ | refine o2 ?_ | refine k1 ?_ | refine k2 ?_ | refine k7 ?_ | (change zx _ _ _ _; refine zd rfl trivial ?_) | fail)
 exact congrArg zo (by simp)
theorem c_cmp (a b : Int) : zH Tryz.prog 110 [zg .i64 a, zg .i64 b] (fun r => r = zg .i64 (zcI a b)) := by
 refine zh tok mixed 20 rfl (fn := Tryz.f110) (c := Tryz.f110.body.getD .skip) (by kernel_rfl) (by kernel_rfl) (by kernel_rfl) rfl 0 rfl ?_
 repeat' (first | refine o1 ?_ | refine o2 ?_ | refine k1 ?_ | refine k2 ?_ | refine k3 ?_ | refine k6 ?_ | refine k7 ?_ | refine And.intro ?_ ?_ | (intro h; first | exact Bool.noConfusion h | exact nz _ h | exact nl h | (simp at h; done) | (simp at h; first | (exfalso; omega) | skip) | skip) | (change zx _ _ _ _; refine zd rfl trivial ?_) | (change zp _ _ _ _ _; refine zC rfl (by repeat' (first | trivial | refine And.intro ?_ ?_ | (show 0 + _ ≤ List.length _; simp))) zW.refl (c_isNaN _) rfl ?_) | fail)
 all_goals exact congrArg (zg .i64) (by unfold zcI; split <;> first | omega | (split <;> omega))
theorem c_or (l : List Int) (hl : l.length ≤ 1000) : zH Tryz.prog 109 [.pv (qV l)] (fun r => r = zg .i64 (orI l)) := by
 refine zh tok mixed 18 rfl (fn := Tryz.f109) (c := Tryz.f109.body.getD .skip) (by kernel_rfl) (by kernel_rfl) (by kernel_rfl) rfl 0 rfl ?_
 repeat' (first | refine o1 ?_ | refine o2 ?_ | refine k1 ?_ | refine k2 ?_ | refine k4 ?_ | refine za ?_ | fail)
 refine qu (fun i : Nat => [(8, zg .i64 i)]) (fun _ => []) (fun i => i ≤ l.length ∧ ∀ j, j < i → ∀ y, l[j]? = some y → y = 0) (fun i => l.length - i) 0 ⟨by omega, fun j hj => by omega⟩ (by repeat' (first | exact trivial | exact ⟨_, rfl, ALe.refl⟩ | refine And.intro ?_ ?_)) (by repeat' (first | exact trivial)) ?_
 intro i ⟨hi, hall⟩
 rcases Nat.lt_or_ge i l.length with hlt | hge
 · obtain ⟨x, hx⟩ := qj hlt
   repeat' (first | refine o1 ?_ | refine o2 ?_ | refine k1 ?_ | refine k2 ?_ | refine k3 ?_ | refine k4 ?_ | refine k6 ?_ | refine k7 ?_ | refine And.intro ?_ ?_ | (intro h; first | exact Bool.noConfusion h | exact nz _ h | exact nl h | (simp at h; done) | (simp at h; first | (exfalso; omega) | skip) | skip) | (change zx _ _ _ _; refine zd rfl trivial ?_) | refine zc (by omega) (by omega) ?_ | refine ⟨_, _, (by first | rfl | assumption), zf (by assumption), ?_⟩ | fail)
   all_goals first
    | exact ⟨i + 1, ⟨by omega, zz hall fun y hy => by rw [hx] at hy; cases hy; assumption⟩, by omega, zJ [] rfl rfl trivial (by repeat' (first | exact trivial | exact rfl | refine And.intro ?_ ?_))⟩
    | exact congrArg (zg .i64) (orI_at hall hx (by assumption)).symm
 · repeat' (first | refine o1 ?_ | refine o2 ?_ | refine k1 ?_ | refine k2 ?_ | refine k3 ?_ | refine k7 ?_ | refine k8 ?_ | refine And.intro ?_ ?_ | (intro h; first | exact Bool.noConfusion h | exact nz _ h | exact nl h | (simp at h; done) | (simp at h; first | (exfalso; omega) | skip) | skip) | (change zx _ _ _ _; refine zd rfl trivial ?_) | fail)
   exact congrArg (zg .i64) (zmd fun j hj => hall j (by omega)).symm
end Go.Proofs.YtihpjcmloecaaaaGreat.Cw
namespace Go.Proofs.YtihpjcmloecaaaaGreat.Cw
open Go.Cw Go.Proofs
set_option linter.unusedVariables false
set_option maxRecDepth 100000
set_option maxHeartbeats 800000
theorem c_order (p q : Pair) : zH Tryz.prog 77 [ag p.row, ag q.row] (fun r => r = zg .i64 (orI [zcI p.rule q.rule, zcI p.first q.first, zcI p.second q.second])) := by
 refine zh tok mixed 22 rfl (fn := Tryz.f77) (c := Tryz.f77.body.getD .skip) (by kernel_rfl) (by kernel_rfl) (by kernel_rfl) rfl 0 rfl ?_
 repeat' (first | refine o1 ?_ | refine o2 ?_ | refine k1 ?_ | refine k2 ?_ | refine k7 ?_ | refine And.intro ?_ ?_ | refine o3 ?_ | refine o4 ?_ | (change zx _ _ _ _; refine zd rfl trivial ?_) | exact (by kernel_rfl : zn _ _ = true) | (change zI _ _ _ _ _; refine zF rfl (by repeat' (first | trivial | refine And.intro ?_ ?_ | (show 0 + _ ≤ List.length _; simp))) zW.refl (c_cmp _ _) rfl ?_) | (change zI _ _ _ _ _; refine zF rfl (by repeat' (first | trivial | refine And.intro ?_ ?_ | (show 0 + _ ≤ List.length _; simp))) zW.refl (c_or [zcI p.rule q.rule, zcI p.first q.first, zcI p.second q.second] (Nat.le_of_ble_eq_true rfl)) rfl ?_) | fail)
 all_goals exact rfl
theorem zmc {p q : Pair} : orI [zcI p.rule q.rule, zcI p.first q.first, zcI p.second q.second] < 0 ↔ zgD p q := by
 simp only [orI, zcI, zgD]
 grind
theorem zpB (n : Int) : zH Tryz.prog 108 [zg .i64 n] (fun r => r = zo (pB (n ≠ 0 ∧ ¬ qF n))) := by
 refine zh tok mixed 10 rfl (fn := Tryz.f108) (c := Tryz.f108.body.getD .skip) (by kernel_rfl) (by kernel_rfl) (by kernel_rfl) rfl 0 rfl ?_
 repeat' (first | refine o1 ?_ | refine o2 ?_ | refine k1 ?_ | refine k2 ?_ | refine k7 ?_ | refine And.intro ?_ ?_ | (intro h; first | exact Bool.noConfusion h | exact nz _ h | exact nl h | (simp at h; done) | (simp at h; first | (exfalso; omega) | skip) | skip) | (change zx _ _ _ _; refine zd rfl trivial ?_) | (change zp _ _ _ _ _; refine zC rfl (by repeat' (first | trivial | refine And.intro ?_ ?_ | (show 0 + _ ≤ List.length _; simp))) zW.refl (zm3 n) rfl ?_) | fail)
 all_goals first
  | exact congrArg zo (zaj fun h => h.1 (by assumption)).symm
  | exact congrArg zo (zea (by simp_all))
theorem zor {t : List Int} : (!t.any fun n => pB (n ≠ 0 ∧ ¬ qF n)) = true ↔ ∀ x ∈ t, x = 0 ∨ qF x := by
 simp only [Bool.not_eq_true', List.any_eq_false, decide_eq_true_eq]
 constructor
 · intro h x hx
   have := h x hx
   by_cases h0 : x = 0
   · exact .inl h0
   · exact .inr (Classical.byContradiction fun h1 => this ⟨h0, h1⟩)
 · intro h x hx ⟨h0, h1⟩
   rcases h x hx with h2 | h2
   · exact h0 h2
   · exact h1 h2
theorem ziG {m : Model} {n k : Nat} {r : Int} {t : List Int} {a b : List Opt} (ha : m.classes[n]? = some a) (hb : m.classes[k]? = some b) (hnk : (n : Int) < k) : zhv m ⟨n, k, r, t⟩ ↔ zhu m r ∧ t.length = a.length * b.length ∧ ∀ x ∈ t, x = 0 ∨ qF x := by
 unfold zhv
 simp only [Int.toNat_natCast, ha, hb]
 constructor
 · rintro ⟨h1, h2, h3, ⟨a', b', h4, h5, h6⟩, h7⟩
   cases h4; cases h5; exact ⟨h1, h6, h7⟩
 · rintro ⟨h1, h2, h3⟩
   exact ⟨h1, by omega, hnk, ⟨a, b, rfl, rfl, h2⟩, h3⟩
theorem zow {m : Model} {p : Pair} (h : ¬ (0 ≤ p.first ∧ p.first < p.second ∧ p.second < m.classes.length)) : ¬ zhv m p := fun ⟨h1, h2, h3, ⟨a, b, h4, h5, h6⟩, h7⟩ => by
 have := (List.getElem?_eq_some_iff.1 h5).1
 omega
theorem zmZ (m : Model) (p : Pair) (hz : qJ m) : zH Tryz.prog 76 [ag m.cells, ag p.row] (fun r => r = zo (pB (zhv m p))) := by
 by_cases h : 0 ≤ p.first ∧ p.first < p.second ∧ p.second < m.classes.length
 · obtain ⟨h1, h2, h3⟩ := h
   obtain ⟨f, s, r, t⟩ := p
   dsimp only at h1 h2 h3 ⊢
   obtain ⟨n, rfl⟩ := Int.eq_ofNat_of_zero_le h1
   obtain ⟨k, rfl⟩ := Int.eq_ofNat_of_zero_le (show 0 ≤ s by omega)
   obtain ⟨a, ha⟩ := qj (show n < m.classes.length by omega)
   obtain ⟨b, hb⟩ := qj (show k < m.classes.length by omega)
   have hla := hz.2.1 a (List.mem_of_getElem? ha)
   have hlb := hz.2.1 b (List.mem_of_getElem? hb)
   have hab : a.length * b.length ≤ 576 := Nat.mul_le_mul hla hlb
   have hab1 : (a.length : Int) * b.length ≤ 576 := by exact_mod_cast hab
   have hab0 : (0 : Int) ≤ (a.length : Int) * b.length := by exact_mod_cast Nat.zero_le _
   have hcast : ((a.length * b.length : Nat) : Int) = (a.length : Int) * b.length := by simp
   refine zh tok mixed 55 rfl (fn := Tryz.f76) (c := Tryz.f76.body.getD .skip) (by kernel_rfl) (by kernel_rfl) (by kernel_rfl) rfl 0 rfl ?_
   rw [zgG (ziG ha hb h2)]
   repeat' (first | refine o1 ?_ | refine o2 ?_ | refine k1 ?_ | refine k2 ?_ | refine k3 ?_ | refine k6 ?_ | refine k7 ?_ | refine And.intro ?_ ?_ | refine o3 ?_ | refine o4 ?_ | (intro h; first | exact Bool.noConfusion h | exact nz _ h | exact nl h | (simp at h; done) | (simp at h; first | (exfalso; omega) | skip) | skip) | (change zx _ _ _ _; refine zd rfl trivial ?_) | exact (by kernel_rfl : zn _ _ = true) | refine za ?_ | refine zc (by omega) (by omega) ?_ | refine ⟨_, _, (by first | rfl | assumption), zf (by assumption), ?_⟩ | (change zI _ _ _ _ _; refine zF rfl (by repeat' (first | trivial | refine And.intro ?_ ?_ | (show 0 + _ ≤ List.length _; simp))) zW.refl (zhe m r) rfl ?_) | (change zp _ _ _ _ _; refine zC rfl (by repeat' (first | trivial | refine And.intro ?_ ?_ | (show 0 + _ ≤ List.length _; simp))) zW.refl (zpU t 108 [] (fun n => pB (n ≠ 0 ∧ ¬ qF n)) (by omega) (fun n _ => zpB n)) rfl ?_) | fail)
   all_goals first
    | (refine congrArg zo (zaj fun h => ?_).symm; obtain ⟨g1, g2, g3⟩ := h; first | exact absurd g1 (by assumption) | omega)
    | (refine congrArg zo (zea ?_); rw [zor]; exact ⟨fun g => ⟨by assumption, by omega, g⟩, fun g => g.2.2⟩)
    | (exfalso; omega)
 · refine zh tok mixed 55 rfl (fn := Tryz.f76) (c := Tryz.f76.body.getD .skip) (by kernel_rfl) (by kernel_rfl) (by kernel_rfl) rfl 0 rfl ?_
   rw [zaj (zow h)]
   repeat' (first | refine o1 ?_ | refine o2 ?_ | refine k1 ?_ | refine k2 ?_ | refine k3 ?_ | refine k7 ?_ | refine And.intro ?_ ?_ | refine o3 ?_ | refine o4 ?_ | (intro h; first | exact Bool.noConfusion h | exact nz _ h | exact nl h | (simp at h; done) | (simp at h; first | (exfalso; omega) | skip) | skip) | (change zx _ _ _ _; refine zd rfl trivial ?_) | exact (by kernel_rfl : zn _ _ = true) | refine za ?_ | (change zI _ _ _ _ _; refine zF rfl (by repeat' (first | trivial | refine And.intro ?_ ?_ | (show 0 + _ ≤ List.length _; simp))) zW.refl (zhe m p.rule) rfl ?_) | fail)
   all_goals first
    | exact rfl
    | (exfalso; omega)
theorem zgE {m : Model} {p : Pair} (hp : m.pairs[0]? = some p) : zcb m 0 ↔ zhv m p :=
 ⟨fun h => (h p hp).1, fun h p' hp' => by rw [hp] at hp'; cases hp'; exact ⟨h, fun k q e => by omega⟩⟩
theorem zgF {m : Model} {k : Nat} {p q : Pair} (hp : m.pairs[k + 1]? = some p) (hq : m.pairs[k]? = some q) : zcb m (k + 1) ↔ zhv m p ∧ zgD q p :=
 ⟨fun h => ⟨(h p hp).1, (h p hp).2 k q rfl hq⟩, fun h p' hp' => by
   rw [hp] at hp'; cases hp'
   refine ⟨h.1, fun k' q' e hq' => ?_⟩
   obtain rfl : k = k' := by omega
   rw [hq] at hq'; cases hq'; exact h.2⟩
theorem znQ (m : Model)  (p : Pair) (hz : qJ m) (hp : m.pairs[0]? = some p) : zH Tryz.prog 65 [ag m.cells, zg .i64 ((0 : Nat) : Int)] (fun r => r = zo (pB (zcb m 0))) := by
 have hpl := (List.getElem?_eq_some_iff.1 hp).1
 have hpn := hz.2.2.1
 rw [zgG (zgE hp)]
 by_cases hcase : 0 ≤ p.first ∧ p.first < p.second ∧ p.second < m.classes.length
 · obtain ⟨h1, h2, h3⟩ := hcase
   obtain ⟨f, s, r, t⟩ := p
   dsimp only at h1 h2 h3 ⊢
   obtain ⟨n, rfl⟩ := Int.eq_ofNat_of_zero_le h1
   obtain ⟨k, rfl⟩ := Int.eq_ofNat_of_zero_le (show 0 ≤ s by omega)
   obtain ⟨a, ha⟩ := qj (show n < m.classes.length by omega)
   obtain ⟨b, hb⟩ := qj (show k < m.classes.length by omega)
   have hla := hz.2.1 a (List.mem_of_getElem? ha)
   have hlb := hz.2.1 b (List.mem_of_getElem? hb)
   have hab : a.length * b.length ≤ 576 := Nat.mul_le_mul hla hlb
   have hab1 : (a.length : Int) * b.length ≤ 576 := by exact_mod_cast hab
   have hab0 : (0 : Int) ≤ (a.length : Int) * b.length := by exact_mod_cast Nat.zero_le _
   have hcast : ((a.length * b.length : Nat) : Int) = (a.length : Int) * b.length := by simp
   have hpi := ziG (r := r) (t := t) ha hb h2
   refine zh tok mixed 114 rfl (fn := Tryz.f65) (c := Tryz.f65.body.getD .skip) (by kernel_rfl) (by kernel_rfl) (by kernel_rfl) rfl 0 rfl ?_
   repeat' (first | (refine zj (k := 0) (zf hp) (by omega) ?_) | refine o1 ?_ | refine o2 ?_ | refine k1 ?_ | refine k2 ?_ | refine k3 ?_ | refine k4 ?_ | refine k6 ?_ | refine k7 ?_ | refine And.intro ?_ ?_ | refine o3 ?_ | refine o4 ?_ | (intro h; first | exact Bool.noConfusion h | exact nz _ h | exact nl h | (simp at h; done) | (simp at h; first | (exfalso; omega) | skip) | skip) | (change zx _ _ _ _; refine zd rfl trivial ?_) | exact (by kernel_rfl : zn _ _ = true) | refine za ?_ | refine zc (by omega) (by omega) ?_ | refine ⟨_, _, (by first | rfl | assumption), zf (by assumption), ?_⟩ | (change zI _ _ _ _ _; refine zF rfl (by repeat' (first | trivial | refine And.intro ?_ ?_ | (show 0 + _ ≤ List.length _; simp))) zW.refl (zcL m r) rfl ?_) | fail)
   all_goals first
    | (refine congrArg zo (zaj fun h => ?_).symm; obtain ⟨g1, g2, g3⟩ := hpi.1 (by first | exact h | exact h.1); first | exact absurd g1 (by assumption) | omega)
    | (exfalso; omega)
    | skip
   have htl : t.length ≤ 576 := by omega
   refine qu (fun i : Nat => [(6, zg .i64 i)]) (fun _ => []) (fun i => i ≤ t.length ∧ ∀ j, j < i → ∀ x, t[j]? = some x → x = 0 ∨ qF x) (fun i => t.length - i) 0 ⟨by omega, fun j hj => by omega⟩ (by repeat' (first | exact trivial | exact ⟨_, rfl, ALe.refl⟩ | refine And.intro ?_ ?_)) (by repeat' (first | exact trivial | exact rfl | refine And.intro ?_ ?_)) ?_
   intro i ⟨hi, hall⟩
   rcases Nat.lt_or_ge i t.length with hlt | hge
   · obtain ⟨x, hx⟩ := qj hlt
     repeat' (first | (refine zj (k := i) (zf hx) (by omega) ?_) | refine o1 ?_ | refine o2 ?_ | refine k1 ?_ | refine k2 ?_ | refine k3 ?_ | refine k4 ?_ | refine k6 ?_ | refine k7 ?_ | refine And.intro ?_ ?_ | (intro h; first | exact Bool.noConfusion h | exact nz _ h | exact nl h | (simp at h; done) | (simp at h; first | (exfalso; omega) | skip) | skip) | (change zx _ _ _ _; refine zd rfl trivial ?_) | refine za ?_ | refine zc (by omega) (by omega) ?_ | (change zp _ _ _ _ _; refine zC rfl (by repeat' (first | trivial | refine And.intro ?_ ?_ | (show 0 + _ ≤ List.length _; simp))) zW.refl (zhd x) rfl ?_) | fail)
     all_goals first
      | (refine congrArg zo (zaj fun h => ?_).symm; obtain ⟨g1, g2, g3⟩ := hpi.1 (by first | exact h | exact h.1); exact (g3 x (List.mem_of_getElem? hx)).elim (fun g => absurd g (by assumption)) (fun g => absurd g (by assumption)))
      | exact ⟨i + 1, ⟨by omega, zz hall fun x' h' => by rw [hx] at h'; cases h'; first | exact .inl (by omega) | exact .inr (by assumption)⟩, by omega, zJ [0, 1] rfl rfl ⟨rfl, rfl, trivial⟩ (by repeat' (first | exact trivial | exact rfl | refine And.intro ?_ ?_))⟩
      | (exfalso; omega)
   · have hP := hpi.2 ⟨by assumption, by omega, fun x hx => by
      obtain ⟨j, hj⟩ := List.getElem?_of_mem hx
      exact hall j (by have := (List.getElem?_eq_some_iff.1 hj).1; omega) x hj⟩
     repeat' (first | refine o1 ?_ | refine o2 ?_ | refine k1 ?_ | refine k2 ?_ | refine k3 ?_ | refine k7 ?_ | refine k8 ?_ | refine And.intro ?_ ?_ | (intro h; first | exact Bool.noConfusion h | exact nz _ h | exact nl h | (simp at h; done) | (simp at h; first | (exfalso; omega) | skip) | skip) | (change zx _ _ _ _; refine zd rfl trivial ?_) | refine za ?_ | fail)
     all_goals first
      | exact congrArg zo (zaS hP).symm
      | (refine congrArg zo (zea ?_); rw [and_iff_right hP]; unfold zgD; dsimp only; simp only [decide_eq_true_eq]; omega)
      | (exfalso; omega)
 · refine zh tok mixed 114 rfl (fn := Tryz.f65) (c := Tryz.f65.body.getD .skip) (by kernel_rfl) (by kernel_rfl) (by kernel_rfl) rfl 0 rfl ?_
   repeat' (first | (refine zj (k := 0) (zf hp) (by omega) ?_) | refine o1 ?_ | refine o2 ?_ | refine k1 ?_ | refine k2 ?_ | refine k3 ?_ | refine k7 ?_ | refine And.intro ?_ ?_ | refine o3 ?_ | refine o4 ?_ | (intro h; first | exact Bool.noConfusion h | exact nz _ h | exact nl h | (simp at h; done) | (simp at h; first | (exfalso; omega) | skip) | skip) | (change zx _ _ _ _; refine zd rfl trivial ?_) | exact (by kernel_rfl : zn _ _ = true) | refine za ?_ | (change zI _ _ _ _ _; refine zF rfl (by repeat' (first | trivial | refine And.intro ?_ ?_ | (show 0 + _ ≤ List.length _; simp))) zW.refl (zcL m p.rule) rfl ?_) | fail)
   all_goals first
    | exact congrArg zo (zaj fun h' => zow hcase (by first | exact h' | exact h'.1)).symm
    | (exfalso; omega)
theorem znP (m : Model) (k0 : Nat) (q : Pair) (hq : m.pairs[k0]? = some q) (p : Pair) (hz : qJ m) (hp : m.pairs[(k0 + 1)]? = some p) : zH Tryz.prog 65 [ag m.cells, zg .i64 (((k0 + 1) : Nat) : Int)] (fun r => r = zo (pB (zcb m (k0 + 1)))) := by
 have hpl := (List.getElem?_eq_some_iff.1 hp).1
 have hpn := hz.2.2.1
 rw [zgG (zgF hp hq)]
 by_cases hcase : 0 ≤ p.first ∧ p.first < p.second ∧ p.second < m.classes.length
 · obtain ⟨h1, h2, h3⟩ := hcase
   obtain ⟨f, s, r, t⟩ := p
   dsimp only at h1 h2 h3 ⊢
   obtain ⟨n, rfl⟩ := Int.eq_ofNat_of_zero_le h1
   obtain ⟨k, rfl⟩ := Int.eq_ofNat_of_zero_le (show 0 ≤ s by omega)
   obtain ⟨a, ha⟩ := qj (show n < m.classes.length by omega)
   obtain ⟨b, hb⟩ := qj (show k < m.classes.length by omega)
   have hla := hz.2.1 a (List.mem_of_getElem? ha)
   have hlb := hz.2.1 b (List.mem_of_getElem? hb)
   have hab : a.length * b.length ≤ 576 := Nat.mul_le_mul hla hlb
   have hab1 : (a.length : Int) * b.length ≤ 576 := by exact_mod_cast hab
   have hab0 : (0 : Int) ≤ (a.length : Int) * b.length := by exact_mod_cast Nat.zero_le _
   have hcast : ((a.length * b.length : Nat) : Int) = (a.length : Int) * b.length := by simp
   have hpi := ziG (r := r) (t := t) ha hb h2
   refine zh tok mixed 114 rfl (fn := Tryz.f65) (c := Tryz.f65.body.getD .skip) (by kernel_rfl) (by kernel_rfl) (by kernel_rfl) rfl 0 rfl ?_
   repeat' (first | (refine zj (k := (k0 + 1)) (zf hp) (by omega) ?_) | refine o1 ?_ | refine o2 ?_ | refine k1 ?_ | refine k2 ?_ | refine k3 ?_ | refine k4 ?_ | refine k6 ?_ | refine k7 ?_ | refine And.intro ?_ ?_ | refine o3 ?_ | refine o4 ?_ | (intro h; first | exact Bool.noConfusion h | exact nz _ h | exact nl h | (simp at h; done) | (simp at h; first | (exfalso; omega) | skip) | skip) | (change zx _ _ _ _; refine zd rfl trivial ?_) | exact (by kernel_rfl : zn _ _ = true) | refine za ?_ | refine zc (by omega) (by omega) ?_ | refine ⟨_, _, (by first | rfl | assumption), zf (by assumption), ?_⟩ | (change zI _ _ _ _ _; refine zF rfl (by repeat' (first | trivial | refine And.intro ?_ ?_ | (show 0 + _ ≤ List.length _; simp))) zW.refl (zcL m r) rfl ?_) | fail)
   all_goals first
    | (refine congrArg zo (zaj fun h => ?_).symm; obtain ⟨g1, g2, g3⟩ := hpi.1 (by first | exact h | exact h.1); first | exact absurd g1 (by assumption) | omega)
    | (exfalso; omega)
    | skip
   have htl : t.length ≤ 576 := by omega
   refine qu (fun i : Nat => [(6, zg .i64 i)]) (fun _ => []) (fun i => i ≤ t.length ∧ ∀ j, j < i → ∀ x, t[j]? = some x → x = 0 ∨ qF x) (fun i => t.length - i) 0 ⟨by omega, fun j hj => by omega⟩ (by repeat' (first | exact trivial | exact ⟨_, rfl, ALe.refl⟩ | refine And.intro ?_ ?_)) (by repeat' (first | exact trivial | exact rfl | refine And.intro ?_ ?_)) ?_
   intro i ⟨hi, hall⟩
   rcases Nat.lt_or_ge i t.length with hlt | hge
   · obtain ⟨x, hx⟩ := qj hlt
     repeat' (first | (refine zj (k := i) (zf hx) (by omega) ?_) | refine o1 ?_ | refine o2 ?_ | refine k1 ?_ | refine k2 ?_ | refine k3 ?_ | refine k4 ?_ | refine k6 ?_ | refine k7 ?_ | refine And.intro ?_ ?_ | (intro h; first | exact Bool.noConfusion h | exact nz _ h | exact nl h | (simp at h; done) | (simp at h; first | (exfalso; omega) | skip) | skip) | (change zx _ _ _ _; refine zd rfl trivial ?_) | refine za ?_ | refine zc (by omega) (by omega) ?_ | (change zp _ _ _ _ _; refine zC rfl (by repeat' (first | trivial | refine And.intro ?_ ?_ | (show 0 + _ ≤ List.length _; simp))) zW.refl (zhd x) rfl ?_) | fail)
     all_goals first
      | (refine congrArg zo (zaj fun h => ?_).symm; obtain ⟨g1, g2, g3⟩ := hpi.1 (by first | exact h | exact h.1); exact (g3 x (List.mem_of_getElem? hx)).elim (fun g => absurd g (by assumption)) (fun g => absurd g (by assumption)))
      | exact ⟨i + 1, ⟨by omega, zz hall fun x' h' => by rw [hx] at h'; cases h'; first | exact .inl (by omega) | exact .inr (by assumption)⟩, by omega, zJ [0, 1] rfl rfl ⟨rfl, rfl, trivial⟩ (by repeat' (first | exact trivial | exact rfl | refine And.intro ?_ ?_))⟩
      | (exfalso; omega)
   · have hP := hpi.2 ⟨by assumption, by omega, fun x hx => by
      obtain ⟨j, hj⟩ := List.getElem?_of_mem hx
      exact hall j (by have := (List.getElem?_eq_some_iff.1 hj).1; omega) x hj⟩
     repeat' (first | (refine zj (k := k0) (zf hq) (by omega) ?_) | refine o1 ?_ | refine o2 ?_ | refine k1 ?_ | refine k2 ?_ | refine k3 ?_ | refine k6 ?_ | refine k7 ?_ | refine k8 ?_ | refine And.intro ?_ ?_ | (intro h; first | exact Bool.noConfusion h | exact nz _ h | exact nl h | (simp at h; done) | (simp at h; first | (exfalso; omega) | skip) | skip) | (change zx _ _ _ _; refine zd rfl trivial ?_) | exact (by kernel_rfl : zn _ _ = true) | refine za ?_ | refine zc (by omega) (by omega) ?_ | fail)
     all_goals first
      | exact congrArg zo (zaS hP).symm
      | (refine congrArg zo (zea ?_); rw [and_iff_right hP]; unfold zgD; dsimp only; simp only [decide_eq_true_eq]; omega)
      | (exfalso; omega)
 · refine zh tok mixed 114 rfl (fn := Tryz.f65) (c := Tryz.f65.body.getD .skip) (by kernel_rfl) (by kernel_rfl) (by kernel_rfl) rfl 0 rfl ?_
   repeat' (first | (refine zj (k := (k0 + 1)) (zf hp) (by omega) ?_) | refine o1 ?_ | refine o2 ?_ | refine k1 ?_ | refine k2 ?_ | refine k3 ?_ | refine k7 ?_ | refine And.intro ?_ ?_ | refine o3 ?_ | refine o4 ?_ | (intro h; first | exact Bool.noConfusion h | exact nz _ h | exact nl h | (simp at h; done) | (simp at h; first | (exfalso; omega) | skip) | skip) | (change zx _ _ _ _; refine zd rfl trivial ?_) | exact (by kernel_rfl : zn _ _ = true) | refine za ?_ | (change zI _ _ _ _ _; refine zF rfl (by repeat' (first | trivial | refine And.intro ?_ ?_ | (show 0 + _ ≤ List.length _; simp))) zW.refl (zcL m p.rule) rfl ?_) | fail)
   all_goals first
    | exact congrArg zo (zaj fun h' => zow hcase (by first | exact h' | exact h'.1)).symm
    | (exfalso; omega)
end Go.Proofs.YtihpjcmloecaaaaGreat.Cw
namespace Go.Proofs.YtihpjcmloecaaaaGreat.Cw
open Go.Cw Go.Proofs
set_option linter.unusedVariables false
set_option maxRecDepth 100000
set_option maxHeartbeats 800000
def zfw (y x : Load) : Prop := y.cls < x.cls ∨ (y.cls = x.cls ∧ y.opt < x.opt)
theorem zjZ {m : Model} {l : List Load} {x : Load} (hx : l[0]? = some x) : loadAt m l 0 ↔ xV m x.cls x.opt ∧ 1 ≤ x.weight ∧ x.weight ≤ 1000 :=
 ⟨fun h => ⟨(h x hx).1, (h x hx).2.1, (h x hx).2.2.1⟩, fun h x' h' => by rw [hx] at h'; cases h'; exact ⟨h.1, h.2.1, h.2.2, fun k y e => by omega⟩⟩
theorem zj0 {m : Model} {l : List Load} {k : Nat} {x y : Load} (hx : l[k + 1]? = some x) (hy : l[k]? = some y) : loadAt m l (k + 1) ↔ xV m x.cls x.opt ∧ 1 ≤ x.weight ∧ x.weight ≤ 1000 ∧ zfw y x :=
 ⟨fun h => ⟨(h x hx).1, (h x hx).2.1, (h x hx).2.2.1, (h x hx).2.2.2 k y rfl hy⟩, fun h x' h' => by
   rw [hx] at h'; cases h'
   refine ⟨h.1, h.2.1, h.2.2.1, fun k' y' e hy' => ?_⟩
   obtain rfl : k = k' := by omega
   rw [hy] at hy'; cases hy'; exact h.2.2.2⟩
theorem ziS {y x : Load} : orI [zcI y.cls x.cls, zcI y.opt x.opt] < 0 ↔ zfw y x := by
 simp only [orI, zcI, zfw]
 grind
theorem zj1 {y x : Load} : 0 ≤ orI [zcI y.cls x.cls, zcI y.opt x.opt] ↔ ¬ zfw y x := by
 rw [← ziS]; omega
theorem zpM (m : Model) (c : Count) (hc : c.loads.length ≤ 9223372036854775807) : zH Tryz.prog 80 [ag m.cells, ag c.row] (fun r => r = zo (pB (zds m c))) := by
 refine zh tok mixed 81 rfl (fn := Tryz.f80) (c := Tryz.f80.body.getD .skip) (by kernel_rfl) (by kernel_rfl) (by kernel_rfl) rfl 0 rfl ?_
 repeat' (first | refine o1 ?_ | refine o2 ?_ | refine k1 ?_ | refine k2 ?_ | refine k3 ?_ | refine k4 ?_ | refine k6 ?_ | refine k7 ?_ | refine And.intro ?_ ?_ | (intro h; first | exact Bool.noConfusion h | exact nz _ h | exact nl h | (simp at h; done) | (simp at h; first | (exfalso; omega) | skip) | skip) | (change zx _ _ _ _; refine zd rfl trivial ?_) | refine za ?_ | (change zp _ _ _ _ _; refine zC rfl (by repeat' (first | trivial | refine And.intro ?_ ?_ | (show 0 + _ ≤ List.length _; simp))) zW.refl (zhe m c.rule) rfl ?_) | (change zp _ _ _ _ _; refine zC rfl (by repeat' (first | trivial | refine And.intro ?_ ?_ | (show 0 + _ ≤ List.length _; simp))) zW.refl (zm3 c.penalty) rfl ?_) | fail)
 all_goals first
  | (refine congrArg zo (zaj fun h => ?_).symm; obtain ⟨g1, g2, g3, g4, g5⟩ := h; first | exact absurd g1 (by assumption) | exact absurd g4 (by assumption) | omega)
  | skip
 refine qu (fun i : Nat => [(31, zg .i64 i)]) (fun _ => []) (fun i => i ≤ c.loads.length ∧ ∀ j, j < i → loadAt m c.loads j) (fun i => c.loads.length - i) 0 ⟨by omega, fun j hj => by omega⟩ (by repeat' (first | exact trivial | exact ⟨_, rfl, ALe.refl⟩ | refine And.intro ?_ ?_)) (by repeat' (first | exact trivial | exact rfl | refine And.intro ?_ ?_)) ?_
 intro i ⟨hi, hall⟩
 rcases Nat.lt_or_ge i c.loads.length with hlt | hge
 · obtain ⟨x, hx⟩ := qj hlt
   rcases i with _ | k
   · have hz := zjZ (m := m) hx
     repeat' (first | (refine zj (k := 0) (zf hx) (by omega) ?_) | refine o1 ?_ | refine o2 ?_ | refine k1 ?_ | refine k2 ?_ | refine k3 ?_ | refine k4 ?_ | refine k6 ?_ | refine k7 ?_ | refine k8 ?_ | refine And.intro ?_ ?_ | refine o3 ?_ | refine o4 ?_ | (intro h; first | exact Bool.noConfusion h | exact nz _ h | exact nl h | (simp at h; done) | (simp at h; first | (exfalso; omega) | skip) | skip) | (change zx _ _ _ _; refine zd rfl trivial ?_) | exact (by kernel_rfl : zn _ _ = true) | refine zc (by omega) (by omega) ?_ | (change zp _ _ _ _ _; refine zC rfl (by repeat' (first | trivial | refine And.intro ?_ ?_ | (show 0 + _ ≤ List.length _; simp))) zW.refl (zm0 m x.cls x.opt) rfl ?_) | fail)
     all_goals first
      | (refine congrArg zo (zaj fun h => ?_).symm; obtain ⟨g1, g2, g3⟩ := hz.1 (h.2.2.2.2 _ hlt); first | exact absurd g1 (by assumption) | omega)
      | exact ⟨1, ⟨by omega, zz hall (hz.2 ⟨by assumption, by omega, by omega⟩)⟩, by omega, zJ [0, 1] rfl rfl ⟨rfl, rfl, trivial⟩ (by repeat' (first | exact trivial | exact rfl | refine And.intro ?_ ?_))⟩
      | (exfalso; simp_all; done)
      | (exfalso; omega)
   · obtain ⟨y, hy⟩ := qj (show k < c.loads.length by omega)
     have hz := zj0 (m := m) hx hy
     repeat' (first | (refine zj (k := k + 1) (zf hx) (by omega) ?_) | (refine zj (k := k) (zf hy) (by omega) ?_) | refine o1 ?_ | refine o2 ?_ | refine k1 ?_ | refine k2 ?_ | refine k3 ?_ | refine k4 ?_ | refine k6 ?_ | refine k7 ?_ | refine And.intro ?_ ?_ | refine o3 ?_ | refine o4 ?_ | (intro h; first | exact Bool.noConfusion h | exact nz _ h | exact nl h | (simp at h; done) | (simp at h; first | (exfalso; omega) | skip) | skip) | (change zx _ _ _ _; refine zd rfl trivial ?_) | exact (by kernel_rfl : zn _ _ = true) | refine zc (by omega) (by omega) ?_ | (change zp _ _ _ _ _; refine zC rfl (by repeat' (first | trivial | refine And.intro ?_ ?_ | (show 0 + _ ≤ List.length _; simp))) zW.refl (zm0 m x.cls x.opt) rfl ?_) | (change zI _ _ _ _ _; refine zF rfl (by repeat' (first | trivial | refine And.intro ?_ ?_ | (show 0 + _ ≤ List.length _; simp))) zW.refl (c_cmp _ _) rfl ?_) | (change zI _ _ _ _ _; refine zF rfl (by repeat' (first | trivial | refine And.intro ?_ ?_ | (show 0 + _ ≤ List.length _; simp))) zW.refl (c_or [zcI y.cls x.cls, zcI y.opt x.opt] (Nat.le_of_ble_eq_true rfl)) rfl ?_) | fail)
     all_goals first
      | (refine congrArg zo (zaj fun h => ?_).symm; obtain ⟨g1, g2, g3, g4⟩ := hz.1 (h.2.2.2.2 _ hlt); first | exact absurd g1 (by assumption) | omega | exact absurd g4 (zj1.1 (by assumption)) | (unfold zfw at g4; omega))
      | exact ⟨k + 2, ⟨by omega, zz hall (hz.2 ⟨by assumption, by omega, by omega, by first | exact ziS.1 (by omega) | (unfold zfw; omega)⟩)⟩, by omega, zJ [0, 1] rfl rfl ⟨rfl, rfl, trivial⟩ (by repeat' (first | exact trivial | exact rfl | refine And.intro ?_ ?_))⟩
      | (exfalso; omega)
 · repeat' (first | refine o1 ?_ | refine o2 ?_ | refine k1 ?_ | refine k2 ?_ | refine k3 ?_ | refine k7 ?_ | refine k8 ?_ | refine And.intro ?_ ?_ | (intro h; first | exact Bool.noConfusion h | exact nz _ h | exact nl h | (simp at h; done) | (simp at h; first | (exfalso; omega) | skip) | skip) | (change zx _ _ _ _; refine zd rfl trivial ?_) | fail)
   all_goals first
    | exact congrArg zo (zaS ⟨by assumption, by omega, by omega, by assumption, fun j hj => hall j (by omega)⟩).symm
theorem znR (m : Model) (c : Count) (hc : c.loads.length ≤ 9223372036854775807) : zH Tryz.prog 66 [ag m.cells, ag c.row] (fun r => r = zo (pB (zds m c))) := by
 refine zh tok mixed 85 rfl (fn := Tryz.f66) (c := Tryz.f66.body.getD .skip) (by kernel_rfl) (by kernel_rfl) (by kernel_rfl) rfl 0 rfl ?_
 repeat' (first | refine o1 ?_ | refine o2 ?_ | refine k1 ?_ | refine k2 ?_ | refine k3 ?_ | refine k4 ?_ | refine k6 ?_ | refine k7 ?_ | refine And.intro ?_ ?_ | (intro h; first | exact Bool.noConfusion h | exact nz _ h | exact nl h | (simp at h; done) | (simp at h; first | (exfalso; omega) | skip) | skip) | (change zx _ _ _ _; refine zd rfl trivial ?_) | (change zp _ _ _ _ _; refine zC rfl (by repeat' (first | trivial | refine And.intro ?_ ?_ | (show 0 + _ ≤ List.length _; simp))) zW.refl (zcL m c.rule) rfl ?_) | (change zp _ _ _ _ _; refine zC rfl (by repeat' (first | trivial | refine And.intro ?_ ?_ | (show 0 + _ ≤ List.length _; simp))) zW.refl (zhd c.penalty) rfl ?_) | fail)
 all_goals first
  | (refine congrArg zo (zaj fun h => ?_).symm; obtain ⟨g1, g2, g3, g4, g5⟩ := h; first | exact absurd g1 (by assumption) | exact absurd g4 (by assumption) | omega)
  | skip
 refine qu (fun i : Nat => [(5, zg .i64 i)]) (fun _ => []) (fun i => i ≤ c.loads.length ∧ ∀ j, j < i → loadAt m c.loads j) (fun i => c.loads.length - i) 0 ⟨by omega, fun j hj => by omega⟩ (by repeat' (first | exact trivial | exact ⟨_, rfl, ALe.refl⟩ | refine And.intro ?_ ?_)) (by repeat' (first | exact trivial | exact rfl | refine And.intro ?_ ?_)) ?_
 intro i ⟨hi, hall⟩
 rcases Nat.lt_or_ge i c.loads.length with hlt | hge
 · obtain ⟨x, hx⟩ := qj hlt
   rcases i with _ | k
   · have hz := zjZ (m := m) hx
     repeat' (first | (refine zj (k := 0) (zf hx) (by omega) ?_) | refine o1 ?_ | refine o2 ?_ | refine k1 ?_ | refine k2 ?_ | refine k3 ?_ | refine k4 ?_ | refine k6 ?_ | refine k7 ?_ | refine k8 ?_ | refine And.intro ?_ ?_ | (intro h; first | exact Bool.noConfusion h | exact nz _ h | exact nl h | (simp at h; done) | (simp at h; first | (exfalso; omega) | skip) | skip) | (change zx _ _ _ _; refine zd rfl trivial ?_) | exact (by kernel_rfl : zn _ _ = true) | refine za ?_ | refine zc (by omega) (by omega) ?_ | (change zp _ _ _ _ _; refine zC rfl (by repeat' (first | trivial | refine And.intro ?_ ?_ | (show 0 + _ ≤ List.length _; simp))) zW.refl (zkw m x.cls x.opt) rfl ?_) | fail)
     all_goals first
      | (refine congrArg zo (zaj fun h => ?_).symm; obtain ⟨g1, g2, g3⟩ := hz.1 (h.2.2.2.2 _ hlt); first | exact absurd g1 (by assumption) | omega)
      | exact ⟨1, ⟨by omega, zz hall (hz.2 ⟨by assumption, by omega, by omega⟩)⟩, by omega, zJ [0, 1] rfl rfl ⟨rfl, rfl, trivial⟩ (by repeat' (first | exact trivial | exact rfl | refine And.intro ?_ ?_))⟩
      | (exfalso; simp_all; done)
      | (exfalso; omega)
   · obtain ⟨y, hy⟩ := qj (show k < c.loads.length by omega)
     have hz := zj0 (m := m) hx hy
     repeat' (first | (refine zj (k := k + 1) (zf hx) (by omega) ?_) | (refine zj (k := k) (zf hy) (by omega) ?_) | refine o1 ?_ | refine o2 ?_ | refine k1 ?_ | refine k2 ?_ | refine k3 ?_ | refine k4 ?_ | refine k6 ?_ | refine k7 ?_ | refine And.intro ?_ ?_ | (intro h; first | exact Bool.noConfusion h | exact nz _ h | exact nl h | (simp at h; done) | (simp at h; first | (exfalso; omega) | skip) | skip) | (change zx _ _ _ _; refine zd rfl trivial ?_) | exact (by kernel_rfl : zn _ _ = true) | refine za ?_ | refine zc (by omega) (by omega) ?_ | (change zp _ _ _ _ _; refine zC rfl (by repeat' (first | trivial | refine And.intro ?_ ?_ | (show 0 + _ ≤ List.length _; simp))) zW.refl (zkw m x.cls x.opt) rfl ?_) | fail)
     all_goals first
      | (refine congrArg zo (zaj fun h => ?_).symm; obtain ⟨g1, g2, g3, g4⟩ := hz.1 (h.2.2.2.2 _ hlt); first | exact absurd g1 (by assumption) | omega | exact absurd g4 (zj1.1 (by assumption)) | (unfold zfw at g4; omega))
      | exact ⟨k + 2, ⟨by omega, zz hall (hz.2 ⟨by assumption, by omega, by omega, by first | exact ziS.1 (by omega) | (unfold zfw; omega)⟩)⟩, by omega, zJ [0, 1] rfl rfl ⟨rfl, rfl, trivial⟩ (by repeat' (first | exact trivial | exact rfl | refine And.intro ?_ ?_))⟩
      | (exfalso; omega)
 · repeat' (first | refine o1 ?_ | refine o2 ?_ | refine k1 ?_ | refine k2 ?_ | refine k3 ?_ | refine k7 ?_ | refine k8 ?_ | refine And.intro ?_ ?_ | (intro h; first | exact Bool.noConfusion h | exact nz _ h | exact nl h | (simp at h; done) | (simp at h; first | (exfalso; omega) | skip) | skip) | (change zx _ _ _ _; refine zd rfl trivial ?_) | refine za ?_ | fail)
   all_goals first
    | exact congrArg zo (zaS ⟨by assumption, by omega, by omega, by assumption, fun j hj => hall j (by omega)⟩).symm
end Go.Proofs.YtihpjcmloecaaaaGreat.Cw
namespace Go.Proofs.YtihpjcmloecaaaaGreat.Cw
open Go.Cw Go.Proofs
set_option linter.unusedVariables false
set_option maxRecDepth 100000
set_option maxHeartbeats 1600000
theorem c_valid1 (m : Model) (o : Opt) (ho : o.charges.length ≤ 9223372036854775807) : zH Tryz.prog 74 [ag o.row, .pv (.ia m.cells)] (fun r => r = zo (pB (¬ xI m o))) := by
 refine zh tok mixed 8 rfl (fn := Tryz.f74) (c := Tryz.f74.body.getD .skip) (by kernel_rfl) (by kernel_rfl) (by kernel_rfl) rfl 0 rfl ?_
 repeat' (first | refine o1 ?_ | refine o2 ?_ | refine k1 ?_ | refine k2 ?_ | refine k7 ?_ | (change zx _ _ _ _; refine zd rfl trivial ?_) | (change zp _ _ _ _ _; refine zC rfl (by repeat' (first | trivial | refine And.intro ?_ ?_ | (show 0 + _ ≤ List.length _; simp))) zW.refl (zpT m o ho) rfl ?_) | fail)
 all_goals first
  | exact congrArg zo (zea (by simp))
theorem c_valid2 (m : Model) (c : Count) (hc : c.loads.length ≤ 9223372036854775807) : zH Tryz.prog 79 [ag c.row, .pv (.ia m.cells)] (fun r => r = zo (pB (¬ zds m c))) := by
 refine zh tok mixed 8 rfl (fn := Tryz.f79) (c := Tryz.f79.body.getD .skip) (by kernel_rfl) (by kernel_rfl) (by kernel_rfl) rfl 0 rfl ?_
 repeat' (first | refine o1 ?_ | refine o2 ?_ | refine k1 ?_ | refine k2 ?_ | refine k7 ?_ | (change zx _ _ _ _; refine zd rfl trivial ?_) | (change zp _ _ _ _ _; refine zC rfl (by repeat' (first | trivial | refine And.intro ?_ ?_ | (show 0 + _ ≤ List.length _; simp))) zW.refl (zpM m c hc) rfl ?_) | fail)
 all_goals first
  | exact congrArg zo (zea (by simp))
theorem zp4 {α : Type} {l : List α} {p : α → Prop} {n : Nat} (hn : l.length ≤ n) (h : ∀ j, j < n → ∀ x, l[j]? = some x → p x) : ∀ x ∈ l, p x := fun x hx => by
 obtain ⟨j, hj⟩ := List.getElem?_of_mem hx
 exact h j (by have := (List.getElem?_eq_some_iff.1 hj).1; omega) x hj
theorem good_c {m : Model} (g : zdQ m) {i : Nat} {l : List Opt} (hl : m.classes[i]? = some l) : ∀ o ∈ l, xI m o := g.1 l (List.mem_of_getElem? hl)
theorem zjd (m : Model) (hl : Laid m) : zH Tryz.prog 34 [ag m.cells] (fun r => r = zg .i64 (qx m)) := by
 by_cases hz : qJ m
 · refine zh tok mixed 52 rfl (fn := Tryz.f34) (c := Tryz.f34.body.getD .skip) (by kernel_rfl) (by kernel_rfl) (by kernel_rfl) rfl 0 rfl ?_
   have hcn := hz.1
   have hpn := hz.2.2.1
   have hon := hz.2.2.2.1
   repeat' (first | refine o1 ?_ | refine o2 ?_ | refine k1 ?_ | refine k2 ?_ | refine k3 ?_ | refine k4 ?_ | refine k6 ?_ | refine k7 ?_ | refine And.intro ?_ ?_ | (intro h; first | exact Bool.noConfusion h | exact nz _ h | exact nl h | (simp at h; done) | (simp at h; first | (exfalso; omega) | skip) | skip) | (change zx _ _ _ _; refine zd rfl trivial ?_) | refine za ?_ | (change zp _ _ _ _ _; refine zC rfl (by repeat' (first | trivial | refine And.intro ?_ ?_ | (show 0 + _ ≤ List.length _; simp))) zW.refl (zpF m) rfl ?_) | fail)
   all_goals first
    | (exfalso; exact (by assumption : ¬ qJ m) hz)
    | skip
   refine qu (fun i : Nat => [(12, zg .i64 i)]) (fun _ => []) (fun i => i ≤ m.classes.length ∧ ∀ j, j < i → ∀ l, m.classes[j]? = some l → ∀ o ∈ l, xI m o) (fun i => m.classes.length - i) 0 ⟨by omega, fun j hj => by omega⟩ (by repeat' (first | exact trivial | exact ⟨_, rfl, ALe.refl⟩ | refine And.intro ?_ ?_)) (by repeat' (first | exact trivial | exact rfl | refine And.intro ?_ ?_)) ?_
   intro i ⟨hi, hall⟩
   rcases Nat.lt_or_ge i m.classes.length with hlt | hge
   · obtain ⟨l, hl1⟩ := qj hlt
     have hll := hz.2.1 l (List.mem_of_getElem? hl1)
     repeat' (first | refine o1 ?_ | refine o2 ?_ | refine k1 ?_ | refine k2 ?_ | refine k3 ?_ | refine k4 ?_ | refine k6 ?_ | refine k7 ?_ | refine And.intro ?_ ?_ | (intro h; first | exact Bool.noConfusion h | exact nz _ h | exact nl h | (simp at h; done) | (simp at h; first | (exfalso; omega) | skip) | skip) | (change zx _ _ _ _; refine zd rfl trivial ?_) | refine zc (by omega) (by omega) ?_ | refine ⟨_, _, (by first | rfl | assumption), zf (by assumption), ?_⟩ | (change zp _ _ _ _ _; refine zC rfl (by repeat' (first | trivial | refine And.intro ?_ ?_ | (show 0 + _ ≤ List.length _; simp))) zW.refl (zkB l 74 [.ia m.cells] (fun o => pB (¬ xI m o)) (by omega) (fun o ho => c_valid1 m o (hl.ch l (List.mem_of_getElem? hl1) o ho))) rfl ?_) | fail)
     all_goals first
      | (refine congrArg (zg .i64) (mE1 hz fun g => ?_).symm; obtain ⟨o, ho, hno⟩ := (by assumption : ∃ x, x ∈ l ∧ ¬ xI m x); exact hno (good_c g hl1 o ho))
      | exact ⟨i + 1, ⟨by omega, zz hall fun l' h' => by rw [hl1] at h'; cases h'; assumption⟩, by omega, zJ [0] rfl rfl ⟨rfl, trivial⟩ (by repeat' (first | exact trivial | exact rfl | refine And.intro ?_ ?_))⟩
   · have hch : ∀ l ∈ m.classes, ∀ o ∈ l, xI m o := fun l hl => by
      obtain ⟨j, hj⟩ := List.getElem?_of_mem hl
      exact hall j (by have := (List.getElem?_eq_some_iff.1 hj).1; omega) l hj
     repeat' (first | refine o1 ?_ | refine o2 ?_ | refine k1 ?_ | refine k2 ?_ | refine k3 ?_ | refine k4 ?_ | refine k8 ?_ | refine And.intro ?_ ?_ | (intro h; first | exact Bool.noConfusion h | exact nz _ h | exact nl h | (simp at h; done) | (simp at h; first | (exfalso; omega) | skip) | skip) | refine za ?_ | fail)
     refine qu (fun i : Nat => [(23, zg .i64 i)]) (fun _ => []) (fun i => i ≤ m.pairs.length ∧ ∀ j, j < i → zcb m j) (fun i => m.pairs.length - i) 0 ⟨by omega, fun j hj => by omega⟩ (by repeat' (first | exact trivial | exact ⟨_, rfl, ALe.refl⟩ | refine And.intro ?_ ?_)) (by repeat' (first | exact trivial | exact rfl | refine And.intro ?_ ?_)) ?_
     intro i ⟨hi, hall2⟩
     rcases Nat.lt_or_ge i m.pairs.length with hlt | hge
     · obtain ⟨p, hp⟩ := qj hlt
       rcases i with _ | k
       · have hpz := zgE hp
         repeat' (first | (refine zj (k := 0) (zf hp) (by omega) ?_) | refine o1 ?_ | refine o2 ?_ | refine k1 ?_ | refine k2 ?_ | refine k3 ?_ | refine k4 ?_ | refine k6 ?_ | refine k7 ?_ | refine k8 ?_ | refine And.intro ?_ ?_ | refine o3 ?_ | refine o4 ?_ | (intro h; first | exact Bool.noConfusion h | exact nz _ h | exact nl h | (simp at h; done) | (simp at h; first | (exfalso; omega) | skip) | skip) | (change zx _ _ _ _; refine zd rfl trivial ?_) | exact (by kernel_rfl : zn _ _ = true) | refine zc (by omega) (by omega) ?_ | (change zI _ _ _ _ _; refine zF rfl (by repeat' (first | trivial | refine And.intro ?_ ?_ | (show 0 + _ ≤ List.length _; simp))) zW.refl (zmZ m p hz) rfl ?_) | fail)
         all_goals first
          | (refine congrArg (zg .i64) (mE1 hz fun g => ?_).symm; exact absurd (hpz.1 (g.2.1 _ hlt)) (by assumption))
          | exact ⟨1, ⟨by omega, zz hall2 (hpz.2 (by assumption))⟩, by omega, zJ [0] rfl rfl ⟨rfl, trivial⟩ (by repeat' (first | exact trivial | exact rfl | refine And.intro ?_ ?_))⟩
          | (exfalso; simp_all; done)
       · obtain ⟨q, hq⟩ := qj (show k < m.pairs.length by omega)
         have hpz := zgF hp hq
         repeat' (first | (refine zj (k := k + 1) (zf hp) (by omega) ?_) | (refine zj (k := k) (zf hq) (by omega) ?_) | refine o1 ?_ | refine o2 ?_ | refine k1 ?_ | refine k2 ?_ | refine k3 ?_ | refine k4 ?_ | refine k6 ?_ | refine k7 ?_ | refine And.intro ?_ ?_ | refine o3 ?_ | refine o4 ?_ | (intro h; first | exact Bool.noConfusion h | exact nz _ h | exact nl h | (simp at h; done) | (simp at h; first | (exfalso; omega) | skip) | skip) | (change zx _ _ _ _; refine zd rfl trivial ?_) | exact (by kernel_rfl : zn _ _ = true) | refine zc (by omega) (by omega) ?_ | (change zI _ _ _ _ _; refine zF rfl (by repeat' (first | trivial | refine And.intro ?_ ?_ | (show 0 + _ ≤ List.length _; simp))) zW.refl (zmZ m p hz) rfl ?_) | (change zI _ _ _ _ _; refine zF rfl (by repeat' (first | trivial | refine And.intro ?_ ?_ | (show 0 + _ ≤ List.length _; simp))) zW.refl (c_order q p) rfl ?_) | fail)
         all_goals first
          | (refine congrArg (zg .i64) (mE1 hz fun g => ?_).symm; have g1 := hpz.1 (g.2.1 _ hlt); first | exact absurd g1.1 (by assumption) | (have := zmc.2 g1.2; omega))
          | exact ⟨k + 2, ⟨by omega, zz hall2 (hpz.2 ⟨by assumption, zmc.1 (by omega)⟩)⟩, by omega, zJ [0] rfl rfl ⟨rfl, trivial⟩ (by repeat' (first | exact trivial | exact rfl | refine And.intro ?_ ?_))⟩
     · have hpa : ∀ i, i < m.pairs.length → zcb m i := fun j hj => hall2 j (by omega)
       repeat' (first | refine o1 ?_ | refine o2 ?_ | refine k1 ?_ | refine k2 ?_ | refine k3 ?_ | refine k6 ?_ | refine k7 ?_ | refine k8 ?_ | refine And.intro ?_ ?_ | (intro h; first | exact Bool.noConfusion h | exact nz _ h | exact nl h | (simp at h; done) | (simp at h; first | (exfalso; omega) | skip) | skip) | (change zx _ _ _ _; refine zd rfl trivial ?_) | (change zp _ _ _ _ _; refine zC rfl (by repeat' (first | trivial | refine And.intro ?_ ?_ | (show 0 + _ ≤ List.length _; simp))) zW.refl (zlL m.counts 79 [.ia m.cells] (fun c => pB (¬ zds m c)) (by omega) (fun c hc => c_valid2 m c (hl.ld c hc))) rfl ?_) | fail)
       all_goals first
        | (refine congrArg (zg .i64) (mE1 hz fun g => ?_).symm; obtain ⟨c, hc, hno⟩ := (by assumption : ∃ x, x ∈ m.counts ∧ ¬ zds m x); exact hno (g.2.2 c hc))
        | exact congrArg (zg .i64) (mE0 hz ⟨hch, hpa, by assumption⟩).symm
 · refine zh tok mixed 52 rfl (fn := Tryz.f34) (c := Tryz.f34.body.getD .skip) (by kernel_rfl) (by kernel_rfl) (by kernel_rfl) rfl 0 rfl ?_
   repeat' (first | refine o1 ?_ | refine o2 ?_ | refine k1 ?_ | refine k2 ?_ | refine k3 ?_ | refine k4 ?_ | refine k6 ?_ | refine k7 ?_ | refine And.intro ?_ ?_ | (intro h; first | exact Bool.noConfusion h | exact nz _ h | exact nl h | (simp at h; done) | (simp at h; first | (exfalso; omega) | skip) | skip) | (change zx _ _ _ _; refine zd rfl trivial ?_) | refine za ?_ | (change zp _ _ _ _ _; refine zC rfl (by repeat' (first | trivial | refine And.intro ?_ ?_ | (show 0 + _ ≤ List.length _; simp))) zW.refl (zpF m) rfl ?_) | fail)
   all_goals first
    | exact congrArg (zg .i64) (mE2 hz).symm
    | (exfalso; exact hz (by assumption))
theorem zje (m : Model) (hl : Laid m) : zH Tryz.prog 26 [ag m.cells] (fun r => r = zg .i64 (qx m)) := by
 by_cases hz : qJ m
 · refine zh tok mixed 105 rfl (fn := Tryz.f26) (c := Tryz.f26.body.getD .skip) (by kernel_rfl) (by kernel_rfl) (by kernel_rfl) rfl 0 rfl ?_
   have hcn := hz.1
   have hpn := hz.2.2.1
   have hon := hz.2.2.2.1
   repeat' (first | refine o1 ?_ | refine o2 ?_ | refine k1 ?_ | refine k2 ?_ | refine k3 ?_ | refine k4 ?_ | refine k6 ?_ | refine k7 ?_ | refine And.intro ?_ ?_ | (intro h; first | exact Bool.noConfusion h | exact nz _ h | exact nl h | (simp at h; done) | (simp at h; first | (exfalso; omega) | skip) | skip) | (change zx _ _ _ _; refine zd rfl trivial ?_) | (change zp _ _ _ _ _; refine zC rfl (by repeat' (first | trivial | refine And.intro ?_ ?_ | (show 0 + _ ≤ List.length _; simp))) zW.refl (zpw m hl) rfl ?_) | fail)
   all_goals first
    | (exfalso; exact (by assumption : ¬ qJ m) hz)
    | skip
   refine qu (fun i : Nat => [(3, zg .i64 i)]) (fun _ => []) (fun i => i ≤ m.classes.length ∧ ∀ j, j < i → ∀ l, m.classes[j]? = some l → ∀ o ∈ l, xI m o) (fun i => m.classes.length - i) 0 ⟨by omega, fun j hj => by omega⟩ (by repeat' (first | exact trivial | exact ⟨_, rfl, ALe.refl⟩ | refine And.intro ?_ ?_)) (by repeat' (first | exact trivial | exact rfl | refine And.intro ?_ ?_)) ?_
   intro i ⟨hi, hall⟩
   rcases Nat.lt_or_ge i m.classes.length with hlt | hge
   · obtain ⟨l, hl1⟩ := qj hlt
     have hll := hz.2.1 l (List.mem_of_getElem? hl1)
     have hmem := List.mem_of_getElem? hl1
     repeat' (first | refine o1 ?_ | refine o2 ?_ | refine k1 ?_ | refine k2 ?_ | refine k3 ?_ | refine k4 ?_ | refine k6 ?_ | refine And.intro ?_ ?_ | (intro h; first | exact Bool.noConfusion h | exact nz _ h | exact nl h | (simp at h; done) | (simp at h; first | (exfalso; omega) | skip) | skip) | refine za ?_ | fail)
     refine qu (fun i : Nat => [(4, zg .i64 i)]) (fun _ => []) (fun i => i ≤ l.length ∧ ∀ j, j < i → ∀ o, l[j]? = some o → xI m o) (fun i => l.length - i) 0 ⟨by omega, fun j hj => by omega⟩ (by repeat' (first | exact trivial | exact ⟨_, rfl, ALe.refl⟩ | refine And.intro ?_ ?_)) (by repeat' (first | exact trivial | exact rfl | refine And.intro ?_ ?_)) ?_
     intro k ⟨hk, hallk⟩
     rcases Nat.lt_or_ge k l.length with hkl | hkg
     · obtain ⟨o, ho⟩ := qj hkl
       have hcl := hl.ch l hmem o (List.mem_of_getElem? ho)
       repeat' (first | (refine zj (k := i) (zf hl1) (by omega) ?_) | (refine zj (k := k) (zf ho) (by omega) ?_) | refine o1 ?_ | refine o2 ?_ | refine k1 ?_ | refine k2 ?_ | refine k3 ?_ | refine k4 ?_ | refine k6 ?_ | refine And.intro ?_ ?_ | (intro h; first | exact Bool.noConfusion h | exact nz _ h | exact nl h | (simp at h; done) | (simp at h; first | (exfalso; omega) | skip) | skip) | refine za ?_ | fail)
       refine qu (fun i : Nat => [(6, zg .i64 i)]) (fun _ => []) (fun i => i ≤ o.charges.length ∧ ∀ j, j < i → zcK m o.charges j) (fun i => o.charges.length - i) 0 ⟨by omega, fun j hj => by omega⟩ (by repeat' (first | exact trivial | exact ⟨_, rfl, ALe.refl⟩ | refine And.intro ?_ ?_)) (by repeat' (first | exact trivial | exact rfl | refine And.intro ?_ ?_)) ?_
       intro n ⟨hn, halln⟩
       rcases Nat.lt_or_ge n o.charges.length with hnl | hng
       · obtain ⟨c, hc⟩ := qj hnl
         have hgood : zdQ m → zcK m o.charges n := fun g => good_c g hl1 o (List.mem_of_getElem? ho) n hnl
         rcases n with _ | n
         · repeat' (first | (refine zj (k := 0) (zf hc) (by omega) ?_) | refine o1 ?_ | refine o2 ?_ | refine k1 ?_ | refine k2 ?_ | refine k3 ?_ | refine k4 ?_ | refine k6 ?_ | refine k7 ?_ | refine k8 ?_ | refine And.intro ?_ ?_ | refine o3 ?_ | refine o4 ?_ | (intro h; first | exact Bool.noConfusion h | exact nz _ h | exact nl h | (simp at h; done) | (simp at h; first | (exfalso; omega) | skip) | skip) | (change zx _ _ _ _; refine zd rfl trivial ?_) | exact (by kernel_rfl : zn _ _ = true) | refine za ?_ | refine zc (by omega) (by omega) ?_ | (change zI _ _ _ _ _; refine zF rfl (by repeat' (first | trivial | refine And.intro ?_ ?_ | (show 0 + _ ≤ List.length _; simp))) zW.refl (zcL m c.rule) rfl ?_) | (change zI _ _ _ _ _; refine zF rfl (by repeat' (first | trivial | refine And.intro ?_ ?_ | (show 0 + _ ≤ List.length _; simp))) zW.refl (zhd c.cost) rfl ?_) | fail)
           all_goals first
            | (refine congrArg (zg .i64) (mE1 hz fun g => ?_).symm; obtain ⟨g1, g2, g3⟩ := hgood g c hc; first | exact absurd g1 (by assumption) | exact absurd g2 (by assumption))
            | exact ⟨1, ⟨by omega, zz halln (zg6 hc (by assumption) (by assumption))⟩, by omega, zJ [0] rfl rfl ⟨rfl, trivial⟩ (by repeat' (first | exact trivial | exact rfl | refine And.intro ?_ ?_))⟩
            | (exfalso; simp_all; done)
         · obtain ⟨b, hb⟩ := qj (show n < o.charges.length by omega)
           repeat' (first | (refine zj (k := n + 1) (zf hc) (by omega) ?_) | (refine zj (k := n) (zf hb) (by omega) ?_) | refine o1 ?_ | refine o2 ?_ | refine k1 ?_ | refine k2 ?_ | refine k3 ?_ | refine k4 ?_ | refine k6 ?_ | refine k7 ?_ | refine And.intro ?_ ?_ | refine o3 ?_ | refine o4 ?_ | (intro h; first | exact Bool.noConfusion h | exact nz _ h | exact nl h | (simp at h; done) | (simp at h; first | (exfalso; omega) | skip) | skip) | (change zx _ _ _ _; refine zd rfl trivial ?_) | exact (by kernel_rfl : zn _ _ = true) | refine za ?_ | refine zc (by omega) (by omega) ?_ | (change zI _ _ _ _ _; refine zF rfl (by repeat' (first | trivial | refine And.intro ?_ ?_ | (show 0 + _ ≤ List.length _; simp))) zW.refl (zcL m c.rule) rfl ?_) | (change zI _ _ _ _ _; refine zF rfl (by repeat' (first | trivial | refine And.intro ?_ ?_ | (show 0 + _ ≤ List.length _; simp))) zW.refl (zhd c.cost) rfl ?_) | fail)
           all_goals first
            | (refine congrArg (zg .i64) (mE1 hz fun g => ?_).symm; obtain ⟨g1, g2, g3⟩ := hgood g c hc; first | exact absurd g1 (by assumption) | exact absurd g2 (by assumption) | (have := g3 n b rfl hb; omega))
            | exact ⟨n + 2, ⟨by omega, zz halln (zg7 hc hb (by assumption) (by assumption) (by omega))⟩, by omega, zJ [0] rfl rfl ⟨rfl, trivial⟩ (by repeat' (first | exact trivial | exact rfl | refine And.intro ?_ ?_))⟩
       · repeat' (first | refine o1 ?_ | refine o2 ?_ | refine k1 ?_ | refine k2 ?_ | refine k3 ?_ | refine k8 ?_ | refine And.intro ?_ ?_ | (intro h; first | exact Bool.noConfusion h | exact nz _ h | exact nl h | (simp at h; done) | (simp at h; first | (exfalso; omega) | skip) | skip) | refine za ?_ | refine zc (by omega) (by omega) ?_ | fail)
         all_goals first
          | exact ⟨k + 1, ⟨by omega, zz hallk fun o' h' => by rw [ho] at h'; cases h'; exact fun j hj => halln j (by omega)⟩, by omega, zJ [0] rfl rfl ⟨rfl, trivial⟩ (by repeat' (first | exact trivial | exact rfl | refine And.intro ?_ ?_))⟩
     · repeat' (first | refine o1 ?_ | refine o2 ?_ | refine k1 ?_ | refine k2 ?_ | refine k3 ?_ | refine k8 ?_ | refine And.intro ?_ ?_ | (intro h; first | exact Bool.noConfusion h | exact nz _ h | exact nl h | (simp at h; done) | (simp at h; first | (exfalso; omega) | skip) | skip) | refine za ?_ | refine zc (by omega) (by omega) ?_ | refine ⟨_, _, (by first | rfl | assumption), zf (by assumption), ?_⟩ | fail)
       all_goals first
        | exact ⟨i + 1, ⟨by omega, zz hall fun l' h' => by rw [hl1] at h'; cases h'; exact zp4 hkg hallk⟩, by omega, zJ [0] rfl rfl ⟨rfl, trivial⟩ (by repeat' (first | exact trivial | exact rfl | refine And.intro ?_ ?_))⟩
   · have hch : ∀ l ∈ m.classes, ∀ o ∈ l, xI m o := fun l hl => by
      obtain ⟨j, hj⟩ := List.getElem?_of_mem hl
      exact hall j (by have := (List.getElem?_eq_some_iff.1 hj).1; omega) l hj
     repeat' (first | refine o1 ?_ | refine o2 ?_ | refine k1 ?_ | refine k2 ?_ | refine k3 ?_ | refine k4 ?_ | refine k8 ?_ | refine And.intro ?_ ?_ | (intro h; first | exact Bool.noConfusion h | exact nz _ h | exact nl h | (simp at h; done) | (simp at h; first | (exfalso; omega) | skip) | skip) | refine za ?_ | fail)
     refine qu (fun i : Nat => [(7, zg .i64 i)]) (fun _ => []) (fun i => i ≤ m.pairs.length ∧ ∀ j, j < i → zcb m j) (fun i => m.pairs.length - i) 0 ⟨by omega, fun j hj => by omega⟩ (by repeat' (first | exact trivial | exact ⟨_, rfl, ALe.refl⟩ | refine And.intro ?_ ?_)) (by repeat' (first | exact trivial | exact rfl | refine And.intro ?_ ?_)) ?_
     intro i ⟨hi, hall2⟩
     rcases Nat.lt_or_ge i m.pairs.length with hlt | hge
     · obtain ⟨p, hp⟩ := qj hlt
       rcases i with _ | k
       · repeat' (first | refine o1 ?_ | refine o2 ?_ | refine k1 ?_ | refine k2 ?_ | refine k3 ?_ | refine k4 ?_ | refine k6 ?_ | refine k7 ?_ | refine k8 ?_ | refine And.intro ?_ ?_ | (intro h; first | exact Bool.noConfusion h | exact nz _ h | exact nl h | (simp at h; done) | (simp at h; first | (exfalso; omega) | skip) | skip) | (change zx _ _ _ _; refine zd rfl trivial ?_) | refine za ?_ | refine zc (by omega) (by omega) ?_ | (change zp _ _ _ _ _; refine zC rfl (by repeat' (first | trivial | refine And.intro ?_ ?_ | (show 0 + _ ≤ List.length _; simp))) zW.refl (znQ m p hz hp) rfl ?_) | fail)
         all_goals first
          | (refine congrArg (zg .i64) (mE1 hz fun g => ?_).symm; exact absurd (g.2.1 _ hlt) (by assumption))
          | exact ⟨1, ⟨by omega, zz hall2 (by assumption)⟩, by omega, zJ [0] rfl rfl ⟨rfl, trivial⟩ (by repeat' (first | exact trivial | exact rfl | refine And.intro ?_ ?_))⟩
          | (exfalso; simp_all; done)
       · obtain ⟨q, hq⟩ := qj (show k < m.pairs.length by omega)
         repeat' (first | refine o1 ?_ | refine o2 ?_ | refine k1 ?_ | refine k2 ?_ | refine k3 ?_ | refine k4 ?_ | refine k6 ?_ | refine k7 ?_ | refine And.intro ?_ ?_ | (intro h; first | exact Bool.noConfusion h | exact nz _ h | exact nl h | (simp at h; done) | (simp at h; first | (exfalso; omega) | skip) | skip) | (change zx _ _ _ _; refine zd rfl trivial ?_) | refine za ?_ | refine zc (by omega) (by omega) ?_ | (change zp _ _ _ _ _; refine zC rfl (by repeat' (first | trivial | refine And.intro ?_ ?_ | (show 0 + _ ≤ List.length _; simp))) zW.refl (znP m k q hq p hz hp) rfl ?_) | fail)
         all_goals first
          | (refine congrArg (zg .i64) (mE1 hz fun g => ?_).symm; exact absurd (g.2.1 _ hlt) (by assumption))
          | exact ⟨k + 2, ⟨by omega, zz hall2 (by assumption)⟩, by omega, zJ [0] rfl rfl ⟨rfl, trivial⟩ (by repeat' (first | exact trivial | exact rfl | refine And.intro ?_ ?_))⟩
     · have hpa : ∀ i, i < m.pairs.length → zcb m i := fun j hj => hall2 j (by omega)
       repeat' (first | refine o1 ?_ | refine o2 ?_ | refine k1 ?_ | refine k2 ?_ | refine k3 ?_ | refine k4 ?_ | refine k8 ?_ | refine And.intro ?_ ?_ | (intro h; first | exact Bool.noConfusion h | exact nz _ h | exact nl h | (simp at h; done) | (simp at h; first | (exfalso; omega) | skip) | skip) | refine za ?_ | fail)
       refine qu (fun i : Nat => [(8, zg .i64 i)]) (fun _ => []) (fun i => i ≤ m.counts.length ∧ ∀ j, j < i → ∀ c, m.counts[j]? = some c → zds m c) (fun i => m.counts.length - i) 0 ⟨by omega, fun j hj => by omega⟩ (by repeat' (first | exact trivial | exact ⟨_, rfl, ALe.refl⟩ | refine And.intro ?_ ?_)) (by repeat' (first | exact trivial | exact rfl | refine And.intro ?_ ?_)) ?_
       intro i ⟨hi, hall3⟩
       rcases Nat.lt_or_ge i m.counts.length with hlt | hge
       · obtain ⟨c, hc⟩ := qj hlt
         repeat' (first | (refine zj (k := i) (zf hc) (by omega) ?_) | refine o1 ?_ | refine o2 ?_ | refine k1 ?_ | refine k2 ?_ | refine k3 ?_ | refine k4 ?_ | refine k6 ?_ | refine k7 ?_ | refine And.intro ?_ ?_ | refine o3 ?_ | refine o4 ?_ | (intro h; first | exact Bool.noConfusion h | exact nz _ h | exact nl h | (simp at h; done) | (simp at h; first | (exfalso; omega) | skip) | skip) | (change zx _ _ _ _; refine zd rfl trivial ?_) | exact (by kernel_rfl : zn _ _ = true) | refine za ?_ | refine zc (by omega) (by omega) ?_ | (change zI _ _ _ _ _; refine zF rfl (by repeat' (first | trivial | refine And.intro ?_ ?_ | (show 0 + _ ≤ List.length _; simp))) zW.refl (znR m c (hl.ld c (List.mem_of_getElem? hc))) rfl ?_) | fail)
         all_goals first
          | (refine congrArg (zg .i64) (mE1 hz fun g => ?_).symm; exact absurd (g.2.2 c (List.mem_of_getElem? hc)) (by assumption))
          | exact ⟨i + 1, ⟨by omega, zz hall3 fun c' h' => by rw [hc] at h'; cases h'; assumption⟩, by omega, zJ [0] rfl rfl ⟨rfl, trivial⟩ (by repeat' (first | exact trivial | exact rfl | refine And.intro ?_ ?_))⟩
       · repeat' (first | refine o1 ?_ | refine o2 ?_ | refine k1 ?_ | refine k2 ?_ | refine k3 ?_ | refine k7 ?_ | refine k8 ?_ | refine And.intro ?_ ?_ | (intro h; first | exact Bool.noConfusion h | exact nz _ h | exact nl h | (simp at h; done) | (simp at h; first | (exfalso; omega) | skip) | skip) | (change zx _ _ _ _; refine zd rfl trivial ?_) | refine za ?_ | fail)
         all_goals first
          | exact congrArg (zg .i64) (mE0 hz ⟨hch, hpa, zp4 hge hall3⟩).symm
 · refine zh tok mixed 105 rfl (fn := Tryz.f26) (c := Tryz.f26.body.getD .skip) (by kernel_rfl) (by kernel_rfl) (by kernel_rfl) rfl 0 rfl ?_
   repeat' (first | refine o1 ?_ | refine o2 ?_ | refine k1 ?_ | refine k2 ?_ | refine k3 ?_ | refine k4 ?_ | refine k6 ?_ | refine k7 ?_ | refine And.intro ?_ ?_ | (intro h; first | exact Bool.noConfusion h | exact nz _ h | exact nl h | (simp at h; done) | (simp at h; first | (exfalso; omega) | skip) | skip) | (change zx _ _ _ _; refine zd rfl trivial ?_) | (change zp _ _ _ _ _; refine zC rfl (by repeat' (first | trivial | refine And.intro ?_ ?_ | (show 0 + _ ≤ List.length _; simp))) zW.refl (zpw m hl) rfl ?_) | fail)
   all_goals first
    | exact congrArg (zg .i64) (mE2 hz).symm
    | (exfalso; exact hz (by assumption))
end Go.Proofs.YtihpjcmloecaaaaGreat.Cw
namespace Go.Proofs.YtihpjcmloecaaaaGreat.Cw
open Go.Cw Go.Proofs
set_option linter.unusedVariables false
set_option maxRecDepth 100000
set_option maxHeartbeats 800000
noncomputable def idxS (l : List Str) (s : Str) : Int := zmw (fun q => pB (q = s)) l
noncomputable def idxN (l : List Int) (s : Int) : Int := zmw (fun q => pB (q = s)) l
theorem idxN_has {l : List Int} {s : Int} : decide (idxN l s ≥ 0) = pB (s ∈ l) := by
 unfold idxN
 rw [zeI]
 by_cases h : s ∈ l
 · rw [zaS h]; exact List.any_eq_true.2 ⟨s, h, zaS rfl⟩
 · rw [zaj h]; exact List.any_eq_false.2 fun q hq => by rw [zaj (fun e : q = s => h (e ▸ hq))]; simp
theorem zm1 (l : List Int) (s : Int) (hl : l.length ≤ 100000) : zH Tryz.prog 93 [.pv (qV l), zg .i64 s] (fun r => r = zg .i64 (idxN l s)) := by
 refine zh tok mixed 19 rfl (fn := Tryz.f93) (c := Tryz.f93.body.getD .skip) (by kernel_rfl) (by kernel_rfl) (by kernel_rfl) rfl 0 rfl ?_
 repeat' (first | refine o1 ?_ | refine o2 ?_ | refine k1 ?_ | refine k2 ?_ | refine k3 ?_ | refine k4 ?_ | refine k6 ?_ | refine k7 ?_ | refine k8 ?_ | refine And.intro ?_ ?_ | exact trivial | refine o3 ?_ | refine o4 ?_ | refine o5 ?_ | refine o6 ?_ | refine k5 ?_ | (intro h; first | exact Bool.noConfusion h | exact nz _ h | exact nl h | (simp at h; done) | (simp at h; first | (exfalso; omega) | skip) | skip) | (change zx _ _ _ _; refine zd rfl trivial ?_) | exact (rfl : qB _ = true) | (refine (?_ : (0 : Int) ≤ _); omega) | (refine (?_ : _ ≠ _); omega) | (refine (?_ : z8 _ = zb _); rfl) | exact Nat.le_of_ble_eq_true rfl | exact (by kernel_rfl : zn _ _ = true) | refine za ?_ | refine eqv_size ?_ | refine xm (xZ ?_) | refine zL ?_ | refine zc (by omega) (by omega) ?_ | refine eqv_u64 (by omega) (by omega) ?_ | refine eqv_u8 (by omega) (by omega) ?_ | refine zi _ (xh rfl rfl) ?_ | refine ⟨_, _, (by first | rfl | assumption), zf (by assumption), ?_⟩ | refine ⟨_, _, (by first | rfl | assumption), (by assumption), ?_⟩ | refine ⟨_, zf (by assumption), (by decide), ?_⟩ | refine ⟨_, zf (by assumption), ?_⟩ | (refine (?_ : _ ≤ 140737488355328); simp [zb] <;> omega) | (refine (?_ : _ ≤ 9223372036854775807); simp [zb] <;> omega) | (refine (?_ : _ = zb _); simp [zb] <;> omega) | refine zi _ (qK rfl) (zi _ qY ?_) | refine zi _ (qb rfl) (zi 1 rfl ?_) | refine zj (zf (by assumption)) (by omega) ?_ | refine qp _ (by first | rfl | assumption) (by first | assumption | omega) ?_ | fail)
 refine qu (fun i : Nat => [(8, zg .i64 i)]) (fun _ => []) (fun i => i ≤ l.length ∧ ∀ j, j < i → ∀ q, l[j]? = some q → pB (q = s) = false) (fun i => l.length - i) 0 ⟨by omega, fun j hj => by omega⟩ (by repeat' (first | exact trivial | exact rfl | exact ⟨_, rfl, ALe.refl⟩ | refine And.intro ?_ ?_)) (by repeat' (first | exact trivial | exact rfl | exact ⟨_, rfl, ALe.refl⟩ | refine And.intro ?_ ?_)) ?_
 intro i ⟨hi, hall⟩
 rcases Nat.lt_or_ge i l.length with hlt | hge
 · obtain ⟨q, hq⟩ := qj hlt
   repeat' (first | refine o1 ?_ | refine o2 ?_ | refine k1 ?_ | refine k2 ?_ | refine k3 ?_ | refine k4 ?_ | refine k6 ?_ | refine k7 ?_ | refine k8 ?_ | refine And.intro ?_ ?_ | exact trivial | refine o3 ?_ | refine o4 ?_ | refine o5 ?_ | refine o6 ?_ | refine k5 ?_ | (intro h; first | exact Bool.noConfusion h | exact nz _ h | exact nl h | (simp at h; done) | (simp at h; first | (exfalso; omega) | skip) | skip) | (change zx _ _ _ _; refine zd rfl trivial ?_) | exact (rfl : qB _ = true) | (refine (?_ : (0 : Int) ≤ _); omega) | (refine (?_ : _ ≠ _); omega) | (refine (?_ : z8 _ = zb _); rfl) | exact Nat.le_of_ble_eq_true rfl | exact (by kernel_rfl : zn _ _ = true) | refine za ?_ | refine eqv_size ?_ | refine xm (xZ ?_) | refine zL ?_ | refine zc (by omega) (by omega) ?_ | refine eqv_u64 (by omega) (by omega) ?_ | refine eqv_u8 (by omega) (by omega) ?_ | refine zi _ (xh rfl rfl) ?_ | refine ⟨_, _, (by first | rfl | assumption), zf (by assumption), ?_⟩ | refine ⟨_, _, (by first | rfl | assumption), (by assumption), ?_⟩ | refine ⟨_, zf (by assumption), (by decide), ?_⟩ | refine ⟨_, zf (by assumption), ?_⟩ | (refine (?_ : _ ≤ 140737488355328); simp [zb] <;> omega) | (refine (?_ : _ ≤ 9223372036854775807); simp [zb] <;> omega) | (refine (?_ : _ = zb _); simp [zb] <;> omega) | refine zi _ (qK rfl) (zi _ qY ?_) | refine zi _ (qb rfl) (zi 1 rfl ?_) | refine zj (zf (by assumption)) (by omega) ?_ | refine qp _ (by first | rfl | assumption) (by first | assumption | omega) ?_ | fail)
   all_goals first
    | exact congrArg (zg .i64) (zeb hall hq (zaS (by omega))).symm
    | exact ⟨i + 1, ⟨by omega, zz hall fun q' h' => by rw [hq] at h'; cases h'; exact zaj fun e => by omega⟩, by omega, zJ [] rfl rfl trivial (by repeat' (first | exact trivial | exact rfl | exact ⟨_, rfl, ALe.refl⟩ | refine And.intro ?_ ?_))⟩
 · repeat' (first | refine o1 ?_ | refine o2 ?_ | refine k1 ?_ | refine k2 ?_ | refine k3 ?_ | refine k4 ?_ | refine k6 ?_ | refine k7 ?_ | refine k8 ?_ | refine And.intro ?_ ?_ | exact trivial | refine o3 ?_ | refine o4 ?_ | refine o5 ?_ | refine o6 ?_ | refine k5 ?_ | (intro h; first | exact Bool.noConfusion h | exact nz _ h | exact nl h | (simp at h; done) | (simp at h; first | (exfalso; omega) | skip) | skip) | (change zx _ _ _ _; refine zd rfl trivial ?_) | exact (rfl : qB _ = true) | (refine (?_ : (0 : Int) ≤ _); omega) | (refine (?_ : _ ≠ _); omega) | (refine (?_ : z8 _ = zb _); rfl) | exact Nat.le_of_ble_eq_true rfl | exact (by kernel_rfl : zn _ _ = true) | refine za ?_ | refine eqv_size ?_ | refine xm (xZ ?_) | refine zL ?_ | refine zc (by omega) (by omega) ?_ | refine eqv_u64 (by omega) (by omega) ?_ | refine eqv_u8 (by omega) (by omega) ?_ | refine zi _ (xh rfl rfl) ?_ | refine ⟨_, _, (by first | rfl | assumption), zf (by assumption), ?_⟩ | refine ⟨_, _, (by first | rfl | assumption), (by assumption), ?_⟩ | refine ⟨_, zf (by assumption), (by decide), ?_⟩ | refine ⟨_, zf (by assumption), ?_⟩ | (refine (?_ : _ ≤ 140737488355328); simp [zb] <;> omega) | (refine (?_ : _ ≤ 9223372036854775807); simp [zb] <;> omega) | (refine (?_ : _ = zb _); simp [zb] <;> omega) | refine zi _ (qK rfl) (zi _ qY ?_) | refine zi _ (qb rfl) (zi 1 rfl ?_) | refine zj (zf (by assumption)) (by omega) ?_ | refine qp _ (by first | rfl | assumption) (by first | assumption | omega) ?_ | fail)
   all_goals first
    | exact congrArg (zg .i64) (zdm fun j hj => hall j (by omega)).symm
theorem zhg (l : List Int) (s : Int) (hl : l.length ≤ 100000) : zH Tryz.prog 52 [.pv (qV l), zg .i64 s] (fun r => r = zo (pB (s ∈ l))) := by
 refine zh tok mixed 9 rfl (fn := Tryz.f52) (c := Tryz.f52.body.getD .skip) (by kernel_rfl) (by kernel_rfl) (by kernel_rfl) rfl 0 rfl ?_
 repeat' (first | refine o1 ?_ | refine o2 ?_ | refine k1 ?_ | refine k2 ?_ | refine k3 ?_ | refine k4 ?_ | refine k6 ?_ | refine k7 ?_ | refine k8 ?_ | refine And.intro ?_ ?_ | exact trivial | refine o3 ?_ | refine o4 ?_ | refine o5 ?_ | refine o6 ?_ | refine k5 ?_ | (intro h; first | exact Bool.noConfusion h | exact nz _ h | exact nl h | (simp at h; done) | (simp at h; first | (exfalso; omega) | skip) | skip) | (change zx _ _ _ _; refine zd rfl trivial ?_) | exact (rfl : qB _ = true) | (refine (?_ : (0 : Int) ≤ _); omega) | (refine (?_ : _ ≠ _); omega) | (refine (?_ : z8 _ = zb _); rfl) | exact Nat.le_of_ble_eq_true rfl | exact (by kernel_rfl : zn _ _ = true) | refine za ?_ | refine eqv_size ?_ | refine xm (xZ ?_) | refine zL ?_ | refine zc (by omega) (by omega) ?_ | refine eqv_u64 (by omega) (by omega) ?_ | refine eqv_u8 (by omega) (by omega) ?_ | refine zi _ (xh rfl rfl) ?_ | refine ⟨_, _, (by first | rfl | assumption), zf (by assumption), ?_⟩ | refine ⟨_, _, (by first | rfl | assumption), (by assumption), ?_⟩ | refine ⟨_, zf (by assumption), (by decide), ?_⟩ | refine ⟨_, zf (by assumption), ?_⟩ | (refine (?_ : _ ≤ 140737488355328); simp [zb] <;> omega) | (refine (?_ : _ ≤ 9223372036854775807); simp [zb] <;> omega) | (refine (?_ : _ = zb _); simp [zb] <;> omega) | refine zi _ (qK rfl) (zi _ qY ?_) | refine zi _ (qb rfl) (zi 1 rfl ?_) | refine zj (zf (by assumption)) (by omega) ?_ | refine qp _ (by first | rfl | assumption) (by first | assumption | omega) ?_ | (change zp _ _ _ _ _; refine zC rfl (by repeat' (first | trivial | refine And.intro ?_ ?_ | (show 0 + _ ≤ List.length _; simp))) zW.refl (zm1 l s hl) rfl ?_) | fail)
 exact congrArg zo idxN_has
end Go.Proofs.YtihpjcmloecaaaaGreat.Cw
namespace Go.Proofs.YtihpjcmloecaaaaGreat.Cw
open Go.Cw Go.Proofs
set_option linter.unusedVariables false
set_option maxRecDepth 100000
set_option maxHeartbeats 1600000
def planP (m : Model) (plan : List Int) : Prop := plan.length = m.classes.length ∧ ∀ i, i < plan.length → ∀ o, plan[i]? = some o → xV m i o
def plannedP (m : Model) (plan : List Int) : Prop := plan.length = m.classes.length ∧ ∀ i, i < plan.length → ∀ o, plan[i]? = some o → o = -1 ∨ xV m i o
noncomputable def zpj (m : Model) (plan : List Int) : Int := if qx m = 0 then (if pB (planP m plan) then 0 else 17) else qx m
theorem qP {m : Model} (h : qx m = 0) : qJ m := Classical.byContradiction fun hn => by rw [mE2 hn] at h; cases h
theorem znO (l : List Int) (hl : l.length ≤ 100000) : zH Tryz.prog 21 [.pv (qV l), .pv (qV l)] (fun r => r = zo true) := by
 refine zh tok mixed 26 rfl (fn := Tryz.f21) (c := Tryz.f21.body.getD .skip) (by kernel_rfl) (by kernel_rfl) (by kernel_rfl) rfl 0 rfl ?_
 repeat' (first | refine o1 ?_ | refine o2 ?_ | refine k1 ?_ | refine k2 ?_ | refine k3 ?_ | refine k4 ?_ | refine k6 ?_ | refine And.intro ?_ ?_ | (intro h; first | exact Bool.noConfusion h | exact nz _ h | exact nl h | (simp at h; done) | (simp at h; first | (exfalso; omega) | skip) | skip) | refine za ?_ | fail)
 refine qu (fun i : Nat => [(5, zg .i64 i)]) (fun _ => []) (fun i => i ≤ l.length) (fun i => l.length - i) 0 (by omega) (by repeat' (first | exact trivial | exact ⟨_, rfl, ALe.refl⟩ | refine And.intro ?_ ?_)) (by repeat' (first | exact trivial)) ?_
 intro i hi
 rcases Nat.lt_or_ge i l.length with hlt | hge
 · obtain ⟨x, hx⟩ := qj hlt
   repeat' (first | (refine zj (k := i) (zf hx) (by omega) ?_) | refine o1 ?_ | refine o2 ?_ | refine k1 ?_ | refine k2 ?_ | refine k3 ?_ | refine k4 ?_ | refine k6 ?_ | refine And.intro ?_ ?_ | refine o3 ?_ | refine o4 ?_ | (intro h; first | exact Bool.noConfusion h | exact nz _ h | exact nl h | (simp at h; done) | (simp at h; first | (exfalso; omega) | skip) | skip) | exact (by kernel_rfl : zn _ _ = true) | refine za ?_ | refine zc (by omega) (by omega) ?_ | fail)
   all_goals first
    | exact ⟨i + 1, by omega, by omega, zJ [] rfl rfl trivial (by repeat' (first | exact trivial | exact rfl | refine And.intro ?_ ?_))⟩
    | (exfalso; simp_all; done)
 · repeat' (first | refine o1 ?_ | refine o2 ?_ | refine k1 ?_ | refine k2 ?_ | refine k3 ?_ | refine k7 ?_ | refine k8 ?_ | refine And.intro ?_ ?_ | (intro h; first | exact Bool.noConfusion h | exact nz _ h | exact nl h | (simp at h; done) | (simp at h; first | (exfalso; omega) | skip) | skip) | (change zx _ _ _ _; refine zd rfl trivial ?_) | refine za ?_ | fail)
   exact rfl
end Go.Proofs.YtihpjcmloecaaaaGreat.Cw
namespace Go.Proofs.YtihpjcmloecaaaaGreat.Cw
open Go Go.Cw Go.Proofs
set_option linter.unusedVariables false
def zdV (p : Placed) : Value := .agg #[.int .i64 p.time.weeks, .int .i64 p.time.day, .int .i64 p.time.start, .int .i64 p.time.len, .int .i64 p.room]
theorem zos {p q : Placed} (h1 : p.time.weeks = q.time.weeks) (h2 : p.time.day = q.time.day) (h3 : p.time.start = q.time.start) (h4 : p.time.len = q.time.len) (h5 : p.room = q.room) : p = q := by
 obtain ⟨⟨a, b, c, d⟩, e⟩ := p
 obtain ⟨⟨a', b', c', d'⟩, e'⟩ := q
 simp only at h1 h2 h3 h4 h5
 subst h1; subst h2; subst h3; subst h4; subst h5; rfl
theorem ziX {p q : Placed} : kEq (zdV p) (zdV q) = true ↔ p = q := by
 constructor
 · intro h
   simp only [kEq, zdV, eqV, Bool.and_eq_true, beq_iff_eq, and_true] at h
   exact zos h.1 h.2.1 h.2.2.1 h.2.2.2.1 h.2.2.2.2
 · rintro rfl
   simp [kEq, zdV, eqV]
theorem zh1 {p q : Placed} (h : ¬ p = q) : kEq (zdV p) (zdV q) = false := by
 cases hk : kEq (zdV p) (zdV q) with
 | false => rfl
 | true => exact absurd (ziX.1 hk) h
abbrev Ent := Placed × List Nat
def qG (n : Nat) : List PV := [ei n]
def zdR (k : Nat) : Nat → List Ent → List (Value × Nat × AV)
 | _, [] => []
 | b, e :: E => (zdV e.1, b, .ms (b + k) 1 0 e.2.length) :: zdR k (b + 1) E
def ziw (ty : Nat) (E : List Ent) : zt := E.map fun e => some ⟨ty, 1, false, .p (e.2.map qG)⟩
theorem zeP {k : Nat} : ∀ {E : List Ent} {b i : Nat}, (zdR k b E)[i]? = E[i]?.map fun e => (zdV e.1, b + i, .ms (b + i + k) 1 0 e.2.length)
 | [], b, i => by simp [zdR]
 | e :: E, b, 0 => by simp [zdR]
 | e :: E, b, i + 1 => by
   simp only [zdR, List.getElem?_cons_succ]
   rw [zeP, show b + 1 + i = b + (i + 1) by omega]
theorem zeO {k : Nat} : ∀ {E : List Ent} {b : Nat}, (zdR k b E).length = E.length
 | [], _ => rfl
 | e :: E, b => by simp [zdR, zeO (E := E) (b := b + 1)]
theorem zgZ {k : Nat} {p : Placed} : ∀ {E : List Ent} {b : Nat}, (∀ e ∈ E, e.1 ≠ p) → zfi (zdV p) (zdR k b E) = none
 | [], b, _ => rfl
 | e :: E, b, h => by
   simp only [zdR, zfi]
   rw [zh1 fun q => h e (by simp) q.symm]
   exact zgZ fun e he => h e (by simp [he])
theorem zgY {k : Nat} {p : Placed} {l : List Nat} : ∀ {E : List Ent} {b j : Nat}, E[j]? = some (p, l) → (∀ i, i < j → ∀ e, E[i]? = some e → e.1 ≠ p) → zfi (zdV p) (zdR k b E) = some (.ms (b + j + k) 1 0 l.length)
 | [], b, j, h, _ => by simp at h
 | e :: E, b, 0, h, _ => by
   simp only [List.getElem?_cons_zero, Option.some.injEq] at h
   subst h
   simp only [zdR, zfi]
   rw [ziX.2 rfl]; rfl
 | e :: E, b, j + 1, h, hd => by
   simp only [zdR, zfi]
   rw [zh1 fun q => hd 0 (by omega) e rfl q.symm]
   have := zgY (k := k) (E := E) (b := b + 1) (j := j) (by simpa using h) fun i hi e he => hd (i + 1) (by omega) e (by simpa using he)
   rw [show b + 1 + j = b + (j + 1) by omega] at this
   exact this
theorem zl9 {k : Nat} {p : Placed} {v : AV} {ck : Nat} : ∀ {E : List Ent} {b : Nat}, (∀ e ∈ E, e.1 ≠ p) → zjp (zdV p) v ck (zdR k b E) = zdR k b E ++ [(zdV p, ck, v)]
 | [], b, _ => rfl
 | e :: E, b, h => by
   simp only [zdR, zjp]
   rw [zh1 fun q => h e (by simp) q.symm]
   show _ :: _ = _ :: _
   rw [zl9 fun e he => h e (by simp [he])]
   rfl
theorem zl8 {k : Nat} {p : Placed} {l : List Nat} {v : AV} {ck : Nat} : ∀ {E : List Ent} {b j : Nat}, E[j]? = some (p, l) → (∀ i, i < j → ∀ e, E[i]? = some e → e.1 ≠ p) → zjp (zdV p) v ck (zdR k b E) = (zdR k b E).set j (zdV p, b + j, v)
 | [], b, j, h, _ => by simp at h
 | e :: E, b, 0, h, _ => by
   simp only [List.getElem?_cons_zero, Option.some.injEq] at h
   subst h
   simp only [zdR, zjp]
   rw [ziX.2 rfl]; rfl
 | e :: E, b, j + 1, h, hd => by
   simp only [zdR, zjp]
   rw [zh1 fun q => hd 0 (by omega) e rfl q.symm]
   have := zl8 (k := k) (v := v) (ck := ck) (E := E) (b := b + 1) (j := j) (by simpa using h) fun i hi e he => hd (i + 1) (by omega) e (by simpa using he)
   rw [show b + 1 + j = b + (j + 1) by omega] at this
   show _ :: _ = _ :: _
   rw [this]
theorem ck_none {k : Nat} {p : Placed} {ck : Nat} {E : List Ent} {b : Nat} (h : ∀ e ∈ E, e.1 ≠ p) : ckM (zdV p) ck (zdR k b E) = ck + 1 := by
 unfold ckM; rw [zgZ h]
theorem ck_some {k : Nat} {p : Placed} {l : List Nat} {ck : Nat} {E : List Ent} {b j : Nat} (h : E[j]? = some (p, l)) (hd : ∀ i, i < j → ∀ e, E[i]? = some e → e.1 ≠ p) : ckM (zdV p) ck (zdR k b E) = ck := by
 unfold ckM; rw [zgY h hd]
theorem zmP {k m : Nat} : ∀ {E : List Ent} {b : Nat}, k + m ≤ 5 → ∀ e ∈ zdR 5 b E, far k m e.2.2 = true
 | [], _, _, e, h => by cases h
 | x :: E, b, h, e, he => by
   rcases List.mem_cons.1 he with rfl | he
   · simp [far]; right; omega
   · exact zmP h e he
theorem zlX {ty k m : Nat} : ∀ {E : List Ent} {i0 : Nat}, k + m ≤ i0 → zcl k m i0 (ziw ty E)
 | [], _, _ => trivial
 | e :: E, i0, h => ⟨.inr h, trivial, zlX (E := E) (i0 := i0 + 1) (by omega)⟩
theorem zfO {ty : Nat} {E : List Ent} {i : Nat} {e : Ent} (h : E[i]? = some e) : (ziw ty E)[i]? = some (some ⟨ty, 1, false, .p (e.2.map qG)⟩) := by
 unfold ziw; rw [List.getElem?_map, h]; rfl
theorem tail_len {ty : Nat} {E : List Ent} : (ziw ty E).length = E.length := by simp [ziw]
theorem zaI {k N b x j : Nat} : ((List.range' k N).set b x)[j]? = if j < N then some (if b = j then x else j + k) else none := by
 rw [List.getElem?_set, List.length_range']
 by_cases e : b = j
 · subst e; simp
 · simp only [e, if_false]
   by_cases h : j < N
   · rw [if_pos h, List.getElem?_range' h, Nat.one_mul, Nat.add_comm]
   · rw [if_neg h, List.getElem?_eq_none (by simp; omega)]
def rnK (N b x : Nat) : List Nat := 0 :: (N + 6) :: (N + 7) :: (N + 8) :: (N + 9) :: (List.range' 5 N).set b x
theorem rnK_get {N b x d j : Nat} (hj : j < N) : (rnK N b x).getD (j + 5) d = if b = j then x else j + 5 := by
 rw [List.getD_eq_getElem?_getD]
 show (((List.range' 5 N).set b x)[j]?).getD d = _
 rw [zaI, if_pos hj]; rfl
theorem rset_mem {N b x y : Nat} (h : y ∈ (List.range' 5 N).set b x) : y = x ∨ (5 ≤ y ∧ y < 5 + N) := by
 obtain ⟨j, hj⟩ := List.getElem?_of_mem h
 rw [zaI] at hj
 split at hj
 · injection hj with hj
   split at hj <;> omega
 · cases hj
theorem znu {N b x : Nat} (hx : x < 5) : ((List.range' 5 N).set b x).Nodup := by
 rw [List.Nodup, List.pairwise_iff_getElem]
 intro i j hi hj hij e
 rw [List.length_set, List.length_range'] at hi hj
 have h1 := zaI (k := 5) (N := N) (b := b) (x := x) (j := i)
 have h2 := zaI (k := 5) (N := N) (b := b) (x := x) (j := j)
 rw [List.getElem?_eq_getElem (by simpa using hi), if_pos hi] at h1
 rw [List.getElem?_eq_getElem (by simpa using hj), if_pos hj] at h2
 injection h1 with h1
 injection h2 with h2
 rw [e] at h1
 rw [h1] at h2
 split at h2 <;> split at h2 <;> omega
theorem zl7 {N b x : Nat} (h0 : 0 < x) (hx : x < 5) : zfF (rnK N b x) = true := by
 apply zcO
 unfold rnK
 have h := znu (N := N) (b := b) hx
 have hm : ∀ y ∈ (List.range' 5 N).set b x, 0 < y ∧ y < N + 5 := fun y hy => by rcases rset_mem hy with k | k <;> omega
 refine List.nodup_cons.2 ⟨fun k => ?_, List.nodup_cons.2 ⟨fun k => ?_, List.nodup_cons.2 ⟨fun k => ?_, List.nodup_cons.2 ⟨fun k => ?_, List.nodup_cons.2 ⟨fun k => ?_, h⟩⟩⟩⟩⟩
 all_goals
  have hk := fun y hy => hm y hy
  generalize (List.range' 5 N).set b x = L at *
  try simp only [List.mem_cons] at k
  first
   | (have := hk _ k; omega)
   | (rcases k with k | k | k | k | k <;> first | omega | (have := hk _ k; omega))
   | (rcases k with k | k | k | k <;> first | omega | (have := hk _ k; omega))
   | (rcases k with k | k | k <;> first | omega | (have := hk _ k; omega))
   | (rcases k with k | k <;> first | omega | (have := hk _ k; omega))
   | (have := hk _ k; omega)
theorem zf1 {H : zt} {d : Nat} {rn : List Nat} : ∀ {rs : List Nat} {T : zt}, rs.length = T.length → (∀ (i r : Nat), rs[i]? = some r → ∀ o : AObj, T[i]? = some (some o) → H[r]? = some (some (zd8 d rn o))) → zaz H d rn rs T
 | [], [], _, _ => trivial
 | r :: rs, none :: T, hl, h => zf1 (rs := rs) (T := T) (by simpa using hl) fun i r' hr o ho => h (i + 1) r' (by simpa using hr) o (by simpa using ho)
 | r :: rs, some o :: T, hl, h => ⟨h 0 r rfl o rfl, zf1 (rs := rs) (T := T) (by simpa using hl) fun i r' hr o ho => h (i + 1) r' (by simpa using hr) o (by simpa using ho)⟩
 | [], _ :: _, hl, _ => by simp at hl
 | _ :: _, [], hl, _ => by simp at hl
abbrev renE (d : Nat) (rn : List Nat) (e : Value × Nat × AV) : Value × Nat × AV := (e.1, e.2.1, xP d rn e.2.2)
theorem zmO {E : List Ent} {d b x q N : Nat} (hN : E.length = N) : ((zdR 5 0 E).map (renE d (rnK N b x)))[q]? = E[q]?.map fun e => (zdV e.1, q, .ms (if b = q then x else q + 5) 1 0 e.2.length) := by
 rw [List.getElem?_map, zeP]
 cases h : E[q]? with
 | none => rfl
 | some e =>
   have hq : q < N := by rw [← hN]; exact (List.getElem?_eq_some_iff.1 h).1
   simp only [Option.map_some, Nat.zero_add, renE, xP, rnK_get hq]
theorem ren_none {E : List Ent} {p : Placed} {i d : Nat} : (zdR 5 0 (E ++ [(p, [i])])).map (renE d (rnK (E.length + 1) E.length 3)) = zdR 5 0 E ++ [(zdV p, E.length, .ms 3 1 0 1)] := by
 apply List.ext_getElem?
 intro q
 rw [zmO (by simp)]
 rcases Nat.lt_or_ge q E.length with h | h
 · rw [List.getElem?_append_left h, List.getElem?_append_left (by rw [zeO]; exact h), zeP]
   obtain ⟨e, he⟩ := qj h
   rw [he]
   simp [show ¬ E.length = q by omega]
 · rw [List.getElem?_append_right h, List.getElem?_append_right (by rw [zeO]; exact h), zeO]
   rcases Nat.eq_or_lt_of_le h with h | h
   · subst h; simp
   · obtain ⟨m, hm⟩ : ∃ m, q - E.length = m + 1 := ⟨q - E.length - 1, by omega⟩
     rw [hm]; simp
theorem ren_some {E : List Ent} {p : Placed} {l : List Nat} {i d j : Nat} (hj : j < E.length) : (zdR 5 0 (E.set j (p, l ++ [i]))).map (renE d (rnK E.length j 3)) = (zdR 5 0 E).set j (zdV p, j, .ms 3 1 0 (l ++ [i]).length) := by
 apply List.ext_getElem?
 intro q
 rw [zmO (by simp), List.getElem?_set, List.getElem?_set, zeO, zeP]
 by_cases h : j = q
 · subst h
   rw [if_pos rfl, if_pos hj, if_pos rfl, if_pos hj]
   simp
 · simp only [if_neg h]
   cases he : E[q]? with
   | none => rfl
   | some e => simp [h]
theorem zj8 {E : List Ent} {H : zt} {ty d N b : Nat} {rn : List Nat} {e0 : Ent} (hN : (E.set b e0).length = N) (hb : b < N) (hT : ∀ q, q < N → q ≠ b → ∀ e, E[q]? = some e → H[q + 5]? = some (some ⟨ty, 1, false, .p (e.2.map qG)⟩))
  (h3 : H[3]? = some (some ⟨ty, 1, false, .p (e0.2.map qG)⟩)) : zaz H d rn ((List.range' 5 N).set b 3) (ziw ty (E.set b e0)) := by
 refine zf1 (by rw [tail_len, hN]; simp) fun q r hr o ho => ?_
 rw [zaI] at hr
 split at hr
 · rename_i hq
   injection hr with hr
   unfold ziw at ho
   rw [List.getElem?_map, List.getElem?_set] at ho
   by_cases hbq : b = q
   · subst hbq
     rw [if_pos rfl, if_pos (by rw [List.length_set] at hN; omega)] at ho
     injection ho with ho; injection ho with ho; subst ho
     rw [if_pos rfl] at hr; subst hr
     exact h3
   · rw [if_neg hbq] at hr ho
     subst hr
     obtain ⟨e, he, h⟩ := Option.map_eq_some_iff.1 ho
     injection h with h; subst h
     exact hT q hq (fun k => hbq k.symm) e he
 · cases hr
def zcm : Nat → List Ent → List (Value × Nat × AV)
 | _, [] => []
 | b, e :: E => (zdV e.1, b, .pv (.sl 1 (e.2.map qG))) :: zcm (b + 1) E
theorem zki : ∀ {E : List Ent} {b i : Nat}, (zcm b E)[i]? = E[i]?.map fun e => (zdV e.1, b + i, .pv (.sl 1 (e.2.map qG)))
 | [], b, i => by simp [zcm]
 | e :: E, b, 0 => by simp [zcm]
 | e :: E, b, i + 1 => by
   simp only [zcm, List.getElem?_cons_succ]
   rw [zki, show b + 1 + i = b + (i + 1) by omega]
theorem zkh : ∀ {E : List Ent} {b : Nat}, ∀ e ∈ zcm b E, zaw (.arr 5) .i64 e.1 = true
 | [], _, e, h => by cases h
 | x :: E, b, e, h => by
   rcases List.mem_cons.1 h with rfl | h
   · rfl
   · exact zkh e h
theorem xx : ∀ {E : List Ent} {b : Nat}, pureM (zcm b E)
 | [], _, e, h => by cases h
 | x :: E, b, e, h => by
   rcases List.mem_cons.1 h with rfl | h
   · exact ⟨_, rfl⟩
   · exact xx e h
theorem zmN {k : Nat} : ∀ {E : List Ent} {b : Nat} {c : List Value}, ((zcm b E).zip c).map (fun p => (⟨p.1.1, p.2, p.1.2.1⟩ : MapEntry)) = ((zdR k b E).zip c).map fun p => (⟨p.1.1, p.2, p.1.2.1⟩ : MapEntry)
 | [], _, _ => rfl
 | x :: E, b, [] => rfl
 | x :: E, b, v :: c => by
   simp only [zcm, zdR, List.zip_cons_cons, List.map_cons]
   rw [zmN (k := k)]
def mapI (ty : Nat) (E : List Ent) : Option AObj := some ⟨ty, 1, false, .mp (.arr 5) .i64 (zdR 5 0 E) E.length⟩
def zgN (ty : Nat) (E : List Ent) : Option AObj := some ⟨ty, 1, false, .mp (.arr 5) .i64 (zcm 0 E) E.length⟩
def zhw (ty tn : Nat) (E : List Ent) : zt := mapI ty E :: none :: none :: none :: none :: ziw tn E
theorem zeK {ty tn : Nat} {E : List Ent} {j : Nat} {e : Ent} (h : E[j]? = some e) : (zhw ty tn E)[j + 5]? = some (some ⟨tn, 1, false, .p (e.2.map qG)⟩) := zfO h
theorem zns {n nh ty tn s : Nat} {Γ : zw} {E : List Ent} (hs : Cw.get Γ s = some (.mp 0)) (hnh : nh = 0) : zD n nh Γ (zhw ty tn E) [(s, .mp 0)] [zgN ty E] := by
 subst hnh
 refine (zD.shutM (H := zhw ty tn E) (i := 0) (o := ⟨ty, 1, false, .mp (.arr 5) .i64 (zdR 5 0 E) E.length⟩) (rows' := .mp (.arr 5) .i64 (zcm 0 E) E.length) (List.range' 5 E.length) rfl (fun _ => ⟨rfl, zkh⟩) (fun c t => ?_) (fun r j u hu => ?_) (fun id hid => ?_) (fun h => ?_)).trans (zJ [0] rfl rfl ⟨?_, trivial⟩ ⟨hs, trivial⟩)
 · simp only [zdj]
   rw [zmN (k := 5)]
 · simp only [zm] at hu ⊢
   by_cases hj : j = 0
   · subst hj
     rw [if_pos rfl] at hu ⊢
     rw [zki, Option.map_map] at hu
     obtain ⟨e, he, hue⟩ := Option.map_eq_some_iff.1 hu
     simp only [Function.comp_apply] at hue
     subst hue
     refine .inr ⟨.ms (0 + r + 5) 1 0 e.2.length, .pv (.sl 1 (((e.2.map qG).drop 0).take e.2.length)), ?_, ?_, ?_, ?_, ?_⟩
     · rw [zeP, he]; rfl
     · rw [Nat.zero_add]
       have hg := zeK (ty := ty) (tn := tn) he
       simp only [conv, zdt, qv, hg]
       first | done | rfl
     · rw [Nat.zero_add]
       have hg := zeK (ty := ty) (tn := tn) he
       show okC _ 5 (.ms (r + 5) 1 0 e.2.length)
       simp only [okC, hg]
       try simp
     · rw [List.drop_zero, List.take_of_length_le (by simp)]; exact ALe.refl
     · intro id hid
       rw [Nat.zero_add] at hid
       have hg := zeK (ty := ty) (tn := tn) he
       have hid : id ∈ zaW (zhw ty tn E) 5 (.ms (r + 5) 1 0 e.2.length) := hid
       simp only [zaW, hg] at hid
       simp at hid
       have := (List.getElem?_eq_some_iff.1 he).1
       rw [hid, List.mem_range'_1]; omega
   · rw [if_neg hj] at hu; cases hu
 · rw [List.mem_range'_1] at hid
   obtain ⟨e, he⟩ := qj (show id - 5 < E.length by omega)
   have := zeK (ty := ty) (tn := tn) he
   rw [show id - 5 + 5 = id by omega] at this
   exact ⟨_, this⟩
 · rw [List.mem_range'_1] at h; omega
 · have hl : 0 < (app (zhw ty tn E) (frz (zhw ty tn E) (List.range' 5 E.length))).length := by rw [qO]; simp [zhw]
   rw [List.getElem?_set_self hl]
   show some (some _) = some (some (zd8 _ _ _))
   rw [zda xx]
end Go.Proofs.YtihpjcmloecaaaaGreat.Cw
namespace Go.Proofs.YtihpjcmloecaaaaGreat.Cw
open Go Go.Cw Go.Proofs
set_option linter.unusedVariables false
set_option maxRecDepth 100000
def chC (id : Nat) : List Charge → AV
 | [] => .clip 2 []
 | _ :: t => .ms id 2 0 (t.length + 1)
def chO : List Charge → Option AObj
 | [] => none
 | c :: t => some ⟨98, 2, false, .p ((c :: t).map Charge.row)⟩
def zdU (x : AV) (p : Placed) : List AV := [.pv (ei p.time.weeks), .pv (ei p.time.day), .pv (ei p.time.start), .pv (ei p.time.len), .pv (ei p.room), x]
def qa (g : Nat → Nat) : Nat → List Opt → List (List AV)
 | _, [] => []
 | j, o :: l => zdU (chC (g j) o.charges) o.place :: qa g (j + 1) l
def zhl (g : Nat → Nat) (j : Nat) (l : List Opt) : Option AObj := obM 62 6 (qa g j l)
def zam (l : List Opt) : zt := l.map fun o => chO o.charges
def zZ (g : Nat → Nat) : Nat → List (List Opt) → zt
 | _, [] => []
 | j, l :: L => zam l ++ (zhl g j l :: zZ g (j + l.length + 1) L)
def zmU (g : Nat → Nat) (j : Nat) : List Opt → AV
 | [] => .clip 6 []
 | o :: t => .ms (g (j + (t.length + 1))) 6 0 (t.length + 1)
def qy (g : Nat → Nat) : Nat → List (List Opt) → List (List AV)
 | _, [] => []
 | j, l :: L => [zmU g j l] :: qy g (j + l.length + 1) L
def nT : List (List Opt) → Nat
 | [] => 0
 | l :: L => l.length + 1 + nT L
section
variable {g g' : Nat → Nat} {l l' : List Opt} {A B L : List (List Opt)} {j d : Nat} {rn : List Nat} {H : zt}
theorem qQ : ∀ {l : List Opt} {j : Nat}, (qa g j l).length = l.length
 | [], _ => rfl
 | o :: l, j => by simp [qa, qQ (l := l)]
theorem zbf : ∀ {L : List (List Opt)} {j : Nat}, (qy g j L).length = L.length
 | [], _ => rfl
 | o :: l, j => by simp [qy, zbf (L := l)]
theorem qA : (zam l).length = l.length := by simp [zam]
theorem qm : ∀ {L : List (List Opt)} {j : Nat}, (zZ g j L).length = nT L
 | [], _ => rfl
 | l :: L, j => by simp [zZ, nT, qA, qm (L := L)]; omega
theorem zfv : ∀ {A : List (List Opt)}, nT (A ++ B) = nT A + nT B
 | [] => by simp [nT]
 | l :: A => by simp [nT, zfv (A := A)]; omega
theorem nT_one : nT [l] = l.length + 1 := rfl
theorem zoF : nT (A ++ [l]) = nT A + l.length + 1 := by rw [zfv, nT_one]; omega
theorem nT_same : l'.length = l.length → nT (A ++ l' :: B) = nT (A ++ l :: B) := fun h => by rw [zfv, zfv]; simp [nT, h]
theorem zc1 : ∀ {A : List (List Opt)} {j : Nat}, zZ g j (A ++ B) = zZ g j A ++ zZ g (j + nT A) B
 | [], j => by simp [zZ, nT]
 | l :: A, j => by
   simp only [List.cons_append, zZ, zc1 (A := A), nT, List.append_assoc, List.cons_append]
   rw [show j + l.length + 1 + nT A = j + (l.length + 1 + nT A) by omega]
theorem zf4 : ∀ {A : List (List Opt)} {j : Nat}, qy g j (A ++ B) = qy g j A ++ qy g (j + nT A) B
 | [], j => by simp [qy, nT]
 | l :: A, j => by
   simp only [List.cons_append, qy, zf4 (A := A), nT]
   rw [show j + l.length + 1 + nT A = j + (l.length + 1 + nT A) by omega]
theorem zgt : ∀ {l m : List Opt} {j : Nat}, qa g j (l ++ m) = qa g j l ++ qa g (j + l.length) m
 | [], m, j => by simp [qa]
 | o :: l, m, j => by
   simp only [List.cons_append, qa, zgt (l := l), List.length_cons]
   rw [show j + 1 + l.length = j + (l.length + 1) by omega]
theorem zpq {id : Nat} {c : List Charge} : xP d rn (chC id c) = chC (rn.getD id d) c := by cases c <;> rfl
theorem zaO : ∀ {l : List Opt} {j : Nat}, (qa g j l).map (zae d rn) = qa (fun q => rn.getD (g q) d) j l
 | [], _ => rfl
 | o :: l, j => by
   simp only [qa, List.map_cons, zaO (l := l)]
   congr 1
   simp only [zdU, zae, xP, zpq]
theorem zg8 {c : List Charge} : qE d rn (chO c) = chO c := by cases c <;> rfl
theorem zbg : (zam l).map (qE d rn) = zam l := by
 unfold zam
 rw [List.map_map]
 exact List.map_congr_left fun o _ => zg8
theorem zoC {ty z : Nat} {rows : List (List AV)} : qE d rn (obM ty z rows) = obM ty z (rows.map (zae d rn)) := by cases rows <;> rfl
theorem zfV : qE d rn (zhl g j l) = zhl (fun q => rn.getD (g q) d) j l := by
 unfold zhl
 rw [zoC, zaO]
theorem zap : ∀ {L : List (List Opt)} {j : Nat}, (zZ g j L).map (qE d rn) = zZ (fun q => rn.getD (g q) d) j L
 | [], _ => rfl
 | l :: L, j => by simp only [zZ, List.map_append, List.map_cons, zbg, zfV, zap (L := L)]
theorem clsC_ren : xP d rn (zmU g j l) = zmU (fun q => rn.getD (g q) d) j l := by cases l <;> rfl
theorem zaK : ∀ {L : List (List Opt)} {j : Nat}, (qy g j L).map (zae d rn) = qy (fun q => rn.getD (g q) d) j L
 | [], _ => rfl
 | l :: L, j => by simp only [qy, List.map_cons, zaK (L := L), zae, clsC_ren]
theorem xU {id z : Nat} {rows : List (List AV)} : xP d rn (slC id z rows) = slC (rn.getD id d) z (rows.map (zae d rn)) := by
 cases rows with
 | nil => rfl
 | cons a l => simp [slC, xP]
theorem xi : ∀ {l : List Opt} {j : Nat}, (∀ q, j ≤ q → q < j + l.length → g q = g' q) → qa g j l = qa g' j l
 | [], _, _ => rfl
 | o :: l, j, h => by
   simp only [qa]
   rw [h j (by omega) (by simp), xi (l := l) fun q h1 h2 => h q (by omega) (by simp; omega)]
theorem znI (h : ∀ q, j ≤ q → q < j + l.length + 1 → g q = g' q) : zmU g j l = zmU g' j l := by
 cases l with
 | nil => rfl
 | cons o t => simp only [zmU]; rw [h _ (by omega) (by simp)]
theorem xD : ∀ {L : List (List Opt)} {j : Nat}, (∀ q, j ≤ q → q < j + nT L → g q = g' q) → zZ g j L = zZ g' j L
 | [], _, _ => rfl
 | l :: L, j, h => by
   simp only [zZ, zhl]
   rw [xi (l := l) fun q h1 h2 => h q h1 (by simp [nT]; omega), xD (L := L) fun q h1 h2 => h q (by omega) (by simp [nT] at *; omega)]
theorem xG : ∀ {L : List (List Opt)} {j : Nat}, (∀ q, j ≤ q → q < j + nT L → g q = g' q) → qy g j L = qy g' j L
 | [], _, _ => rfl
 | l :: L, j, h => by
   simp only [qy]
   rw [znI (l := l) fun q h1 h2 => h q h1 (by simp [nT]; omega), xG (L := L) fun q h1 h2 => h q (by omega) (by simp [nT] at *; omega)]
theorem zb8 {k m : Nat} (h : ∀ q, k + m ≤ g q) : ∀ {l : List Opt} {j : Nat}, ∀ r ∈ qa g j l, zab k m r = true
 | [], _, r, hr => by cases hr
 | o :: l, j, r, hr => by
   rcases List.mem_cons.1 hr with rfl | hr
   · have hg := h j
     simp only [zdU, zab, far]
     cases hc : o.charges with
     | nil => rfl
     | cons c t => simp [chC, far]; right; omega
   · exact zb8 h (l := l) r hr
theorem zbd {k m : Nat} : ∀ {X Y : zt} {i : Nat}, zcl k m i X → zcl k m (i + X.length) Y → zcl k m i (X ++ Y)
 | [], Y, i, _, h => by simpa using h
 | none :: X, Y, i, h1, h2 => zbd (X := X) (i := i + 1) h1 (by rw [show i + 1 + X.length = i + (none :: X).length by simp; omega]; exact h2)
 | some o :: X, Y, i, h1, h2 => ⟨h1.1, h1.2.1, zbd (X := X) (i := i + 1) h1.2.2 (by rw [show i + 1 + X.length = i + (some o :: X).length by simp; omega]; exact h2)⟩
theorem zdJ {k m : Nat} : ∀ {l : List Opt} {i : Nat}, k + m ≤ i → zcl k m i (zam l)
 | [], _, _ => trivial
 | o :: l, i, h => by
   have ih := zdJ (l := l) (i := i + 1) (k := k) (m := m) (by omega)
   unfold zam at ih ⊢
   rw [List.map_cons]
   cases hc : o.charges with
   | nil => exact ih
   | cons c t => exact ⟨.inr h, trivial, ih⟩
theorem optO_far {k m i : Nat} {Y : zt} (h : ∀ q, k + m ≤ g q) (hi : k + m ≤ i) (hy : zcl k m (i + 1) Y) : zcl k m i (zhl g j l :: Y) := by
 cases l with
 | nil => exact hy
 | cons o t => exact ⟨.inr hi, fun r hr => zb8 h r hr, hy⟩
theorem zaq {k m : Nat} (h : ∀ q, k + m ≤ g q) : ∀ {L : List (List Opt)} {i j : Nat}, k + m ≤ i → zcl k m i (zZ g j L)
 | [], _, _, _ => trivial
 | l :: L, i, j, hi => zbd (zdJ hi) (optO_far h (by omega) (zaq h (by omega)))
theorem zbL {k m : Nat} (h : ∀ q, k + m ≤ g q) : ∀ {L : List (List Opt)} {j : Nat}, ∀ r ∈ qy g j L, zab k m r = true
 | [], _, r, hr => by cases hr
 | l :: L, j, r, hr => by
   rcases List.mem_cons.1 hr with rfl | hr
   · simp only [zab]
     cases l with
     | nil => rfl
     | cons c t => have := h (j + (t.length + 1)); simp [zmU, far]; right; omega
   · exact zbL h (L := L) r hr
theorem opt_at : (zZ g 0 (A ++ l :: B))[nT A + l.length]? = some (zhl g (nT A) l) := by
 rw [zc1, List.getElem?_append_right (by rw [qm]; omega), qm, Nat.add_sub_cancel_left]
 simp only [zZ]
 rw [List.getElem?_append_right (by rw [qA]; exact Nat.le_refl _), qA, Nat.sub_self, Nat.zero_add]
 rfl
theorem zdD : ∀ {l : List Opt} {j i : Nat} {o : Opt}, l[i]? = some o → (qa g j l)[i]? = some (zdU (chC (g (j + i)) o.charges) o.place)
 | [], _, _, _, h => by simp at h
 | x :: l, j, 0, o, h => by simp at h; subst h; rfl
 | x :: l, j, i + 1, o, h => by
   have := zdD (l := l) (j := j + 1) (i := i) (o := o) (by simpa using h)
   rw [show j + 1 + i = j + (i + 1) by omega] at this
   simpa [qa] using this
theorem zl5 {i x : Nat} {o o' : Opt} (h : l[i]? = some o) (hp : o'.place = o.place) : qa (fun q => if j + i = q then x else g q) j (l.set i o') = (qa g j l).set i (zdU (chC x o'.charges) o.place) := by
 apply List.ext_getElem?
 intro q
 have hi := (List.getElem?_eq_some_iff.1 h).1
 rw [List.getElem?_set, qQ]
 rcases Nat.lt_or_ge q l.length with hq | hq
 · obtain ⟨y, hy⟩ := qj hq
   by_cases e : i = q
   · subst e
     rw [if_pos rfl, if_pos hq, zdD (o := o') (by rw [List.getElem?_set_self hq]), if_pos rfl, hp]
   · rw [if_neg e, zdD hy, zdD (o := y) (by rw [List.getElem?_set_ne e]; exact hy), if_neg (by omega)]
 · rw [List.getElem?_eq_none (by rw [qQ, List.length_set]; exact hq)]
   rw [if_neg (by omega), List.getElem?_eq_none (by rw [qQ]; exact hq)]
theorem zez {x : List Nat} (h : zfF x = true) : x.Nodup := by
 rw [List.Nodup, List.pairwise_iff_getElem]
 intro i j hi hj hij e
 have := zeU h i j _ (List.getElem?_eq_getElem hi) (by rw [List.getElem?_eq_getElem hj, e])
 omega
theorem zdG {ids : List Nat} {Y : zt} (hl : ids.length = Y.length) (h : ∀ (q i : Nat), ids[q]? = some i → ∀ o : AObj, (Y.map (qE d rn))[q]? = some (some o) → H[i]? = some (some o)) : zaz H d rn ids Y :=
 zf1 hl fun q i hq o ho => h q i hq _ (by rw [List.getElem?_map, ho]; rfl)
theorem zk6 {F n q d : Nat} {fx : List Nat} (hF : fx.length = F) (hq : q < n) : (fx ++ List.range' F n).getD (q + F) d = q + F := by
 rw [List.getD_eq_getElem?_getD, List.getElem?_append_right (by omega), hF, Nat.add_sub_cancel, List.getElem?_range' hq, Nat.one_mul]
 show F + q = q + F
 omega
theorem zbb {F n : Nat} {fx : List Nat} (h : zfF fx = true) (hx : ∀ a ∈ fx, a < F) : zfF (fx ++ List.range' F n) = true := by
 apply zcO
 rw [List.nodup_append]
 refine ⟨zez h, List.nodup_range', fun a ha b hb e => ?_⟩
 rw [List.mem_range'_1] at hb
 have := hx a ha; omega
theorem zgv {F n q x t d : Nat} {fx : List Nat} (hF : fx.length = F) (ht : t < n) : (fx ++ (List.range' F n).set q x).getD (t + F) d = if q = t then x else t + F := by
 rw [List.getD_eq_getElem?_getD, List.getElem?_append_right (by omega), hF, Nat.add_sub_cancel, zaI, if_pos ht]
 rfl
theorem rnS_allD {F n q x : Nat} {fx : List Nat} (h : fx.Nodup) (hx : ∀ a ∈ fx, (a < F ∧ a ≠ x) ∨ a = q + F) (hxF : x < F) (hq : q < n) : zfF (fx ++ (List.range' F n).set q x) = true := by
 apply zcO
 have hm : ∀ b ∈ (List.range' F n).set q x, b = x ∨ (b ≠ q + F ∧ F ≤ b) := fun b hb => by
  obtain ⟨t, ht⟩ := List.getElem?_of_mem hb
  rw [zaI] at ht
  split at ht
  · injection ht with ht
    split at ht
    · exact .inl ht.symm
    · exact .inr (by omega)
  · cases ht
 rw [List.nodup_append]
 refine ⟨h, ?_, fun a ha b hb e => ?_⟩
 · rw [List.Nodup, List.pairwise_iff_getElem]
   intro i j hi hj hij e
   rw [List.length_set, List.length_range'] at hi hj
   have h1 := zaI (k := F) (N := n) (b := q) (x := x) (j := i)
   have h2 := zaI (k := F) (N := n) (b := q) (x := x) (j := j)
   rw [List.getElem?_eq_getElem (by simpa using hi), if_pos hi] at h1
   rw [List.getElem?_eq_getElem (by simpa using hj), if_pos hj] at h2
   injection h1 with h1
   injection h2 with h2
   rw [e] at h1
   rw [h1] at h2
   split at h2 <;> split at h2 <;> omega
 · have := hx a ha
   have := hm b hb
   omega
end
end Go.Proofs.YtihpjcmloecaaaaGreat.Cw
namespace Go.Proofs.YtihpjcmloecaaaaGreat.Cw
open Go Go.Cw Go.Proofs
set_option linter.unusedVariables false
set_option maxRecDepth 100000
section
variable {g : Nat → Nat} {l : List Opt} {L : List (List Opt)} {j n : Nat} {H : zt}
def HasC (H : zt) (g : Nat → Nat) (j : Nat) (l : List Opt) : Prop := (∀ i o, l[i]? = some o → H[g (j + i)]? = some (chO o.charges)) ∧ H[g (j + l.length)]? = some (zhl g j l)
def HasT (H : zt) (g : Nat → Nat) : Nat → List (List Opt) → Prop
 | _, [] => True
 | j, l :: L => HasC H g j l ∧ HasT H g (j + l.length + 1) L
theorem HasT.of : ∀ {L : List (List Opt)} {j : Nat}, (∀ q, q < nT L → H[g (j + q)]? = (zZ g j L)[q]?) → HasT H g j L
 | [], _, _ => trivial
 | l :: L, j, h => by
   refine ⟨⟨fun i o ho => ?_, ?_⟩, HasT.of fun q hq => ?_⟩
   · have hi := (List.getElem?_eq_some_iff.1 ho).1
     rw [h i (by simp [nT]; omega)]
     simp only [zZ]
     rw [List.getElem?_append_left (by rw [qA]; exact hi)]
     unfold zam
     rw [List.getElem?_map, ho]; rfl
   · rw [h l.length (by simp [nT]; omega)]
     simp only [zZ]
     rw [List.getElem?_append_right (by rw [qA]; exact Nat.le_refl _), qA, Nat.sub_self]; rfl
   · have := h (l.length + 1 + q) (by simp [nT]; omega)
     rw [show j + l.length + 1 + q = j + (l.length + 1 + q) by omega, this]
     simp only [zZ]
     rw [List.getElem?_append_right (by rw [qA]; omega), qA, show l.length + 1 + q - l.length = q + 1 by omega]
     rfl
theorem zpi {id : Nat} {c : List Charge} (h : H[id]? = some (chO c)) : qv H (n + 1) (chC id c) = some (.sl 2 (c.map Charge.row)) := by
 cases c with
 | nil => rfl
 | cons x t =>
   simp only [chC, qv, h, chO]
   simp [List.take_of_length_le]
theorem ok_ch {id : Nat} {c : List Charge} (h : H[id]? = some (chO c)) : okC H (n + 1) (chC id c) := by
 cases c with
 | nil => exact True.intro
 | cons x t =>
   simp only [chC, okC, h, chO]
   simp
theorem zib : ∀ {l : List Opt} {j : Nat}, (∀ i o, l[i]? = some o → H[g (j + i)]? = some (chO o.charges)) → zav (zav (qv H (n + 1))) (qa g j l) = some (l.map Opt.row)
 | [], _, _ => rfl
 | o :: l, j, h => by
   have ih := zib (l := l) (j := j + 1) fun i o ho => by rw [show j + 1 + i = j + (i + 1) by omega]; exact h (i + 1) o (by simpa using ho)
   have h0 := h 0 o rfl
   rw [Nat.add_zero] at h0
   simp only [qa, zav, ih, zdU, zpi (n := n) h0, qv, List.map_cons]
   rfl
theorem zmf : ∀ {l : List Opt} {j : Nat}, (∀ i o, l[i]? = some o → H[g (j + i)]? = some (chO o.charges)) → ∀ r ∈ qa g j l, za2 (okC H (n + 1)) r
 | [], _, _, r, hr => by cases hr
 | o :: l, j, h, r, hr => by
   have h0 := h 0 o rfl
   rw [Nat.add_zero] at h0
   rcases List.mem_cons.1 hr with rfl | hr
   · have h1 := ok_ch (n := n) h0
     simp only [zdU, za2]
     cases hc : o.charges with
     | nil => exact ⟨True.intro, True.intro⟩
     | cons x t => rw [hc] at h1; exact ⟨h1, True.intro⟩
   · exact zmf (l := l) (j := j + 1) (fun i o ho => by rw [show j + 1 + i = j + (i + 1) by omega]; exact h (i + 1) o (by simpa using ho)) r hr
theorem zph (h : HasC H g j l) : qv H (n + 2) (zmU g j l) = some (.sl 6 (l.map Opt.row)) := by
 cases l with
 | nil => rfl
 | cons o t =>
   have h1 := zib (n := n) h.1
   have h2 := h.2
   have hl : (qa g j (o :: t)).length = t.length + 1 := by rw [qQ]; rfl
   unfold zhl at h2
   rw [zbV (by rw [hl]; omega)] at h2
   simp only [List.length_cons] at h2
   simp only [zmU, qv, h2]
   rw [List.drop_zero, List.take_of_length_le (by rw [hl]; exact Nat.le_refl _), h1]
theorem ok_clsC (h : HasC H g j l) : okC H (n + 2) (zmU g j l) := by
 cases l with
 | nil => exact True.intro
 | cons o t =>
   have h1 := zmf (n := n) h.1
   have h2 := h.2
   have hl : (qa g j (o :: t)).length = t.length + 1 := by rw [qQ]; rfl
   unfold zhl at h2
   rw [zbV (by rw [hl]; omega)] at h2
   simp only [List.length_cons] at h2
   simp only [zmU, okC, h2]
   refine ⟨by rw [hl]; omega, fun r hr => h1 r ?_⟩
   exact List.mem_of_mem_drop (List.mem_of_mem_take hr)
theorem zkj : ∀ {L : List (List Opt)} {j : Nat}, HasT H g j L → zav (zav (qv H (n + 2))) (qy g j L) = some (L.map zA)
 | [], _, _ => rfl
 | l :: L, j, h => by
   simp only [qy, zav, zph (n := n) h.1, zkj (L := L) h.2, List.map_cons]
   rfl
theorem zoB : ∀ {L : List (List Opt)} {j : Nat}, HasT H g j L → ∀ r ∈ qy g j L, za2 (okC H (n + 2)) r
 | [], _, _, r, hr => by cases hr
 | l :: L, j, h, r, hr => by
   rcases List.mem_cons.1 hr with rfl | hr
   · have h1 := ok_clsC (n := n) h.1
     cases l with
     | nil => exact ⟨True.intro, True.intro⟩
     | cons x t => exact ⟨h1, True.intro⟩
   · exact zoB (L := L) h.2 r hr
theorem conv_all {id ty : Nat} (h : HasT H g 0 L) (ho : H[id]? = some (obM ty 1 (qy g 0 L))) : qv H (n + 3) (slC id 1 (qy g 0 L)) = some (.sl 1 (L.map zA)) := by
 cases L with
 | nil => rfl
 | cons l L =>
   have h1 := zkj (n := n) h
   have hl : (qy g 0 (l :: L)).length = (l :: L).length := zbf
   rw [zc4 (by rw [hl]; simp)]
   rw [zbV (by rw [hl]; simp)] at ho
   simp only [qv, ho]
   rw [List.drop_zero, List.take_of_length_le (Nat.le_refl _), h1]
theorem ok_all {id ty : Nat} (h : HasT H g 0 L) (ho : H[id]? = some (obM ty 1 (qy g 0 L))) : okC H (n + 3) (slC id 1 (qy g 0 L)) := by
 cases L with
 | nil => exact True.intro
 | cons l L =>
   have h1 := zoB (n := n) h
   have hl : (qy g 0 (l :: L)).length = (l :: L).length := zbf
   rw [zc4 (by rw [hl]; simp)]
   rw [zbV (by rw [hl]; simp)] at ho
   simp only [okC, ho]
   refine ⟨by omega, fun r hr => h1 r ?_⟩
   exact List.mem_of_mem_drop (List.mem_of_mem_take hr)
end
end Go.Proofs.YtihpjcmloecaaaaGreat.Cw
namespace Go.Proofs.YtihpjcmloecaaaaGreat.Cw
open Go Go.Cw Go.Proofs
set_option linter.unusedVariables false
theorem pbt {c : Prop} {α : Type} {a b : α} (h : c) : (if pB c = true then a else b) = a := if_pos (zaS h)
theorem pbf {c : Prop} {α : Type} {a b : α} (h : ¬ c) : (if pB c = true then a else b) = b := if_neg (by rw [zaj h]; simp)
noncomputable def zn0 : List Ent → Placed → Nat → List Ent
 | [], p, i => [(p, [i])]
 | e :: E, p, i => if pB (e.1 = p) then (e.1, e.2 ++ [i]) :: E else e :: zn0 E p i
theorem zdz {p : Placed} {i : Nat} : ∀ {E : List Ent}, ((∀ e ∈ E, e.1 ≠ p) ∧ zn0 E p i = E ++ [(p, [i])]) ∨ ∃ (j : Nat) (l : List Nat), E[j]? = some (p, l) ∧ (∀ k, k < j → ∀ e, E[k]? = some e → e.1 ≠ p) ∧ zn0 E p i = E.set j (p, l ++ [i])
 | [] => .inl ⟨fun e h => (by cases h), rfl⟩
 | e :: E => by
   by_cases h : e.1 = p
   · refine .inr ⟨0, e.2, by rw [← h]; rfl, fun k hk => by omega, ?_⟩
     simp only [zn0]
     rw [pbt h, h]; rfl
   · rcases zdz (p := p) (i := i) (E := E) with ⟨h1, h2⟩ | ⟨j, l, h1, h2, h3⟩
     · refine .inl ⟨fun x hx => ?_, ?_⟩
       · rcases List.mem_cons.1 hx with rfl | hx
         · exact h
         · exact h1 x hx
       · simp only [zn0]
         rw [pbf h, h2]; rfl
     · refine .inr ⟨j + 1, l, by simpa using h1, fun k hk x hx => ?_, ?_⟩
       · cases k with
         | zero => simp at hx; subst hx; exact h
         | succ k => exact h2 k (by omega) x (by simpa using hx)
       · simp only [zn0]
         rw [pbf h, h3]; rfl
noncomputable def zdk (p : Placed) : List Ent → List Nat
 | [] => []
 | e :: E => if pB (e.1 = p) then e.2 else zdk p E
theorem zmo {p q : Placed} {i : Nat} : ∀ {E : List Ent}, zdk q (zn0 E p i) = if pB (p = q) then zdk q E ++ [i] else zdk q E
 | [] => by
   show (if pB (p = q) = true then [i] else []) = if pB (p = q) then [] ++ [i] else []
   rfl
 | e :: E => by
   have ih := zmo (p := p) (q := q) (i := i) (E := E)
   show zdk q (if pB (e.1 = p) = true then (e.1, e.2 ++ [i]) :: E else e :: zn0 E p i) = if pB (p = q) = true then (if pB (e.1 = q) = true then e.2 else zdk q E) ++ [i] else (if pB (e.1 = q) = true then e.2 else zdk q E)
   by_cases h : e.1 = p
   · rw [pbt h]
     show (if pB (e.1 = q) = true then e.2 ++ [i] else zdk q E) = _
     by_cases hq : p = q
     · rw [pbt (h.trans hq), pbt hq, pbt (h.trans hq)]
     · have hn : ¬ e.1 = q := fun k => hq (h.symm.trans k)
       rw [pbf hn, pbf hq, pbf hn]
   · rw [pbf h]
     show (if pB (e.1 = q) = true then e.2 else zdk q (zn0 E p i)) = _
     by_cases hq : e.1 = q
     · have hpq : ¬ p = q := fun k => h (hq.trans k.symm)
       rw [pbt hq, pbf hpq, pbt hq]
     · rw [pbf hq, ih, pbf hq]
theorem zjX {p : Placed} : ∀ {E : List Ent}, (∀ e ∈ E, e.1 ≠ p) → zdk p E = []
 | [], _ => rfl
 | e :: E, h => by
   simp only [zdk]
   rw [pbf (h e (by simp)), zjX fun x hx => h x (by simp [hx])]
theorem zjW {p : Placed} {l : List Nat} : ∀ {E : List Ent} {j : Nat}, E[j]? = some (p, l) → (∀ k, k < j → ∀ e, E[k]? = some e → e.1 ≠ p) → zdk p E = l
 | [], j, h, _ => by simp at h
 | e :: E, 0, h, _ => by
   simp only [List.getElem?_cons_zero, Option.some.injEq] at h
   subst h
   show (if pB (p = p) = true then l else zdk p E) = l
   exact pbt rfl
 | e :: E, j + 1, h, hd => by
   simp only [zdk]
   rw [pbf (hd 0 (by omega) e rfl)]
   exact zjW (by simpa using h) fun k hk x hx => hd (k + 1) (by omega) x (by simpa using hx)
noncomputable def zbC (l : List Opt) : Nat → List Ent
 | 0 => []
 | n + 1 => match l[n]? with
   | some o => zn0 (zbC l n) o.place n
   | none => zbC l n
noncomputable def qD (l : List Opt) (p : Placed) (i : Nat) : Bool := match l[i]? with
 | some o => pB (o.place = p)
 | none => false
noncomputable def qk (l : List Opt) (p : Placed) (n : Nat) : List Nat := (List.range n).filter (qD l p)
theorem zmn {l : List Opt} {p : Placed} : ∀ {n : Nat}, zdk p (zbC l n) = qk l p n
 | 0 => rfl
 | n + 1 => by
   have ih := zmn (l := l) (p := p) (n := n)
   unfold qk at ih ⊢
   rw [List.range_succ, List.filter_append, ← ih]
   simp only [zbC]
   cases h : l[n]? with
   | none => simp [qD, h]
   | some o =>
     simp only [zmo]
     by_cases hp : o.place = p
     · rw [pbt hp]
       simp [qD, h, zaS hp]
     · rw [pbf hp]
       simp [qD, h, zaj hp]
theorem grp_succ {l : List Opt} {n : Nat} {o : Opt} (h : l[n]? = some o) : zbC l (n + 1) = zn0 (zbC l n) o.place n := by simp only [zbC, h]
theorem add_len {p : Placed} {i : Nat} {E : List Ent} : (zn0 E p i).length ≤ E.length + 1 := by
 rcases zdz (p := p) (i := i) (E := E) with ⟨_, h⟩ | ⟨j, l, _, _, h⟩
 · rw [h]; simp
 · rw [h]; simp
theorem zo1 {l : List Opt} : ∀ {n : Nat}, (zbC l n).length ≤ n
 | 0 => Nat.le_refl _
 | n + 1 => by
   have ih := zo1 (l := l) (n := n)
   simp only [zbC]
   split
   · have := add_len (p := ‹Opt›.place) (i := n) (E := zbC l n); omega
   · omega
theorem zkb {l : List Opt} : ∀ {n : Nat}, ∀ e ∈ zbC l n, e.2.length ≤ n
 | 0, e, h => by cases h
 | n + 1, e, h => by
   have ih := zkb (l := l) (n := n)
   simp only [zbC] at h
   split at h
   · rename_i o _
     rcases zdz (p := o.place) (i := n) (E := zbC l n) with ⟨_, h2⟩ | ⟨j, l2, h1, _, h2⟩
     · rw [h2] at h
       rcases List.mem_append.1 h with h | h
       · have := ih e h; omega
       · rw [List.mem_singleton.1 h]; simp
     · rw [h2] at h
       rcases List.mem_or_eq_of_mem_set h with h | h
       · have := ih e h; omega
       · have := ih _ (List.mem_of_getElem? h1)
         rw [h]; simp at this ⊢; omega
   · have := ih e h; omega
end Go.Proofs.YtihpjcmloecaaaaGreat.Cw
namespace Go.Proofs.YtihpjcmloecaaaaGreat.Cw
open Go Go.Cw Go.Proofs
set_option linter.unusedVariables false
set_option maxRecDepth 100000
set_option maxHeartbeats 8000000
def keyA (p : Placed) : AV := .agg [.pv (ei p.time.weeks), .pv (ei p.time.day), .pv (ei p.time.start), .pv (ei p.time.len), .pv (ei p.room)]
theorem zhf (p : Placed) : zH Tryz.prog 92 [ag p.row] (fun r => r = keyA p) := by
 refine zh tok mixed 17 rfl (fn := Tryz.f92) (c := Tryz.f92.body.getD .skip) (by kernel_rfl) (by kernel_rfl) (by kernel_rfl) rfl 0 rfl ?_
 repeat' (first | refine o1 ?_ | refine o2 ?_ | refine k1 ?_ | refine k2 ?_ | refine k7 ?_ | refine And.intro ?_ ?_ | (change zx _ _ _ _; refine zd rfl trivial ?_) | exact (by kernel_rfl : zn _ _ = true) | fail)
 rfl
theorem zpG (l : List Opt) (hl : l.length ≤ 1000) : qf Tryz.prog 45 [.pv (.sl 6 (l.map Opt.row))] [] (fun r H' => r = .mp 0 ∧ H' = [zgN 85 (zbC l l.length)]) := by
 refine zh tok mixed 28 rfl (fn := Tryz.f45) (c := Tryz.f45.body.getD .skip) (by kernel_rfl) (by kernel_rfl) (by kernel_rfl) rfl 0 rfl ?_
 repeat' (first | refine o1 ?_ | refine o2 ?_ | refine k1 ?_ | refine k2 ?_ | refine k4 ?_ | refine za ?_ | fail)
 refine zB (fun i : Nat => [(3, .mp 0), (7, .pv (.sl 6 (l.map Opt.row))), (8, zg .i64 l.length), (9, zg .i64 i)]) (fun i => zhw 85 3 (zbC l i)) (fun i => i ≤ l.length) (fun i => l.length - i) 0 (Nat.zero_le _) ?_ ?_
 · exact zJ [0, 6, 7, 8, 9] rfl rfl ⟨rfl, trivial⟩ (by repeat' (first | exact trivial | exact rfl | refine And.intro ?_ ?_))
 intro i hi
 have hG : ∀ {Γ : zw} {H : zt}, H = zhw 85 3 (zbC l l.length) → Cw.get Γ 3 = some (.mp 0) → zD 28 0 Γ H [(3, .mp 0)] [zgN 85 (zbC l l.length)] := fun e h => by subst e; exact zns h rfl
 unfold zhw
 have hfarE := fun k m hk => zmP (k := k) (m := m) (E := zbC l i) (b := 0) hk
 have hfarT := fun k m hk => zlX (ty := 3) (k := k) (m := m) (E := zbC l i) (i0 := 5) hk
 generalize hT : ziw 3 (zbC l i) = T at *
 rcases Nat.lt_or_ge i l.length with hlt | hge
 · obtain ⟨o, ho⟩ := qj hlt
   have hgs := grp_succ ho
   have hgl := zo1 (l := l) (n := i)
   have hsm := zkb (l := l) (n := i)
   rcases zdz (p := o.place) (i := i) (E := zbC l i) with ⟨hnone, hadd⟩ | ⟨j, m, hj, hdis, hadd⟩
   · have hget := zgZ (k := 5) (b := 0) hnone
     have hput := fun v ck => zl9 (k := 5) (b := 0) (v := v) (ck := ck) hnone
     have hck := fun ck => ck_none (k := 5) (b := 0) (ck := ck) hnone
     generalize zbC l i = E at *
     refine zq ?_
     repeat' (first | ((show zU _ _ _ _ (.region 4 _ _) _ _ _; refine zN (k := 1) (qZ.room (Nat.zero_le _) (Nat.le_of_ble_eq_true rfl) (fun _ _ h => h) rfl ⟨.inl (by decide), hfarE 1 1 (by decide), hfarT 1 1 (by decide)⟩) ?_)) | ((show zU _ _ _ _ (.region 5 _ _) _ _ _; refine xy (k := 2) (qZ.room (Nat.zero_le _) (Nat.le_of_ble_eq_true rfl) (fun _ _ h => h) rfl ⟨.inl (by decide), hfarE 2 2 (by decide), .inl (by decide), rfl, hfarT 2 2 (by decide)⟩) ?_)) | ((change zP T _; refine zq ?_)) | (refine zi none hget ?_) | refine o1 ?_ | refine o2 ?_ | refine k1 ?_ | refine k2 ?_ | refine k3 ?_ | refine k4 ?_ | refine k6 ?_ | refine And.intro ?_ ?_ | refine o3 ?_ | refine o4 ?_ | (intro h; first | exact Bool.noConfusion h | exact nz _ h | exact nl h | (simp at h; done) | (simp at h; first | (exfalso; omega) | skip) | skip) | (refine (?_ : z8 _ = zb _); rfl) | exact Nat.le_of_ble_eq_true rfl | exact (by kernel_rfl : zn _ _ = true) | refine xm (xZ ?_) | refine zc (by omega) (by omega) ?_ | refine ⟨_, _, (by first | rfl | assumption), zf (by assumption), ?_⟩ | refine zi _ (qb rfl) (zi 1 rfl ?_) | (change zI _ _ _ _ _; refine zF rfl (by repeat' (first | trivial | refine And.intro ?_ ?_ | (show 0 + _ ≤ List.length _; simp))) zW.refl (zhf o.place) rfl ?_) | fail)
     refine ⟨i + 1, hlt, by omega, ?_⟩
     rw [hgs, hadd]
     refine zJ (rnK (E.length + 1) E.length 3) (zl7 (by decide) (by decide)) rfl ⟨?_, ?_⟩ (by repeat' (first | exact trivial | exact rfl | refine And.intro ?_ ?_))
     · show some (some (⟨_, _, _, .mp _ _ (zjp (zdV o.place) _ _ _) (ckM (zdV o.place) _ _)⟩ : AObj)) = some (some ⟨_, _, _, .mp _ _ ((zdR 5 0 (E ++ [(o.place, [i])])).map (renE _ _)) _⟩)
       rw [hput, hck, ren_none, List.length_append]
       rfl
     · have hset : E ++ [(o.place, [i])] = (E ++ [(o.place, [])]).set E.length (o.place, [i]) := by simp
       rw [hset]
       refine zj8 (by simp) (by omega) (fun q hq hne e he => ?_) rfl
       rw [List.getElem?_append_left (by omega)] at he
       show T[q]? = _
       rw [← hT]; exact zfO he
   · have hget := zgY (k := 5) (b := 0) hj hdis
     have hput := fun v ck => zl8 (k := 5) (b := 0) (v := v) (ck := ck) hj hdis
     have hck := fun ck => ck_some (k := 5) (b := 0) (ck := ck) hj hdis
     have hTj : T[j]? = some (some ⟨3, 1, false, .p (m.map qG)⟩) := by rw [← hT]; exact zfO hj
     have hm : m.length ≤ i := hsm _ (List.mem_of_getElem? hj)
     generalize zbC l i = E at *
     rw [Nat.zero_add] at hget
     refine zq ?_
     repeat' (first | ((show zU _ _ _ _ (.region 4 _ _) _ _ _; refine zN (k := 1) (qZ.room (Nat.zero_le _) (Nat.le_of_ble_eq_true rfl) (fun _ _ h => h) rfl ⟨.inl (by decide), hfarE 1 1 (by decide), hfarT 1 1 (by decide)⟩) ?_)) | ((show zU _ _ _ _ (.region 5 _ _) _ _ _; refine xy (k := 2) (qZ.room (Nat.zero_le _) (Nat.le_of_ble_eq_true rfl) (fun _ _ h => h) rfl ⟨.inl (by decide), hfarE 2 2 (by decide), .inl (by decide), rfl, hfarT 2 2 (by decide)⟩) ?_)) | ((change zP T _; refine zq ?_)) | (refine zi (some (.ms (j + 5) 1 0 m.length)) hget ?_) | (refine zi (Rows.p ((m ++ [i]).map qG)) (by simp [qG, ei]) (zi (m ++ [i]).length (by simp [zb]) ?_)) | ((change zP (List.set T _ none) _; refine zq ?_)) | refine o1 ?_ | refine o2 ?_ | refine k1 ?_ | refine k2 ?_ | refine k3 ?_ | refine k4 ?_ | refine k6 ?_ | refine And.intro ?_ ?_ | refine o3 ?_ | refine o4 ?_ | (intro h; first | exact Bool.noConfusion h | exact nz _ h | exact nl h | (simp at h; done) | (simp at h; first | (exfalso; omega) | skip) | skip) | (refine (?_ : z8 _ = zb _); rfl) | exact (by kernel_rfl : zn _ _ = true) | refine xm (xZ ?_) | refine zc (by omega) (by omega) ?_ | refine ⟨_, _, (by first | rfl | assumption), zf (by assumption), ?_⟩ | (refine (?_ : _ ≤ 140737488355328); simp [zb] <;> omega) | (refine (?_ : _ ≤ 9223372036854775807); simp [zb] <;> omega) | (refine (?_ : _ = zb _); simp [zb] <;> omega) | (change zI _ _ _ _ _; refine zF rfl (by repeat' (first | trivial | refine And.intro ?_ ?_ | (show 0 + _ ≤ List.length _; simp))) zW.refl (zhf o.place) rfl ?_) | (((conv => whnf); simp only [List.getElem?_cons_succ, hTj])) | fail)
     have hjl : j < E.length := (List.getElem?_eq_some_iff.1 hj).1
     refine ⟨i + 1, hlt, by omega, ?_⟩
     rw [hgs, hadd]
     refine zJ (rnK E.length j 3) (zl7 (by decide) (by decide)) rfl ⟨?_, ?_⟩ (by repeat' (first | exact trivial | exact rfl | refine And.intro ?_ ?_))
     · show some (some (⟨_, _, _, .mp _ _ (zjp (zdV o.place) _ _ _) (ckM (zdV o.place) _ _)⟩ : AObj)) = some (some ⟨_, _, _, .mp _ _ ((zdR 5 0 (E.set j (o.place, m ++ [i]))).map (renE _ _)) _⟩)
       rw [hput, hck, ren_some hjl, List.length_set, Nat.zero_add]
     · refine zj8 (by simp) hjl (fun q hq hne e he => ?_) rfl
       show (T.set j none)[q]? = _
       rw [List.getElem?_set_ne (fun k => hne k.symm), ← hT]; exact zfO he
 · obtain rfl : i = l.length := by omega
   refine zq ?_
   repeat' (first | ((show zU _ _ _ _ (.region 7 _ _) _ _ _; refine zfz (hG (by rw [← hT]; rfl) rfl) ?_)) | refine o1 ?_ | refine o2 ?_ | refine k1 ?_ | refine k2 ?_ | refine k3 ?_ | refine k7 ?_ | refine k8 ?_ | refine And.intro ?_ ?_ | (intro h; first | exact Bool.noConfusion h | exact nz _ h | exact nl h | (simp at h; done) | (simp at h; first | (exfalso; omega) | skip) | skip) | fail)
   exact qC [0] [zgN 85 (zbC l l.length)] rfl rfl ⟨(by show some (some _) = some (some (zd8 _ _ _)); rw [zda xx]), trivial⟩ (r' := .mp 0) rfl ⟨rfl, rfl⟩
end Go.Proofs.YtihpjcmloecaaaaGreat.Cw
namespace Go.Proofs.YtihpjcmloecaaaaGreat.Cw
open Go Go.Cw Go.Proofs
set_option linter.unusedVariables false
theorem zaJ {l : List Opt} {i : Nat} {o : Opt} {p : Placed} (h : l[i]? = some o) (hp : o.place = p) : qD l p i = true := by unfold qD; rw [h]; exact zaS hp
theorem zfT {l : List Opt} {i : Nat} {o : Opt} {p : Placed} (h : l[i]? = some o) (hp : ¬ o.place = p) : qD l p i = false := by unfold qD; rw [h]; exact zaj hp
theorem zdF {l : List Opt} {i : Nat} {p : Placed} : qD l p i = true ↔ ∃ o, l[i]? = some o ∧ o.place = p := by
 unfold qD
 cases h : l[i]? with
 | none => simp
 | some o =>
   simp only [Option.some.injEq, exists_eq_left']
   by_cases hp : o.place = p
   · simp [zaS hp, hp]
   · simp [zaj hp, hp]
theorem zb5 {l : List Opt} {p : Placed} {n i : Nat} : i ∈ qk l p n ↔ i < n ∧ qD l p i = true := by
 unfold qk; rw [List.mem_filter, List.mem_range]
theorem zaN {l : List Opt} {p : Placed} {n : Nat} (h : qD l p n = true) : qk l p (n + 1) = qk l p n ++ [n] := by
 unfold qk; rw [List.range_succ, List.filter_append]; simp [h]
theorem zbF {l : List Opt} {p : Placed} {n : Nat} (h : qD l p n = false) : qk l p (n + 1) = qk l p n := by
 unfold qk; rw [List.range_succ, List.filter_append]; simp [h]
theorem zc5 {l : List Opt} {p : Placed} : ∀ {n : Nat}, (qk l p n).length ≤ n
 | 0 => Nat.le_refl _
 | n + 1 => by
   have ih := zc5 (l := l) (p := p) (n := n)
   cases h : qD l p n with
   | true => rw [zaN h]; simp; exact ih
   | false => rw [zbF h]; omega
theorem zd5 {l : List Opt} {p : Placed} {i : Nat} (h : qD l p i = true) : ∀ {n : Nat}, i < n → ∃ r, qk l p n = qk l p i ++ i :: r
 | n + 1, hn => by
   rcases Nat.eq_or_lt_of_le (Nat.le_of_lt_succ hn) with e | e
   · subst e; exact ⟨[], zaN h⟩
   · obtain ⟨r, hr⟩ := zd5 h e
     cases hk : qD l p n with
     | true => exact ⟨r ++ [n], by rw [zaN hk, hr]; simp⟩
     | false => exact ⟨r, by rw [zbF hk, hr]⟩
 | 0, hn => by omega
theorem zcv {l : List Opt} {p : Placed} {i n : Nat} (h : qD l p i = true) (hn : i < n) : (qk l p n)[(qk l p i).length]? = some i := by
 obtain ⟨r, hr⟩ := zd5 h hn
 rw [hr, List.getElem?_append_right (Nat.le_refl _)]; simp
def qU (p : Placed) (r : Int) : Placed := ⟨p.time, r⟩
noncomputable def za3 (l : List Opt) (i : Nat) (r : Int) : Option Nat := match l[i]? with
 | some o => (qk l (qU o.place r) l.length)[(qk l o.place i).length]?
 | none => none
theorem zmu {l : List Opt} {i j : Nat} {r : Int} (h : za3 l i r = some j) : j < l.length := by
 unfold za3 at h
 split at h
 · exact (zb5.1 (List.mem_of_getElem? h)).1
 · cases h
theorem img_self {l : List Opt} {i : Nat} {o : Opt} (h : l[i]? = some o) : za3 l i o.place.room = some i := by
 unfold za3
 rw [h]
 exact zcv (zaJ h rfl) (List.getElem?_eq_some_iff.1 h).1
def zfA (r a b : Int) : Int := if r = a then b else if r = b then a else r
noncomputable def zc3 (l : List Opt) (a b : Int) (i : Nat) : Option Nat := match l[i]? with
 | some o => za3 l i (zfA o.place.room a b)
 | none => none
def okO (l : List Opt) (a b : Int) (i : Nat) : Prop := ∃ (j : Nat) (o q : Opt), zc3 l a b i = some j ∧ l[i]? = some o ∧ l[j]? = some q ∧ o.charges = q.charges
noncomputable def xC (l : List Opt) (a b : Int) (n : Nat) : List Nat := (List.range n).filterMap (zc3 l a b)
def zcX (l : List Opt) (a b : Int) : Prop := ∀ i, i < l.length → okO l a b i
noncomputable def zlp (l : List Opt) (a b : Int) : List Nat := if pB (zcX l a b) then xC l a b l.length else []
theorem zaV {l : List Opt} {a b : Int} {n j : Nat} (h : zc3 l a b n = some j) : xC l a b (n + 1) = xC l a b n ++ [j] := by
 unfold xC; rw [List.range_succ, List.filterMap_append]; simp [h]
theorem imgs_len {l : List Opt} {a b : Int} {n : Nat} : (xC l a b n).length ≤ n := by
 unfold xC
 have := List.length_filterMap_le (zc3 l a b) (List.range n)
 rwa [List.length_range] at this
theorem zke {p : Placed} : ∀ {E : List Ent} {b : Nat}, (∀ e ∈ E, e.1 ≠ p) → zfi (zdV p) (zcm b E) = none
 | [], b, _ => rfl
 | e :: E, b, h => by
   simp only [zcm, zfi]
   rw [zh1 fun q => h e (by simp) q.symm]
   exact zke fun e he => h e (by simp [he])
theorem zkd {p : Placed} {l : List Nat} : ∀ {E : List Ent} {b j : Nat}, E[j]? = some (p, l) → (∀ i, i < j → ∀ e, E[i]? = some e → e.1 ≠ p) → zfi (zdV p) (zcm b E) = some (.pv (.sl 1 (l.map qG)))
 | [], b, j, h, _ => by simp at h
 | e :: E, b, 0, h, _ => by
   simp only [List.getElem?_cons_zero, Option.some.injEq] at h
   subst h
   simp only [zcm, zfi]
   rw [ziX.2 rfl]; rfl
 | e :: E, b, j + 1, h, hd => by
   simp only [zcm, zfi]
   rw [zh1 fun q => hd 0 (by omega) e rfl q.symm]
   exact zkd (E := E) (b := b + 1) (j := j) (by simpa using h) fun i hi e he => hd (i + 1) (by omega) e (by simpa using he)
theorem zmE {p : Placed} {E : List Ent} : (zfi (zdV p) (zcm 0 E) = none ∧ zdk p E = []) ∨ zfi (zdV p) (zcm 0 E) = some (.pv (.sl 1 ((zdk p E).map qG))) := by
 rcases zdz (p := p) (i := 0) (E := E) with ⟨h, _⟩ | ⟨j, l, h1, h2, _⟩
 · exact .inl ⟨zke h, zjX h⟩
 · exact .inr (by rw [zkd h1 h2, zjW h1 h2])
end Go.Proofs.YtihpjcmloecaaaaGreat.Cw
namespace Go.Proofs.YtihpjcmloecaaaaGreat.Cw
open Go Go.Cw Go.Proofs
set_option linter.unusedVariables false
set_option maxRecDepth 100000
set_option maxHeartbeats 8000000
theorem nat_ints {l : List Nat} : (l.map fun n => ((n : Nat) : Int)).map (fun n => [ei n]) = l.map qG := by rw [List.map_map]; rfl
theorem c_idxNat (l : List Nat) (n : Nat) (hl : l.length ≤ 100000) : zH Tryz.prog 93 [.pv (.sl 1 (l.map qG)), zg .i64 n] (fun r => r = zg .i64 (idxN (l.map fun n => ((n : Nat) : Int)) n)) := by
 have := zm1 (l.map fun n => ((n : Nat) : Int)) n (by rw [List.length_map]; exact hl)
 unfold qV at this
 rw [nat_ints] at this
 exact this
theorem idx_at {l : List Opt} {p : Placed} {i n : Nat} (h : qD l p i = true) (hn : i < n) : idxN ((qk l p n).map fun n => ((n : Nat) : Int)) i = ((qk l p i).length : Int) := by
 unfold idxN
 refine zeb (i := (qk l p i).length) (x := ((i : Nat) : Int)) (fun j hj q hq => ?_) ?_ (zaS rfl)
 · obtain ⟨r, hr⟩ := zd5 h hn
   rw [hr, List.getElem?_map, List.getElem?_append_left hj] at hq
   obtain ⟨m, hm, rfl⟩ := Option.map_eq_some_iff.1 hq
   have := (zb5.1 (List.mem_of_getElem? hm)).1
   exact zaj (by omega)
 · rw [List.getElem?_map, zcv h hn]; rfl
def imgA : Option Nat → AV
 | some j => .tup [zg .i64 j, zo true]
 | none => .tup [zg .i64 (0 : Nat), zo false]
theorem c_image (l : List Opt) (i : Nat) (r : Int) (hl : l.length ≤ 1000) (hi : i < l.length) : qf Tryz.prog 46 [.mp 0, .pv (.sl 6 (l.map Opt.row)), zg .i64 i, zg .i64 r] [zgN 85 (zbC l l.length)] (fun a H' => a = imgA (za3 l i r) ∧ H' = [zgN 85 (zbC l l.length)]) := by
 obtain ⟨o, ho⟩ := qj hi
 have hlk := fun p => zmn (l := l) (p := p) (n := l.length)
 have hp := zaJ ho rfl
 have hidx := idx_at hp hi
 have hlen := fun p => zc5 (l := l) (p := p) (n := l.length)
 have hci := c_idxNat (qk l o.place l.length) i (by have := hlen o.place; omega)
 rw [hidx] at hci
 have him : za3 l i r = (qk l (qU o.place r) l.length)[(qk l o.place i).length]? := by unfold za3; rw [ho]
 rw [him]
 have hne : qk l o.place l.length ≠ [] := fun e => by have := zcv hp hi; rw [e] at this; simp at this
 have hg1 : zfi (zdV o.place) (zcm 0 (zbC l l.length)) = some (.pv (.sl 1 ((qk l o.place l.length).map qG))) := by
  rcases zmE (p := o.place) (E := zbC l l.length) with ⟨_, h⟩ | h
  · rw [hlk] at h; exact absurd h hne
  · rw [hlk] at h; exact h
 have hl2 := zc5 (l := l) (p := o.place) (n := i)
 have hlw := hlen (qU o.place r)
 rcases zmE (p := qU o.place r) (E := zbC l l.length) with ⟨hg2, hz⟩ | hg2
 · rw [hlk] at hz
   rw [hz]
   generalize qk l o.place l.length = L at *
   generalize (qk l o.place i).length = k at *
   generalize zbC l l.length = E at *
   refine zh tok mixed 37 rfl (fn := Tryz.f46) (c := Tryz.f46.body.getD .skip) (by kernel_rfl) (by kernel_rfl) (by kernel_rfl) rfl 1 rfl ?_
   repeat' (first | (refine zi (some (.pv (.sl 1 (L.map qG)))) hg1 ?_) | (refine zi none hg2 ?_) | (refine ⟨4, rfl, Nat.le_of_ble_eq_true rfl, ?_⟩) | refine o1 ?_ | refine o2 ?_ | refine k1 ?_ | refine k2 ?_ | refine k3 ?_ | refine k7 ?_ | refine And.intro ?_ ?_ | (intro h; first | exact Bool.noConfusion h | exact nz _ h | exact nl h | (simp at h; done) | (simp at h; first | (exfalso; omega) | skip) | skip) | exact (by kernel_rfl : zn _ _ = true) | refine ⟨_, _, (by first | rfl | assumption), zf (by assumption), ?_⟩ | (change zp _ _ _ _ _; refine zC rfl (by repeat' (first | trivial | refine And.intro ?_ ?_ | (show 0 + _ ≤ List.length _; simp))) zW.refl (zhf o.place) rfl ?_) | (change zp _ _ _ _ _; refine zC rfl (by repeat' (first | trivial | refine And.intro ?_ ?_ | (show 0 + _ ≤ List.length _; simp))) zW.refl (hci) rfl ?_) | fail)
   exact qC [0] [zgN 85 E] rfl rfl ⟨(by show some (some _) = some (some (zd8 _ _ _)); rw [zda xx]), trivial⟩ (r' := imgA none) rfl ⟨rfl, rfl⟩
 · rw [hlk] at hg2
   generalize qk l (qU o.place r) l.length = M at *
   generalize qk l o.place l.length = L at *
   generalize (qk l o.place i).length = k at *
   generalize zbC l l.length = E at *
   rcases hMk : M[k]? with _ | j
   · have hle := List.getElem?_eq_none_iff.1 hMk
     refine zh tok mixed 37 rfl (fn := Tryz.f46) (c := Tryz.f46.body.getD .skip) (by kernel_rfl) (by kernel_rfl) (by kernel_rfl) rfl 1 rfl ?_
     repeat' (first | (refine zi (some (.pv (.sl 1 (L.map qG)))) hg1 ?_) | (refine zi (some (.pv (.sl 1 (M.map qG)))) hg2 ?_) | (refine ⟨4, rfl, Nat.le_of_ble_eq_true rfl, ?_⟩) | refine o1 ?_ | refine o2 ?_ | refine k1 ?_ | refine k2 ?_ | refine k3 ?_ | refine k7 ?_ | refine And.intro ?_ ?_ | (intro h; first | exact Bool.noConfusion h | exact nz _ h | exact nl h | (simp at h; done) | (simp at h; first | (exfalso; omega) | skip) | skip) | exact (by kernel_rfl : zn _ _ = true) | refine za ?_ | refine ⟨_, _, (by first | rfl | assumption), zf (by assumption), ?_⟩ | (change zp _ _ _ _ _; refine zC rfl (by repeat' (first | trivial | refine And.intro ?_ ?_ | (show 0 + _ ≤ List.length _; simp))) zW.refl (zhf o.place) rfl ?_) | (change zp _ _ _ _ _; refine zC rfl (by repeat' (first | trivial | refine And.intro ?_ ?_ | (show 0 + _ ≤ List.length _; simp))) zW.refl (hci) rfl ?_) | fail)
     all_goals first
      | (exfalso; omega)
      | exact qC [0] [zgN 85 E] rfl rfl ⟨(by show some (some _) = some (some (zd8 _ _ _)); rw [zda xx]), trivial⟩ (r' := imgA none) rfl ⟨rfl, rfl⟩
   · have hlt := (List.getElem?_eq_some_iff.1 hMk).1
     refine zh tok mixed 37 rfl (fn := Tryz.f46) (c := Tryz.f46.body.getD .skip) (by kernel_rfl) (by kernel_rfl) (by kernel_rfl) rfl 1 rfl ?_
     repeat' (first | (refine zi (some (.pv (.sl 1 (L.map qG)))) hg1 ?_) | (refine zi (some (.pv (.sl 1 (M.map qG)))) hg2 ?_) | (refine ⟨4, rfl, Nat.le_of_ble_eq_true rfl, ?_⟩) | refine o1 ?_ | refine o2 ?_ | refine k1 ?_ | refine k2 ?_ | refine k3 ?_ | refine k6 ?_ | refine k7 ?_ | refine And.intro ?_ ?_ | (intro h; first | exact Bool.noConfusion h | exact nz _ h | exact nl h | (simp at h; done) | (simp at h; first | (exfalso; omega) | skip) | skip) | exact (by kernel_rfl : zn _ _ = true) | refine za ?_ | refine ⟨_, _, (by first | rfl | assumption), zf (by assumption), ?_⟩ | (change zp _ _ _ _ _; refine zC rfl (by repeat' (first | trivial | refine And.intro ?_ ?_ | (show 0 + _ ≤ List.length _; simp))) zW.refl (zhf o.place) rfl ?_) | (change zp _ _ _ _ _; refine zC rfl (by repeat' (first | trivial | refine And.intro ?_ ?_ | (show 0 + _ ≤ List.length _; simp))) zW.refl (hci) rfl ?_) | fail)
     all_goals first
      | (exfalso; omega)
      | exact qC [0] [zgN 85 E] rfl rfl ⟨(by show some (some _) = some (some (zd8 _ _ _)); rw [zda xx]), trivial⟩ (r' := imgA (some j)) rfl ⟨rfl, rfl⟩
end Go.Proofs.YtihpjcmloecaaaaGreat.Cw
