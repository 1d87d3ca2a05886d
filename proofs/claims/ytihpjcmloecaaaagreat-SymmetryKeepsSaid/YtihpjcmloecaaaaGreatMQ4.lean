/-
  Part 4 of the proof (Tab, Ty, B0, BP, BQ, SB0, M1, M2, M3, BC, M4, M5, M6, BL, M7, SY1, SB1, SB2, SY2, SY3, SY4, SY5): what later parts use. No conditions.
-/
import Derived.Test.YtihpjcmloecaaaaGreatProg
import Derived.KernelRfl
import Derived.Test.YtihpjcmloecaaaaGreatMQ3
/-
  The types and functions of the program. Written by a tool; no conditions.
-/
namespace Go.Proofs.YtihpjcmloecaaaaGreat.Cw
open Go.Cw Go.Proofs
noncomputable def T : Tab := ⟨.node 105 (.mk 1 8 false .func [.val .nilFunc]) (.node 53 (.mk 1 8 false .func [.val .nilFunc]) (.node 25 (.mk 1 24 false (.slice 51) [.val (.slice none 0 0)]) (.node 13 (.mk 2 24 true (.struct [(0, 9), (1, 12)]) [.val (.string (⟨#[]⟩)), .val (.int .u64 0)]) (.node 7 (.mk 4 24 true (.struct [(0, 2), (1, 3), (2, 4), (3, 6)]) [.val (.int .i64 0), .val (.int .i64 0), .val (.bool false), .val (.int .u8 0)]) (.node 4 (.mk 1 1 false .bool [.val (.bool false)]) (.node 2 (.mk 1 8 false (.int .i64) [.val (.int .i64 0)]) (.node 1 (.mk 1 8 false .func [.val .nilFunc]) .nil .nil)
 (.node 3 (.mk 1 8 false (.int .i64) [.val (.int .i64 0)]) .nil .nil))
 (.node 6 (.mk 1 1 false (.int .u8) [.val (.int .u8 0)]) (.node 5 (.mk 1 1 false (.int .u8) [.val (.int .u8 0)]) .nil .nil) .nil))
 (.node 10 (.mk 1 16 false .str [.val (.string (⟨#[]⟩))]) (.node 9 (.mk 1 16 false .str [.val (.string (⟨#[]⟩))]) (.node 8 (.mk 4 24 true (.struct [(0, 2), (1, 3), (2, 4), (3, 6)]) [.val (.int .i64 0), .val (.int .i64 0), .val (.bool false), .val (.int .u8 0)]) .nil .nil) .nil)
 (.node 12 (.mk 1 8 false (.int .u64) [.val (.int .u64 0)]) (.node 11 (.mk 1 16 false .str [.val (.string (⟨#[]⟩))]) .nil .nil) .nil)))
 (.node 19 (.mk 1 8 true (.struct [(0, 17)]) [.val (.pointer none)]) (.node 16 (.mk 1 8 false (.ptr 199) [.val (.pointer none)]) (.node 15 (.mk 1 8 false (.ptr 196) [.val (.pointer none)]) (.node 14 (.mk 2 24 true (.struct [(0, 9), (1, 12)]) [.val (.string (⟨#[]⟩)), .val (.int .u64 0)]) .nil .nil) .nil)
 (.node 18 (.mk 1 8 true (.struct [(0, 17)]) [.val (.pointer none)]) (.node 17 (.mk 1 8 false (.ptr 207) [.val (.pointer none)]) .nil .nil) .nil))
 (.node 22 (.mk 1 24 false (.slice 3) [.val (.slice none 0 0)]) (.node 21 (.mk 1 4 false (.int .i32) [.val (.int .i32 0)]) (.node 20 (.mk 1 16 false .other [.val .nilIface]) .nil .nil) .nil)
 (.node 24 (.mk 1 8 false .func [.val .nilFunc]) (.node 23 (.mk 1 8 false .func [.val .nilFunc]) .nil .nil) .nil))))
 (.node 39 (.mk 1 8 false .func [.val .nilFunc]) (.node 32 (.mk 1 8 false .func [.val .nilFunc]) (.node 29 (.mk 4 80 true (.struct [(0, 25), (1, 26), (2, 27), (3, 3)]) [.val (.slice none 0 0), .val (.slice none 0 0), .val (.slice none 0 0), .val (.int .i64 0)]) (.node 27 (.mk 1 24 false (.slice 78) [.val (.slice none 0 0)]) (.node 26 (.mk 1 24 false (.slice 72) [.val (.slice none 0 0)]) .nil .nil)
 (.node 28 (.mk 4 80 true (.struct [(0, 25), (1, 26), (2, 27), (3, 3)]) [.val (.slice none 0 0), .val (.slice none 0 0), .val (.slice none 0 0), .val (.int .i64 0)]) .nil .nil))
 (.node 31 (.mk 1 8 false (.ptr 67) [.val (.pointer none)]) (.node 30 (.mk 1 8 false .func [.val .nilFunc]) .nil .nil) .nil))
 (.node 35 (.mk 1 24 false (.slice 22) [.val (.slice none 0 0)]) (.node 34 (.mk 1 24 false (.slice 33) [.val (.slice none 0 0)]) (.node 33 (.mk 2 16 true (.array 2 3) [.val (.int .i64 0), .val (.int .i64 0)]) .nil .nil) .nil)
 (.node 38 (.mk 1 8 false .func [.val .nilFunc]) (.node 37 (.mk 1 8 false .func [.val .nilFunc]) .nil .nil) .nil)))
 (.node 47 (.mk 1 8 false .func [.val .nilFunc]) (.node 42 (.mk 1 8 false (.int .i64) [.val (.int .i64 0)]) (.node 41 (.mk 1 8 false .func [.val .nilFunc]) (.node 40 (.mk 1 8 false .func [.val .nilFunc]) .nil .nil) .nil)
 (.node 45 (.mk 1 8 false .func [.val .nilFunc]) (.node 44 (.mk 1 8 false .func [.val .nilFunc]) .nil .nil) .nil))
 (.node 50 (.mk 1 8 false .func [.val .nilFunc]) (.node 49 (.mk 1 8 false .func [.val .nilFunc]) (.node 48 (.mk 1 8 false .func [.val .nilFunc]) .nil .nil) .nil)
 (.node 52 (.mk 1 8 false .func [.val .nilFunc]) (.node 51 (.mk 1 24 false (.slice 62) [.val (.slice none 0 0)]) .nil .nil) .nil)))))
 (.node 79 (.mk 1 8 false .func [.val .nilFunc]) (.node 67 (.mk 2 32 true (.struct [(0, 22), (1, 3)]) [.val (.slice none 0 0), .val (.int .i64 0)]) (.node 61 (.mk 6 64 true (.struct [(0, 59), (5, 60)]) [.val (.int .i64 0), .val (.int .i64 0), .val (.int .i64 0), .val (.int .i64 0), .val (.int .i64 0), .val (.slice none 0 0)]) (.node 58 (.mk 5 40 true (.struct [(0, 57), (4, 3)]) [.val (.int .i64 0), .val (.int .i64 0), .val (.int .i64 0), .val (.int .i64 0), .val (.int .i64 0)]) (.node 56 (.mk 4 32 true (.struct [(0, 3), (1, 3), (2, 3), (3, 3)]) [.val (.int .i64 0), .val (.int .i64 0), .val (.int .i64 0), .val (.int .i64 0)]) (.node 55 (.mk 1 8 false .func [.val .nilFunc]) .nil .nil)
 (.node 57 (.mk 4 32 true (.struct [(0, 3), (1, 3), (2, 3), (3, 3)]) [.val (.int .i64 0), .val (.int .i64 0), .val (.int .i64 0), .val (.int .i64 0)]) .nil .nil))
 (.node 60 (.mk 1 24 false (.slice 98) [.val (.slice none 0 0)]) (.node 59 (.mk 5 40 true (.struct [(0, 57), (4, 3)]) [.val (.int .i64 0), .val (.int .i64 0), .val (.int .i64 0), .val (.int .i64 0), .val (.int .i64 0)]) .nil .nil) .nil))
 (.node 64 (.mk 1 8 false .func [.val .nilFunc]) (.node 63 (.mk 1 8 false .func [.val .nilFunc]) (.node 62 (.mk 6 64 true (.struct [(0, 59), (5, 60)]) [.val (.int .i64 0), .val (.int .i64 0), .val (.int .i64 0), .val (.int .i64 0), .val (.int .i64 0), .val (.slice none 0 0)]) .nil .nil) .nil)
 (.node 66 (.mk 2 32 true (.struct [(0, 22), (1, 3)]) [.val (.slice none 0 0), .val (.int .i64 0)]) (.node 65 (.mk 1 8 false .func [.val .nilFunc]) .nil .nil) .nil)))
 (.node 73 (.mk 1 8 false .func [.val .nilFunc]) (.node 70 (.mk 1 8 false .func [.val .nilFunc]) (.node 69 (.mk 1 8 false .func [.val .nilFunc]) (.node 68 (.mk 1 8 false .func [.val .nilFunc]) .nil .nil) .nil)
 (.node 72 (.mk 4 48 true (.struct [(0, 3), (1, 3), (2, 3), (3, 22)]) [.val (.int .i64 0), .val (.int .i64 0), .val (.int .i64 0), .val (.slice none 0 0)]) (.node 71 (.mk 4 48 true (.struct [(0, 3), (1, 3), (2, 3), (3, 22)]) [.val (.int .i64 0), .val (.int .i64 0), .val (.int .i64 0), .val (.slice none 0 0)]) .nil .nil) .nil))
 (.node 76 (.mk 1 24 false (.slice 102) [.val (.slice none 0 0)]) (.node 75 (.mk 1 8 false .func [.val .nilFunc]) (.node 74 (.mk 1 24 false (.slice 4) [.val (.slice none 0 0)]) .nil .nil) .nil)
 (.node 78 (.mk 4 48 true (.struct [(0, 3), (1, 76), (2, 3), (3, 3)]) [.val (.int .i64 0), .val (.slice none 0 0), .val (.int .i64 0), .val (.int .i64 0)]) (.node 77 (.mk 4 48 true (.struct [(0, 3), (1, 76), (2, 3), (3, 3)]) [.val (.int .i64 0), .val (.slice none 0 0), .val (.int .i64 0), .val (.int .i64 0)]) .nil .nil) .nil))))
 (.node 93 (.mk 1 8 false .func [.val .nilFunc]) (.node 86 (.mk 1 8 false .func [.val .nilFunc]) (.node 83 (.mk 1 8 false (.map 3 4) [.val (.map none)]) (.node 81 (.mk 1 8 false .func [.val .nilFunc]) (.node 80 (.mk 1 8 false .func [.val .nilFunc]) .nil .nil)
 (.node 82 (.mk 1 8 false (.map 3 3) [.val (.map none)]) .nil .nil))
 (.node 85 (.mk 1 8 false (.map 130 22) [.val (.map none)]) (.node 84 (.mk 1 8 false (.map 130 22) [.val (.map none)]) .nil .nil) .nil))
 (.node 90 (.mk 1 8 false .func [.val .nilFunc]) (.node 89 (.mk 1 8 false .func [.val .nilFunc]) (.node 88 (.mk 1 8 false .func [.val .nilFunc]) .nil .nil) .nil)
 (.node 92 (.mk 1 8 false .func [.val .nilFunc]) (.node 91 (.mk 1 8 false .func [.val .nilFunc]) .nil .nil) .nil)))
 (.node 99 (.mk 1 8 false .func [.val .nilFunc]) (.node 96 (.mk 1 8 false (.ptr 62) [.val (.pointer none)]) (.node 95 (.mk 1 8 false .func [.val .nilFunc]) (.node 94 (.mk 1 8 false .func [.val .nilFunc]) .nil .nil) .nil)
 (.node 98 (.mk 2 16 true (.struct [(0, 3), (1, 3)]) [.val (.int .i64 0), .val (.int .i64 0)]) (.node 97 (.mk 2 16 true (.struct [(0, 3), (1, 3)]) [.val (.int .i64 0), .val (.int .i64 0)]) .nil .nil) .nil))
 (.node 102 (.mk 3 24 true (.struct [(0, 3), (1, 3), (2, 3)]) [.val (.int .i64 0), .val (.int .i64 0), .val (.int .i64 0)]) (.node 101 (.mk 3 24 true (.struct [(0, 3), (1, 3), (2, 3)]) [.val (.int .i64 0), .val (.int .i64 0), .val (.int .i64 0)]) (.node 100 (.mk 1 8 false .func [.val .nilFunc]) .nil .nil) .nil)
 (.node 104 (.mk 1 8 false .func [.val .nilFunc]) (.node 103 (.mk 1 8 false .func [.val .nilFunc]) .nil .nil) .nil))))))
 (.node 157 (.mk 1 8 false .func [.val .nilFunc]) (.node 132 (.mk 1 8 false .func [.val .nilFunc]) (.node 119 (.mk 1 8 false .func [.val .nilFunc]) (.node 113 (.mk 1 8 false .func [.val .nilFunc]) (.node 109 (.mk 1 8 false .func [.val .nilFunc]) (.node 107 (.mk 1 8 false .func [.val .nilFunc]) (.node 106 (.mk 1 8 false .func [.val .nilFunc]) .nil .nil)
 (.node 108 (.mk 1 8 false .func [.val .nilFunc]) .nil .nil))
 (.node 111 (.mk 1 8 false .func [.val .nilFunc]) (.node 110 (.mk 1 8 false .func [.val .nilFunc]) .nil .nil) .nil))
 (.node 116 (.mk 1 8 false .func [.val .nilFunc]) (.node 115 (.mk 1 8 false .func [.val .nilFunc]) (.node 114 (.mk 1 8 false .func [.val .nilFunc]) .nil .nil) .nil)
 (.node 118 (.mk 1 8 false .func [.val .nilFunc]) (.node 117 (.mk 1 8 false .func [.val .nilFunc]) .nil .nil) .nil)))
 (.node 126 (.mk 1 8 false .func [.val .nilFunc]) (.node 123 (.mk 1 8 false .func [.val .nilFunc]) (.node 122 (.mk 1 8 false .func [.val .nilFunc]) (.node 121 (.mk 1 8 false .func [.val .nilFunc]) .nil .nil) .nil)
 (.node 125 (.mk 1 8 false .func [.val .nilFunc]) (.node 124 (.mk 1 8 false .func [.val .nilFunc]) .nil .nil) .nil))
 (.node 129 (.mk 5 40 true (.array 5 3) [.val (.int .i64 0), .val (.int .i64 0), .val (.int .i64 0), .val (.int .i64 0), .val (.int .i64 0)]) (.node 128 (.mk 1 8 false .func [.val .nilFunc]) (.node 127 (.mk 1 8 false .func [.val .nilFunc]) .nil .nil) .nil)
 (.node 131 (.mk 1 8 false .func [.val .nilFunc]) (.node 130 (.mk 5 40 true (.array 5 3) [.val (.int .i64 0), .val (.int .i64 0), .val (.int .i64 0), .val (.int .i64 0), .val (.int .i64 0)]) .nil .nil) .nil))))
 (.node 145 (.mk 1 8 false .func [.val .nilFunc]) (.node 139 (.mk 1 24 true (.struct [(0, 22)]) [.val (.slice none 0 0)]) (.node 136 (.mk 4 32 true (.array 4 3) [.val (.int .i64 0), .val (.int .i64 0), .val (.int .i64 0), .val (.int .i64 0)]) (.node 134 (.mk 1 8 false .func [.val .nilFunc]) (.node 133 (.mk 1 8 false .func [.val .nilFunc]) .nil .nil)
 (.node 135 (.mk 1 8 false .func [.val .nilFunc]) .nil .nil))
 (.node 138 (.mk 1 24 true (.struct [(0, 22)]) [.val (.slice none 0 0)]) (.node 137 (.mk 1 8 false (.ptr 139) [.val (.pointer none)]) .nil .nil) .nil))
 (.node 142 (.mk 1 8 false .func [.val .nilFunc]) (.node 141 (.mk 1 8 false .func [.val .nilFunc]) (.node 140 (.mk 1 8 false .func [.val .nilFunc]) .nil .nil) .nil)
 (.node 144 (.mk 1 8 false .func [.val .nilFunc]) (.node 143 (.mk 1 8 false .func [.val .nilFunc]) .nil .nil) .nil)))
 (.node 151 (.mk 1 8 false .func [.val .nilFunc]) (.node 148 (.mk 1 8 false .func [.val .nilFunc]) (.node 147 (.mk 1 8 false .func [.val .nilFunc]) (.node 146 (.mk 1 8 false .func [.val .nilFunc]) .nil .nil) .nil)
 (.node 150 (.mk 1 8 false .func [.val .nilFunc]) (.node 149 (.mk 1 8 false .func [.val .nilFunc]) .nil .nil) .nil))
 (.node 154 (.mk 1 8 false (.int .u64) [.val (.int .u64 0)]) (.node 153 (.mk 1 8 false .func [.val .nilFunc]) (.node 152 (.mk 1 8 false .func [.val .nilFunc]) .nil .nil) .nil)
 (.node 156 (.mk 1 8 false .func [.val .nilFunc]) (.node 155 (.mk 1 8 false .func [.val .nilFunc]) .nil .nil) .nil)))))
 (.node 183 (.mk 1 8 false (.ptr 3) [.val (.pointer none)]) (.node 171 (.mk 1 8 false .func [.val .nilFunc]) (.node 165 (.mk 1 8 false .func [.val .nilFunc]) (.node 162 (.mk 1 8 false .func [.val .nilFunc]) (.node 159 (.mk 1 8 false (.int .i64) [.val (.int .i64 0)]) (.node 158 (.mk 1 8 false .func [.val .nilFunc]) .nil .nil)
 (.node 161 (.mk 1 8 false .func [.val .nilFunc]) .nil .nil))
 (.node 164 (.mk 1 8 false .func [.val .nilFunc]) (.node 163 (.mk 1 8 false .func [.val .nilFunc]) .nil .nil) .nil))
 (.node 168 (.mk 1 8 false (.int .u64) [.val (.int .u64 0)]) (.node 167 (.mk 1 8 false .func [.val .nilFunc]) (.node 166 (.mk 1 4 false (.int .u32) [.val (.int .u32 0)]) .nil .nil) .nil)
 (.node 170 (.mk 1 8 false .func [.val .nilFunc]) (.node 169 (.mk 1 8 false .func [.val .nilFunc]) .nil .nil) .nil)))
 (.node 177 (.mk 1 8 false .func [.val .nilFunc]) (.node 174 (.mk 1 8 false .func [.val .nilFunc]) (.node 173 (.mk 1 8 false .func [.val .nilFunc]) (.node 172 (.mk 1 8 false .func [.val .nilFunc]) .nil .nil) .nil)
 (.node 176 (.mk 1 8 false .func [.val .nilFunc]) (.node 175 (.mk 1 8 false .func [.val .nilFunc]) .nil .nil) .nil))
 (.node 180 (.mk 1 8 false .func [.val .nilFunc]) (.node 179 (.mk 1 8 false (.int .u64) [.val (.int .u64 0)]) (.node 178 (.mk 1 8 false .func [.val .nilFunc]) .nil .nil) .nil)
 (.node 182 (.mk 1 8 false .func [.val .nilFunc]) (.node 181 (.mk 1 8 false .func [.val .nilFunc]) .nil .nil) .nil))))
 (.node 197 (.mk 0 0 true (.array 0 16) []) (.node 191 (.mk 1 8 false .func [.val .nilFunc]) (.node 187 (.mk 1 8 false .func [.val .nilFunc]) (.node 185 (.mk 1 8 false .func [.val .nilFunc]) (.node 184 (.mk 1 8 false .func [.val .nilFunc]) .nil .nil)
 (.node 186 (.mk 1 8 false .func [.val .nilFunc]) .nil .nil))
 (.node 189 (.mk 1 8 false (.ptr 179) [.val (.pointer none)]) (.node 188 (.mk 1 8 false .func [.val .nilFunc]) .nil .nil) .nil))
 (.node 194 (.mk 1 8 false .func [.val .nilFunc]) (.node 193 (.mk 1 8 false .func [.val .nilFunc]) (.node 192 (.mk 1 8 false .func [.val .nilFunc]) .nil .nil) .nil)
 (.node 196 (.mk 4 40 true (.struct [(0, 17), (1, 17), (2, 17), (3, 9)]) [.val (.pointer none), .val (.pointer none), .val (.pointer none), .val (.string (⟨#[]⟩))]) (.node 195 (.mk 4 40 true (.struct [(0, 17), (1, 17), (2, 17), (3, 9)]) [.val (.pointer none), .val (.pointer none), .val (.pointer none), .val (.string (⟨#[]⟩))]) .nil .nil) .nil)))
 (.node 203 (.mk 1 8 false (.ptr 5) [.val (.pointer none)]) (.node 200 (.mk 1 1 false (.int .u8) [.val (.int .u8 0)]) (.node 199 (.mk 0 0 true (.struct [(0, 197)]) []) (.node 198 (.mk 0 0 true (.struct [(0, 197)]) []) .nil .nil) .nil)
 (.node 202 (.mk 1 8 false .func [.val .nilFunc]) (.node 201 (.mk 1 1 false (.int .u8) [.val (.int .u8 0)]) .nil .nil) .nil))
 (.node 206 (.mk 11 48 true (.struct [(0, 12), (1, 12), (2, 166), (3, 200), (4, 5), (5, 5), (6, 201), (7, 202), (8, 203), (9, 204), (10, 205)]) [.val (.int .u64 0), .val (.int .u64 0), .val (.int .u32 0), .val (.int .u8 0), .val (.int .u8 0), .val (.int .u8 0), .val (.int .u8 0), .val .nilFunc, .val (.pointer none), .val (.int .i32 0), .val (.int .i32 0)]) (.node 205 (.mk 1 4 false (.int .i32) [.val (.int .i32 0)]) (.node 204 (.mk 1 4 false (.int .i32) [.val (.int .i32 0)]) .nil .nil) .nil)
 (.node 208 (.mk 1 8 false .other [.val (.pointer none)]) (.node 207 (.mk 11 48 true (.struct [(0, 12), (1, 12), (2, 166), (3, 200), (4, 5), (5, 5), (6, 201), (7, 202), (8, 203), (9, 204), (10, 205)]) [.val (.int .u64 0), .val (.int .u64 0), .val (.int .u32 0), .val (.int .u8 0), .val (.int .u8 0), .val (.int .u8 0), .val (.int .u8 0), .val .nilFunc, .val (.pointer none), .val (.int .i32 0), .val (.int .i32 0)]) .nil .nil) .nil)))))), [7, 8, 28, 29, 56, 57, 58, 59, 61, 62, 66, 67, 71, 72, 77, 78, 97, 98, 101, 102, 138, 139]⟩
theorem tok : TabOk Tryz.prog T := TabOk.of_eq (by kernel_rfl) (by kernel_rfl)
theorem mixed : Tryz.prog.follows .mixedOrders = true := by kernel_rfl
end Go.Proofs.YtihpjcmloecaaaaGreat.Cw
/-
  Data of the program, as_ lists of cells.
-/
namespace Go.Proofs.YtihpjcmloecaaaaGreat.Cw
open Go.Cw Go.Proofs
set_option linter.unusedVariables false
abbrev Str := ByteArray
def ei (n : Int) : PV := .val (.int .i64 n)
def es (s : Str) : PV := .val (.string s)
def encStrs (l : List Str) : PV := .sl 1 (l.map fun s => [es s])
def encInts (l : List Int) : PV := .sl 1 (l.map fun x => [ei x])
structure Time where
  (weeks day start len : Int)
def Time.row (t : Time) : List PV := [ei t.weeks, ei t.day, ei t.start, ei t.len]
def encTimes (l : List Time) : PV := .sl 4 (l.map Time.row)
structure Grid where
  (days slots begin_ mins : Int)
def Grid.row (g : Grid) : List PV := [ei g.days, ei g.slots, ei g.begin_, ei g.mins]
structure Room where
  (code bld : Str)
  (seats : Int)
  (feats : List Str)
  (closed : List Time)
def Room.row (r : Room) : List PV := [es r.code, es r.bld, ei r.seats, encStrs r.feats, encTimes r.closed]
def encRooms (l : List Room) : PV := .sl 5 (l.map Room.row)
structure Exam where
  (code : Str)
  (len : Int)
  (feats studs : List Str)
def Exam.row (e : Exam) : List PV := [es e.code, ei e.len, encStrs e.feats, encStrs e.studs]
structure Sitting where
  (day start len cost : Int)
def Sitting.row (s : Sitting) : List PV := [ei s.day, ei s.start, ei s.len, ei s.cost]
structure Gaps where
  (row day near days mixed : Int)
structure Exams where
  (rooms : List Room)
  (exams : List Exam)
  (sits : List Sitting)
  (gaps : Gaps)
def Exams.cells (x : Exams) : List PV := [encRooms x.rooms, .sl 4 (x.exams.map Exam.row), .sl 4 (x.sits.map Sitting.row), ei x.gaps.row, ei x.gaps.day, ei x.gaps.near, ei x.gaps.days, ei x.gaps.mixed]
/-! Registries. -/
structure Term where
  (first weeks : Int)
  (hols : List Int)
def Term.row (t : Term) : List PV := [ei t.first, ei t.weeks, encInts t.hols]
structure Travel where
  (blds : List Str)
  (slots : List (List Int))
def intsRow (l : List Int) : List PV := [encInts l]
def Travel.row (t : Travel) : List PV := [encStrs t.blds, .sl 1 (t.slots.map intsRow)]
structure Lecturer where
  (code : Str)
  (away : List Time)
def Lecturer.row (l : Lecturer) : List PV := [es l.code, encTimes l.away]
structure Start where
  (day slot : Int)
def Start.row (s : Start) : List PV := [ei s.day, ei s.slot]
structure Class where
  (code course part : Str)
  (len : Int)
  (pats : List Int)
  (seats : Int)
  (feats staff : List Str)
  (starts : List Start)
def Class.row (c : Class) : List PV := [es c.code, es c.course, es c.part, ei c.len, encInts c.pats, ei c.seats, encStrs c.feats, encStrs c.staff, .sl 2 (c.starts.map Start.row)]
structure Curri where
  (code : Str)
  (courses : List Str)
def Curri.row (c : Curri) : List PV := [es c.code, encStrs c.courses]
structure Req where
  (student course : Str)
  (prio : Int)
  (instead : List Str)
def Req.row (r : Req) : List PV := [es r.student, es r.course, ei r.prio, encStrs r.instead]
structure Reg where
  (grid : Grid)
  (term : Term)
  (rooms : List Room)
  (travel : Travel)
  (staff : List Lecturer)
  (classes : List Class)
  (curris : List Curri)
  (reqs : List Req)
def Reg.cells (r : Reg) : List PV := [ei r.grid.days, ei r.grid.slots, ei r.grid.begin_, ei r.grid.mins, ei r.term.first, ei r.term.weeks, encInts r.term.hols, encRooms r.rooms, encStrs r.travel.blds, .sl 1 (r.travel.slots.map intsRow),
  .sl 2 (r.staff.map Lecturer.row), .sl 9 (r.classes.map Class.row), .sl 2 (r.curris.map Curri.row), .sl 4 (r.reqs.map Req.row)]
abbrev ag (l : List PV) : AV := .agg (pvs l)
end Go.Proofs.YtihpjcmloecaaaaGreat.Cw
/-
  Words for what functions answer.
-/
namespace Go.Proofs.YtihpjcmloecaaaaGreat.Cw
open Go.Cw Go.Proofs
set_option linter.unusedVariables false
noncomputable abbrev pB (p : Prop) : Bool := @decide p (Classical.propDecidable p)
theorem pB_t {p : Prop} (h : p) : pB p = true := by simp [h]
theorem pB_f {p : Prop} (h : ¬ p) : pB p = false := by simp [h]
theorem pB_iff {p q : Prop} (h : p ↔ q) : pB p = pB q := by simp [h]
theorem pB_eq {p : Prop} {b : Bool} (h : b = true ↔ p) : b = pB p := by
  cases b <;> simp at h <;> simp [h]
def firstE (f : Nat → Int) : Nat → Int
  | 0 => 0
  | n + 1 => if firstE f n = 0 then f n else firstE f n
theorem all_lt_succ {p : Nat → Prop} {i : Nat} (h : ∀ j, j < i → p j) (hi : p i) : ∀ j, j < i + 1 → p j := fun j hj => by
  rcases Nat.lt_or_ge j i with h1 | h1
  · exact h j h1
  · have : j = i := by omega
    subst this; exact hi
theorem mulw {a b : Int} (ha : 0 ≤ a ∧ a ≤ 1000000) (hb : 0 ≤ b ∧ b ≤ 1000000) : 0 ≤ a * b ∧ a * b ≤ 1000000000000 :=
  ⟨Int.mul_nonneg ha.1 hb.1, Int.le_trans (Int.mul_le_mul ha.2 hb.2 hb.1 (by omega)) (by omega)⟩
theorem eqv_mul {a b : Int} {K : Int → Prop} (ha : 0 ≤ a ∧ a ≤ 1000000) (hb : 0 ≤ b ∧ b ≤ 1000000) (h : 0 ≤ a * b → a * b ≤ 1000000000000 → K (a * b)) : eqv (IntKind.i64.wrap (a * b)) K :=
  eqv_wrap (by have := mulw ha hb; omega) (by have := mulw ha hb; omega) (h (mulw ha hb).1 (mulw ha hb).2)
def idxB {α : Type} (p : α → Bool) (l : List α) : Int := match l.findIdx? p with
  | some i => i
  | none => -1
theorem idxB_at {α : Type} {p : α → Bool} {l : List α} {i : Nat} {x : α} (h0 : ∀ j, j < i → ∀ y, l[j]? = some y → p y = false) (hx : l[i]? = some x) (hp : p x = true) : idxB p l = i := by
  have hi := (List.getElem?_eq_some_iff.1 hx).1
  have : l.findIdx? p = some i := by
    rw [List.findIdx?_eq_some_iff_getElem]
    refine ⟨hi, ?_, fun j hj => ?_⟩
    · rw [(List.getElem?_eq_some_iff.1 hx).2]; exact hp
    · have := h0 j hj l[j] (List.getElem?_eq_getElem (by omega))
      simp [this]
  simp [idxB, this]
theorem idxB_none {α : Type} {p : α → Bool} {l : List α} (h : ∀ j, j < l.length → ∀ y, l[j]? = some y → p y = false) : idxB p l = -1 := by
  have : l.findIdx? p = none := by
    rw [List.findIdx?_eq_none_iff]
    intro x hx
    obtain ⟨i, hi, rfl⟩ := List.getElem_of_mem hx
    exact h i hi _ (List.getElem?_eq_getElem hi)
  simp [idxB, this]
theorem idxB_any {α : Type} {p : α → Bool} {l : List α} : decide (idxB p l ≥ 0) = l.any p := by
  unfold idxB
  split
  · rename_i i hi
    have := List.findIdx?_eq_some_iff_getElem.1 hi
    obtain ⟨h1, h2, _⟩ := this
    rw [List.any_eq_true.2 ⟨_, List.getElem_mem h1, h2⟩]
    simp
  · rename_i hi
    rw [List.findIdx?_eq_none_iff] at hi
    have : l.any p = false := List.any_eq_false.2 fun x hx => by simp [hi x hx]
    rw [this]; rfl
end Go.Proofs.YtihpjcmloecaaaaGreat.Cw
/-
  Slices that grow; results that are read.
-/
namespace Go.Proofs.YtihpjcmloecaaaaGreat.Cw
open Go.Cw Go.Proofs
set_option linter.unusedVariables false
def nilA : AV := .pv (.val (.slice none 0 0))
def slP (id z : Nat) : List (List PV) → AV
  | [] => nilA
  | r :: l => .ms id z 0 (r :: l).length
def obP (ty z : Nat) : List (List PV) → Option AObj
  | [] => none
  | r :: l => some ⟨ty, z, false, .p (r :: l)⟩
structure Leq (r x : AV) : Prop where
  le : ALe r x
theorem whole_le {α : Type} {f : α → List PV} {z n : Nat} {l : List α} (h : l.length ≤ n) : PLe (.sl z (List.take n (List.drop 0 (l.map f)))) (.sl z (l.map f)) := by
  rw [List.drop_zero, List.take_of_length_le (by simpa using h)]
  exact PLe.refl
end Go.Proofs.YtihpjcmloecaaaaGreat.Cw
/-
  Slices that grow by append, nil or not: they need no cases.
-/
namespace Go.Proofs.YtihpjcmloecaaaaGreat.Cw
open Go Go.Cw Go.Proofs
set_option linter.unusedVariables false
theorem map_snoc {α β : Type} {f : α → β} {l : List α} {x : α} : (l ++ [x]).map f = l.map f ++ [f x] := by simp
section
variable {P : Program} {T : Tab} {id z ty : Nat} {rows : List (List PV)} {r : List PV}
theorem fv_sl {K : AV → Prop} (h : K (slP id z rows)) : forceV (slP id z rows) K := by
  cases rows <;> exact h
theorem fh_ob {l : Heap} {K : Heap → Prop} (h : forceH l fun l' => K (obP ty z rows :: l')) : forceH (obP ty z rows :: l) K := by
  rw [forceH_eq] at *
  exact h
theorem knOut_mono : ∀ (dc : Known) {d : Nat} (A B : Known → Prop), (∀ d2, A d2 → B d2) → knOut dc d A → knOut dc d B
  | [], d, A, B, hab, ha => hab _ ha
  | (k, bb) :: dc, d, A, B, hab, ha => by
    simp only [knOut] at ha ⊢
    split
    · rename_i hk; rw [hk] at ha; exact knOut_mono dc A B hab ha
    · rename_i hk; rw [hk] at ha; exact knOut_mono dc _ _ (fun d2 h2 => hab _ h2) ha
theorem sl_app (a : List (List PV)) (x : List PV) : slP id z (a ++ [x]) = .ms id z 0 (a.length + 1) := by
  cases a with
  | nil => rfl
  | cons b l => simp [slP]
theorem ob_app (a : List (List PV)) (x : List PV) : obP ty z (a ++ [x]) = some ⟨ty, z, false, .p (a ++ [x])⟩ := by
  cases a <;> rfl
theorem app_none {H : Heap} {i site : Nat} {o : Option AObj} (h : H[i]? = some none) : app H [(i, none), (site, o)] = app H [(site, o)] := by
  have : H.set i none = H := by
    apply List.ext_getElem?
    intro k
    rw [List.getElem?_set]
    by_cases e : i = k
    · subst e
      obtain ⟨h1, h2⟩ := List.getElem?_eq_some_iff.1 h
      rw [if_pos rfl, if_pos h1, h]
    · simp [e]
  simp only [app, this]
theorem st_app {site idx b size bytes : Nat} {agg eagg fz : Bool} {zero ezero : List PV} {etk : TK} {s x : Operand} {t : TypeId} {d : Tmp} {Γ : Slots} {H : Heap} {K : Slots → Heap → Prop} (hs : ev Γ s = some (slP id z rows)) (hx : ev Γ x = some (.ms idx z 0 1)) (hl : Cw.look T t = some ⟨size, bytes, agg, .slice ty, zero⟩) (he : Cw.look T ty = some ⟨z, b, eagg, etk, ezero⟩) (hz : Nat.blt 0 z = true)
    (hi : H[idx]? = some (some ⟨ty, z, fz, .p [r]⟩)) (ho : H[id]? = some (obP ty z rows)) (hb : (rows.length + 1) * b ≤ 140737488355328) (hn : rows.length + 1 ≤ 9223372036854775807)
    (h : forceH (app H [(id, none), (site, some ⟨ty, z, false, .p (rows ++ [r])⟩)]) fun H2 => K ((d, .ms site z 0 (rows.length + 1)) :: Γ) H2) :
    vcStep P T site (some d) (.call { callee := .builtin .append, args := #[s, x], argTypes := #[t, t] }) Γ H K := by
  have hbq : Nat.beq t t = true := Nat.beq_refl t
  have hzz : Nat.beq z z = true := Nat.beq_refl z
  have hty : Nat.beq ty ty = true := Nat.beq_refl ty
  rw [forceH_eq] at h
  cases rows with
  | nil =>
    rw [app_none ho] at h
    simp only [vcStep, vcOp, hbq, hs, hx, vcAppend, hl, he, srcOk, hzz, hz, srcRows, hi, Bool.and_self, Bool.true_and, slP, nilA, eqv_eq, putK, forceV, appK, forceH_eq]
    refine ⟨rfl, by simpa [rowsLen] using hb, by simp [rowsLen], fun _ => ?_, fun e => by simp [rowsLen] at e⟩
    exact h
  | cons a l =>
    simp only [vcStep, vcOp, hbq, hs, hx, vcAppend, hl, he, srcOk, hzz, hz, srcRows, hi, ho, obP, Bool.and_self, Bool.true_and, slP, eqv_eq, putK, forceV, appK, forceH_eq, Bool.not_false, hty, dropR, catRows, List.drop_zero]
    refine ⟨by simp [rowsLen], rfl, by simpa [rowsLen] using hb, by simpa [rowsLen] using hn, ?_⟩
    have e : rowsLen (.p (a :: l ++ List.take 1 [r])) = (a :: l).length + 1 := by simp [rowsLen]
    rw [e]
    exact h
theorem o_app {n site idx b size bytes : Nat} {agg eagg fz : Bool} {zero ezero : List PV} {etk : TK} {s x : Operand} {t : TypeId} {d : Tmp} {Γ : Slots} {H : Heap} {K : Slots → Heap → Prop} {o : Oper} {all l : List Oper} {dc : Known}
    (hop : o.op = .call { callee := .builtin .append, args := #[s, x], argTypes := #[t, t] }) (hg : o.guard = none) (hd : o.dst = some d) (hdn : Nat.blt d n = true) (hs : ev Γ s = some (slP id z rows)) (hx : ev Γ x = some (.ms idx z 0 1)) (hl : Cw.look T t = some ⟨size, bytes, agg, .slice ty, zero⟩) (he : Cw.look T ty = some ⟨z, b, eagg, etk, ezero⟩) (hz : Nat.blt 0 z = true)
    (hi : H[idx]? = some (some ⟨ty, z, fz, .p [r]⟩)) (ho : H[id]? = some (obP ty z rows)) (hb : (rows.length + 1) * b ≤ 140737488355328) (hn : rows.length + 1 ≤ 9223372036854775807)
    (h : knOut dc d fun d2 => forceH (app H [(id, none), (site, some ⟨ty, z, false, .p (rows ++ [r])⟩)]) fun H2 => xOps P T n all l (site + 1) K d2 ((d, .ms site z 0 (rows.length + 1)) :: Γ) H2) :
    xOps P T n all (o :: l) site K dc Γ H := by
  refine ops_cons ?_
  have e1 : dstOk n o = true := by unfold dstOk; rw [hd]; exact hdn
  have e2 : isAlloc o.op = true := by rw [hop]; rfl
  rw [e1, e2]
  show vcGuard all Γ dc o.guard _ _
  rw [hg]
  simp only [vcGuard, knPut, hd, hop, knRes, simpOp]
  have key : ∀ d2, (forceH (app H [(id, none), (site, some ⟨ty, z, false, .p (rows ++ [r])⟩)]) fun H2 => xOps P T n all l (site + 1) K d2 ((d, .ms site z 0 (rows.length + 1)) :: Γ) H2) → vcStep P T site (some d) (.call { callee := .builtin .append, args := #[s, x], argTypes := #[t, t] }) Γ H (xOps P T n all l (site + 1) K d2) := fun d2 hh =>
    st_app hs hx hl he hz hi ho hb hn hh
  have mono : ∀ (dc : Known) (A B : Known → Prop), (∀ d2, A d2 → B d2) → knOut dc d A → knOut dc d B := by
    intro dc
    induction dc with
    | nil => intro A B hab ha; exact hab _ ha
    | cons q dc ih =>
      obtain ⟨k, bb⟩ := q
      intro A B hab ha
      simp only [knOut] at ha ⊢
      split
      · rename_i hk; rw [hk] at ha; exact ih A B hab ha
      · rename_i hk; rw [hk] at ha; exact ih _ _ (fun d2 h2 => hab _ h2) ha
  exact mono dc _ _ key h
theorem st_appD {site idx b size bytes : Nat} {agg eagg fz : Bool} {zero ezero : List PV} {etk : TK} {s x : Operand} {t : TypeId} {d : Tmp} {Γ : Slots} {H : Heap} {K : Slots → Heap → List Nat × List Nat → Prop} (hs : ev Γ s = some (slP id z rows)) (hx : ev Γ x = some (.ms idx z 0 1)) (hl : Cw.look T t = some ⟨size, bytes, agg, .slice ty, zero⟩) (he : Cw.look T ty = some ⟨z, b, eagg, etk, ezero⟩) (hz : Nat.blt 0 z = true)
    (hi : H[idx]? = some (some ⟨ty, z, fz, .p [r]⟩)) (ho : H[id]? = some (obP ty z rows)) (hb : (rows.length + 1) * b ≤ 140737488355328) (hn : rows.length + 1 ≤ 9223372036854775807)
    (h : (forceH (app H [(id, none), (site, some ⟨ty, z, false, .p (rows ++ [r])⟩)]) fun H2 => K ((d, .ms site z 0 (rows.length + 1)) :: Γ) H2 ([idx], [site])) ∧ forceH (app H [(id, none), (site, some ⟨ty, z, false, .p (rows ++ [r])⟩)]) fun H2 => K ((d, .ms site z 0 (rows.length + 1)) :: Γ) H2 ([id, idx], [id, site])) :
    vcStepD P T site (some d) (.call { callee := .builtin .append, args := #[s, x], argTypes := #[t, t] }) Γ H K := by
  have hbq : Nat.beq t t = true := Nat.beq_refl t
  have hzz : Nat.beq z z = true := Nat.beq_refl z
  have hty : Nat.beq ty ty = true := Nat.beq_refl ty
  simp only [forceH_eq] at h
  obtain ⟨h1, h2⟩ := h
  cases rows with
  | nil =>
    rw [app_none ho] at h1
    simp only [vcStepD, vcOp, hbq, hs, hx, vcAppend, hl, he, srcOk, hzz, hz, srcRows, hi, Bool.and_self, Bool.true_and, slP, nilA, eqv_eq, putK, forceV, appK, forceH_eq]
    refine ⟨rfl, by simpa [rowsLen] using hb, by simp [rowsLen], fun _ => ?_, fun e => by simp [rowsLen] at e⟩
    exact h1
  | cons a l =>
    simp only [vcStepD, vcOp, hbq, hs, hx, vcAppend, hl, he, srcOk, hzz, hz, srcRows, hi, ho, obP, Bool.and_self, Bool.true_and, slP, eqv_eq, putK, forceV, appK, forceH_eq, Bool.not_false, hty, dropR, catRows, List.drop_zero]
    refine ⟨by simp [rowsLen], rfl, by simpa [rowsLen] using hb, by simpa [rowsLen] using hn, ?_⟩
    have e : rowsLen (.p (a :: l ++ List.take 1 [r])) = (a :: l).length + 1 := by simp [rowsLen]
    rw [e]
    exact h2
theorem o_appD {n site idx b size bytes : Nat} {agg eagg fz : Bool} {zero ezero : List PV} {etk : TK} {s x : Operand} {t : TypeId} {d : Tmp} {Γ : Slots} {H : Heap} {KD : List (List Nat × List Nat) → Slots → Heap → Prop} {fs : List (List Nat × List Nat)} {o : Oper} {all l : List Oper} {dc : Known}
    (hop : o.op = .call { callee := .builtin .append, args := #[s, x], argTypes := #[t, t] }) (hg : o.guard = none) (hd : o.dst = some d) (hdn : Nat.blt d n = true) (hs : ev Γ s = some (slP id z rows)) (hx : ev Γ x = some (.ms idx z 0 1)) (hl : Cw.look T t = some ⟨size, bytes, agg, .slice ty, zero⟩) (he : Cw.look T ty = some ⟨z, b, eagg, etk, ezero⟩) (hz : Nat.blt 0 z = true)
    (hi : H[idx]? = some (some ⟨ty, z, fz, .p [r]⟩)) (ho : H[id]? = some (obP ty z rows)) (hb : (rows.length + 1) * b ≤ 140737488355328) (hn : rows.length + 1 ≤ 9223372036854775807)
    (h : knOut dc d fun d2 => (forceH (app H [(id, none), (site, some ⟨ty, z, false, .p (rows ++ [r])⟩)]) fun H2 => xOpsD P T n all l (site + 1) KD (([idx], [site]) :: fs) d2 ((d, .ms site z 0 (rows.length + 1)) :: Γ) H2) ∧ forceH (app H [(id, none), (site, some ⟨ty, z, false, .p (rows ++ [r])⟩)]) fun H2 => xOpsD P T n all l (site + 1) KD (([id, idx], [id, site]) :: fs) d2 ((d, .ms site z 0 (rows.length + 1)) :: Γ) H2) :
    xOpsD P T n all (o :: l) site KD fs dc Γ H := by
  refine opsD_cons ?_
  have e1 : dstOk n o = true := by unfold dstOk; rw [hd]; exact hdn
  have e2 : isAlloc o.op = true := by rw [hop]; rfl
  rw [e1, e2]
  show vcGuard all Γ dc o.guard _ _
  rw [hg]
  simp only [vcGuard, knPut, hd, hop, knRes, simpOp]
  exact knOut_mono dc _ _ (fun d2 hh => st_appD hs hx hl he hz hi ho hb hn hh) h
theorem ren_sl {d : Nat} {rn : List Nat} : renC d rn (slP id z rows) = slP (rn.getD id d) z rows := by
  cases rows <;> simp [slP, nilA, renC]
theorem ren_get {d : Nat} {rn : List Nat} {Γ : Slots} {s : Nat} (h : get Γ s = some (slP (rn.getD id d) z rows)) : get Γ s = some (renC d rn (slP id z rows)) := by rw [ren_sl]; exact h
theorem kept_ob {H Hc : Heap} {d i : Nat} {rn l : List Nat} (h : H[i]? = some (obP ty z rows)) (hk : kept H d rn l Hc) : kept H d rn (i :: l) (obP ty z rows :: Hc) := by
  cases rows with
  | nil => exact hk
  | cons a l' => exact ⟨h, hk⟩
theorem loop_for {n nh : Nat} {a : Code} {Q : Exit → Slots → Heap → Prop} {Γ : Slots} {H : Heap} {X : Type} (g : X → Slots) (hp : X → Heap) (cond : X → Prop) (μ : X → Nat) (x0 : X) (h0 : cond x0) (he : Ghost n nh Γ H (g x0) (hp x0))
    (hb : ∀ x, cond x → forceH (hp x) fun H1 => xCode P T n nh a (thenQ (fun Γ' H' => ∃ x', cond x' ∧ μ x' < μ x ∧ Ghost n nh Γ' H' (g x') (hp x')) Q) (g x) H1) : xCode P T n nh (.loop a) Q Γ H := by
  refine code_loop (fun x => ⟨g x, hp x⟩) cond μ ⟨x0, h0, he⟩ fun x hx => ?_
  have := hb x hx
  rw [forceH_eq] at this
  exact this
theorem kept_bx {H Hc : Heap} {d i : Nat} {rn l : List Nat} {ty' z' : Nat} {fz : Bool} {cs cs' : List AV} (e : renL d rn cs = cs') (h : H[i]? = some (some ⟨ty', z', fz, .box cs'⟩)) (hk : kept H d rn l Hc) : kept H d rn (i :: l) (some ⟨ty', z', fz, .box cs⟩ :: Hc) := by
  subst e
  exact ⟨h, hk⟩
theorem conv_sl {H : Heap} (ho : H[id]? = some (obP ty z rows)) : ∃ r0, conv H (slP id z rows) = some r0 ∧ ok1 H (slP id z rows) ∧ ALe r0 (.pv (.sl z rows)) := by
  cases rows with
  | nil => exact ⟨_, rfl, trivial, ALe.pv PLe.nil⟩
  | cons a l =>
    refine ⟨.pv (.sl z (a :: l)), ?_, ?_, ALe.refl⟩
    · simp only [slP, conv, conv1, convC, ho, obP]
      simp
    · simp only [slP, ok1, ok0, okC, ho, obP]
      simp
theorem ids_sl {H : Heap} (ho : H[id]? = some (obP ty z rows)) : ∀ i : Nat, i ≠ id → (app H (frz H (ids1 H (slP id z rows))))[i]? = H[i]? := fun i hne => by
  cases rows with
  | nil => rfl
  | cons a l =>
    have hi : ids1 H (slP id z (a :: l)) = [id] := by
      show idsC H 5 (.ms id z 0 (a :: l).length) = _
      simp only [idsC, ho, obP]; rfl
    rw [hi]
    simp only [frz, ho, obP, app]
    rw [List.getElem?_set, if_neg (fun e => hne e.symm)]
theorem subH_refl : ∀ H : Heap, subH H H
  | [] => trivial
  | none :: l => subH_refl l
  | some o :: l => ⟨rfl, subH_refl l⟩
theorem Ghost.sl {n nh s : Nat} {Γ Γ2 : Slots} {H H2 : Heap} (h : get Γ s = some (slP id z rows)) (ho : H[id]? = some (obP ty z rows))
    (k : ∀ H' : Heap, H'.length = H.length → (∀ i : Nat, i ≠ id → H'[i]? = H[i]?) → Ghost n nh ((s, .pv (.sl z rows)) :: Γ) H' Γ2 H2) : Ghost n nh Γ H Γ2 H2 := by
  obtain ⟨r0, h1, h2, h3⟩ := conv_sl ho
  have g1 := Ghost.freeze (n := n) (nh := nh) h h1 h2
  have g2 := Ghost.weak (n := n) (nh := nh) (Γ := (s, r0) :: Γ) (H := app H (frz H (ids1 H (slP id z rows)))) (s := s) (x := r0) (y := .pv (.sl z rows)) (by rw [get_cons, if_pos rfl]) h3
  have g3 : Ghost n nh ((s, .pv (.sl z rows)) :: (s, r0) :: Γ) (app H (frz H (ids1 H (slP id z rows)))) ((s, .pv (.sl z rows)) :: Γ) (app H (frz H (ids1 H (slP id z rows)))) := Ghost.le (fun t y hy => by
    rw [get_cons] at hy
    split at hy
    · rename_i e
      exact ⟨y, by rw [get_cons, if_pos e]; exact hy, ALe.refl⟩
    · rename_i e
      exact ⟨y, by rw [get_cons, if_neg e, get_cons, if_neg e]; exact hy, ALe.refl⟩) (subH_refl _)
  exact ((g1.trans g2).trans g3).trans (k _ (by rw [app_length]) (ids_sl ho))
theorem Ghost.shut_sl {n nh i c ty' z' : Nat} {fz : Bool} {cs : List AV} {Γ Γ2 : Slots} {H H2 : Heap} (hi : H[i]? = some (some ⟨ty', z', fz, .box cs⟩)) (hx : cs[c]? = some (slP id z rows)) (ho : H[id]? = some (obP ty z rows)) (hne : i ≠ id)
    (k : ∀ H' : Heap, H'.length = H.length → H'[i]? = some (some ⟨ty', z', fz, .box (cs.set c (.pv (.sl z rows)))⟩) → (∀ j : Nat, j ≠ id → j ≠ i → H'[j]? = H[j]?) → Ghost n nh Γ H' Γ2 H2) : Ghost n nh Γ H Γ2 H2 := by
  obtain ⟨r0, h1, h2, h3⟩ := conv_sl ho
  have hn : i ∉ ids1 H (slP id z rows) := by
    cases rows with
    | nil => exact List.not_mem_nil
    | cons a l =>
      have e : ids1 H (slP id z (a :: l)) = [id] := by
        show idsC H 5 (.ms id z 0 (a :: l).length) = _
        simp only [idsC, ho, obP]; rfl
      rw [e]; simpa using hne
  have g := Ghost.shut (n := n) (nh := nh) (Γ := Γ) hi hx h1 h2 hn h3
  have hlt := (List.getElem?_eq_some_iff.1 hi).1
  refine g.trans (k _ (by rw [List.length_set, app_length]) ?_ fun j hj1 hj2 => ?_)
  · rw [List.getElem?_set, if_pos rfl, if_pos (by rw [app_length]; exact hlt)]
  · rw [List.getElem?_set, if_neg (fun e => hj2 e.symm)]
    exact ids_sl ho j hj1
theorem ret_sl {H : Heap} {Post : AV → Prop} (ho : H[id]? = some (obP ty z rows)) (h : Post (.pv (.sl z rows))) (hp : ∀ r r', ALe r r' → Post r' → Post r) : retOk 0 (slP id z rows) H (fun r H' => H' = [] ∧ Post r) := by
  obtain ⟨r0, h1, h2, h3⟩ := conv_sl ho
  exact ret_pure h1 h2 (hp _ _ h3 h)
theorem leq_down {x : AV} : ∀ r r', ALe r r' → Leq r' x → Leq r x := fun r r' h k => ⟨fun I β w v hv => k.le I β w v (h I β w v hv)⟩
end
end Go.Proofs.YtihpjcmloecaaaaGreat.Cw
/-
  Slices that grow whose rows hold slices of their own.
-/
namespace Go.Proofs.YtihpjcmloecaaaaGreat.Cw
open Go.Cw Go.Proofs
set_option linter.unusedVariables false
def slC (id z : Nat) (rows : List (List AV)) : AV := match rows with
  | [] => .clip z []
  | _ :: l => .ms id z 0 (l.length + 1)
def obM (ty z : Nat) (rows : List (List AV)) : Option AObj := match rows with
  | [] => none
  | _ :: _ => some ⟨ty, z, false, .m rows⟩
theorem nil_clip (z : Nat) : ALe nilA (.clip z []) := fun I β w v hv => by
  have hv : ARel I β w (.pv (.val (.slice none 0 0))) v := hv
  cases hv with
  | pv h => cases h with
    | val v => exact .clip (.sl (fun _ _ => undef) (Nat.le_refl _) (fun i r h => by simp at h) fun i r j p h => by simp at h)
section
variable {P : Program} {T : Tab} {id z ty : Nat} {rows : List (List AV)} {r : List AV}
theorem fv_slC {K : AV → Prop} (h : K (slC id z rows)) : forceV (slC id z rows) K := by
  cases rows <;> exact h
theorem fh_obM {l : Heap} {K : Heap → Prop} (h : forceH l fun l' => K (obM ty z rows :: l')) : forceH (obM ty z rows :: l) K := by
  rw [forceH_eq] at *
  exact h
theorem slC_app (a : List (List AV)) (x : List AV) : slC id z (a ++ [x]) = .ms id z 0 (a.length + 1) := by
  cases a with
  | nil => rfl
  | cons b l => simp [slC]
theorem slC_pos (h : 0 < rows.length) : slC id z rows = .ms id z 0 rows.length := by
  cases rows with
  | nil => simp at h
  | cons b l => rfl
theorem obM_app (a : List (List AV)) (x : List AV) : obM ty z (a ++ [x]) = some ⟨ty, z, false, .m (a ++ [x])⟩ := by
  cases a <;> rfl
theorem obM_pos (h : 0 < rows.length) : obM ty z rows = some ⟨ty, z, false, .m rows⟩ := by
  cases rows with
  | nil => simp at h
  | cons b l => rfl
theorem st_appC {site idx b size bytes : Nat} {agg eagg fz : Bool} {zero ezero : List PV} {etk : TK} {s x : Operand} {t : TypeId} {d : Tmp} {Γ : Slots} {H : Heap} {K : Slots → Heap → Prop} (hs : ev Γ s = some (slC id z rows)) (hx : ev Γ x = some (.ms idx z 0 1)) (hl : Cw.look T t = some ⟨size, bytes, agg, .slice ty, zero⟩) (he : Cw.look T ty = some ⟨z, b, eagg, etk, ezero⟩) (hz : Nat.blt 0 z = true)
    (hi : H[idx]? = some (some ⟨ty, z, fz, .m [r]⟩)) (ho : H[id]? = some (obM ty z rows)) (hb : (rows.length + 1) * b ≤ 140737488355328) (hn : rows.length + 1 ≤ 9223372036854775807)
    (h : forceH (app H [(id, none), (site, some ⟨ty, z, false, .m (rows ++ [r])⟩)]) fun H2 => K ((d, .ms site z 0 (rows.length + 1)) :: Γ) H2) :
    vcStep P T site (some d) (.call { callee := .builtin .append, args := #[s, x], argTypes := #[t, t] }) Γ H K := by
  have hbq : Nat.beq t t = true := Nat.beq_refl t
  have hzz : Nat.beq z z = true := Nat.beq_refl z
  have hty : Nat.beq ty ty = true := Nat.beq_refl ty
  rw [forceH_eq] at h
  cases rows with
  | nil =>
    rw [app_none ho] at h
    simp only [vcStep, vcOp, hbq, hs, hx, vcAppend, hl, he, srcOk, hzz, hz, srcRows, hi, Bool.and_self, Bool.true_and, slC, catRows, List.map_nil, List.nil_append, eqv_eq, putK, forceV, appK, forceH_eq]
    refine ⟨by simp [srcLen, rowsLen], by simpa [rowsLen] using hb, by simp [rowsLen], fun _ => ?_, fun e => by simp [rowsLen] at e⟩
    exact h
  | cons a l =>
    simp only [vcStep, vcOp, hbq, hs, hx, vcAppend, hl, he, srcOk, hzz, hz, srcRows, hi, ho, obM, Bool.and_self, Bool.true_and, slC, eqv_eq, putK, forceV, appK, forceH_eq, Bool.not_false, hty, dropR, catRows, List.drop_zero]
    refine ⟨by simp [rowsLen], rfl, by simpa [rowsLen] using hb, by simpa [rowsLen] using hn, ?_⟩
    have e : rowsLen (.m (a :: l ++ List.take 1 [r])) = (a :: l).length + 1 := by simp [rowsLen]
    rw [e]
    exact h
theorem o_appC {n site idx b size bytes : Nat} {agg eagg fz : Bool} {zero ezero : List PV} {etk : TK} {s x : Operand} {t : TypeId} {d : Tmp} {Γ : Slots} {H : Heap} {K : Slots → Heap → Prop} {o : Oper} {all l : List Oper} {dc : Known}
    (hop : o.op = .call { callee := .builtin .append, args := #[s, x], argTypes := #[t, t] }) (hg : o.guard = none) (hd : o.dst = some d) (hdn : Nat.blt d n = true) (hs : ev Γ s = some (slC id z rows)) (hx : ev Γ x = some (.ms idx z 0 1)) (hl : Cw.look T t = some ⟨size, bytes, agg, .slice ty, zero⟩) (he : Cw.look T ty = some ⟨z, b, eagg, etk, ezero⟩) (hz : Nat.blt 0 z = true)
    (hi : H[idx]? = some (some ⟨ty, z, fz, .m [r]⟩)) (ho : H[id]? = some (obM ty z rows)) (hb : (rows.length + 1) * b ≤ 140737488355328) (hn : rows.length + 1 ≤ 9223372036854775807)
    (h : knOut dc d fun d2 => forceH (app H [(id, none), (site, some ⟨ty, z, false, .m (rows ++ [r])⟩)]) fun H2 => xOps P T n all l (site + 1) K d2 ((d, .ms site z 0 (rows.length + 1)) :: Γ) H2) :
    xOps P T n all (o :: l) site K dc Γ H := by
  refine ops_cons ?_
  have e1 : dstOk n o = true := by unfold dstOk; rw [hd]; exact hdn
  have e2 : isAlloc o.op = true := by rw [hop]; rfl
  rw [e1, e2]
  show vcGuard all Γ dc o.guard _ _
  rw [hg]
  simp only [vcGuard, knPut, hd, hop, knRes, simpOp]
  exact knOut_mono1 dc _ _ (fun d2 hh => st_appC hs hx hl he hz hi ho hb hn hh) h
theorem eachReady_of {ops : Array Oper} {rem : List Nat} {F : Nat → Prop} : ∀ {l : List Nat}, (∀ j ∈ l, readyIn ops rem j = true → F j) → eachReady ops rem F l
  | [], _ => True.intro
  | j :: l, h => by
    have ih := eachReady_of (l := l) fun i hi => h i (List.mem_cons_of_mem _ hi)
    unfold eachReady
    cases e : readyIn ops rem j with
    | true => exact ⟨h j (by simp) e, ih⟩
    | false => exact ih
theorem any_one {n fuel j site : Nat} {o : Oper} {ops : Array Oper} {rem0 rem1 : List Nat} {K : Slots → Heap → Prop} {Γ : Slots} {H : Heap} (ho : ops[j]? = some o) (hr : (j :: rem0).filter (readyIn ops (j :: rem0)) = [j]) (hd : dstOk n o = true) (ha : isAlloc o.op = true) (hg : o.guard = none) (hs : simpOp [] o.op = o.op) (hw : without j (j :: rem0) = rem1)
    (h : vcStep P T site o.dst o.op Γ H (xAny P T n ops fuel rem1 (site + 1) K)) : xAny P T n ops (fuel + 1) (j :: rem0) site K Γ H := by
  refine any_step ?_
  have hj : readyIn ops (j :: rem0) j = true := by
    have : j ∈ (j :: rem0).filter (readyIn ops (j :: rem0)) := by rw [hr]; simp
    exact (List.mem_filter.1 this).2
  have hany : (j :: rem0).any (readyIn ops (j :: rem0)) = true := List.any_eq_true.2 ⟨j, by simp, hj⟩
  rw [hany]
  refine eachReady_of fun i hi hri => ?_
  have : i ∈ (j :: rem0).filter (readyIn ops (j :: rem0)) := List.mem_filter.2 ⟨hi, hri⟩
  rw [hr] at this
  obtain rfl := List.mem_singleton.1 this
  simp only [ho, hd, ha, hg, vcGuard, hs, hw]
  exact h
end
end Go.Proofs.YtihpjcmloecaaaaGreat.Cw
/-
  Models: their data, and what a valid one is.
-/
namespace Go.Proofs.YtihpjcmloecaaaaGreat.Cw
open Go.Cw Go.Proofs
set_option linter.unusedVariables false
set_option maxRecDepth 100000
structure Placed where
  (time : Time)
  (room : Int)
def Placed.row (p : Placed) : List PV := [ei p.time.weeks, ei p.time.day, ei p.time.start, ei p.time.len, ei p.room]
structure Charge where
  (rule cost : Int)
def Charge.row (c : Charge) : List PV := [ei c.rule, ei c.cost]
structure Opt where
  (place : Placed)
  (charges : List Charge)
def Opt.row (o : Opt) : List PV := [ei o.place.time.weeks, ei o.place.time.day, ei o.place.time.start, ei o.place.time.len, ei o.place.room, .sl 2 (o.charges.map Charge.row)]
structure Pair where
  (first second rule : Int)
  (table : List Int)
def Pair.row (p : Pair) : List PV := [ei p.first, ei p.second, ei p.rule, encInts p.table]
structure Load where
  (cls opt weight : Int)
def Load.row (l : Load) : List PV := [ei l.cls, ei l.opt, ei l.weight]
structure Count where
  (rule : Int)
  (loads : List Load)
  (most penalty : Int)
def Count.row (c : Count) : List PV := [ei c.rule, .sl 3 (c.loads.map Load.row), ei c.most, ei c.penalty]
structure Model where
  (classes : List (List Opt))
  (pairs : List Pair)
  (counts : List Count)
  (rules : Int)
def optsRow (l : List Opt) : List PV := [.sl 6 (l.map Opt.row)]
def Model.cells (m : Model) : List PV := [.sl 1 (m.classes.map optsRow), .sl 4 (m.pairs.map Pair.row), .sl 4 (m.counts.map Count.row), ei m.rules]
def BIG : Nat := 9223372036854775807
structure Laid (m : Model) : Prop where
  cn : m.classes.length ≤ 9223372036854775807
  pn : m.pairs.length ≤ 9223372036854775807
  ch : ∀ l ∈ m.classes, ∀ o ∈ l, o.charges.length ≤ 9223372036854775807
  ld : ∀ c ∈ m.counts, c.loads.length ≤ 9223372036854775807
def priceP (n : Int) : Prop := (1 ≤ n ∧ n ≤ 1048576) ∨ n = 1099511627776
def ruleP (m : Model) (n : Int) : Prop := 0 ≤ n ∧ n < m.rules
def optionP (m : Model) (c o : Int) : Prop := 0 ≤ c ∧ 0 ≤ o ∧ ∃ l, m.classes[c.toNat]? = some l ∧ o < l.length
def sizedP (m : Model) : Prop := m.classes.length ≤ 24 ∧ (∀ l ∈ m.classes, l.length ≤ 24) ∧ m.pairs.length ≤ 4000 ∧ m.counts.length ≤ 800 ∧ 0 ≤ m.rules ∧ m.rules ≤ 56
def chargeAt (m : Model) (l : List Charge) (i : Nat) : Prop := ∀ c, l[i]? = some c → ruleP m c.rule ∧ priceP c.cost ∧ ∀ k b, i = k + 1 → l[k]? = some b → b.rule < c.rule
def chargesP (m : Model) (o : Opt) : Prop := ∀ i, i < o.charges.length → chargeAt m o.charges i
def pairP (m : Model) (p : Pair) : Prop := ruleP m p.rule ∧ 0 ≤ p.first ∧ p.first < p.second ∧ (∃ a b, m.classes[p.first.toNat]? = some a ∧ m.classes[p.second.toNat]? = some b ∧ p.table.length = a.length * b.length) ∧ ∀ n ∈ p.table, n = 0 ∨ priceP n
def pairLt (p q : Pair) : Prop := p.rule < q.rule ∨ (p.rule = q.rule ∧ (p.first < q.first ∨ (p.first = q.first ∧ p.second < q.second)))
def pairAt (m : Model) (i : Nat) : Prop := ∀ p, m.pairs[i]? = some p → pairP m p ∧ ∀ k q, i = k + 1 → m.pairs[k]? = some q → pairLt q p
def loadAt (m : Model) (l : List Load) (i : Nat) : Prop := ∀ x, l[i]? = some x → optionP m x.cls x.opt ∧ 1 ≤ x.weight ∧ x.weight ≤ 1000 ∧ ∀ k y, i = k + 1 → l[k]? = some y → y.cls < x.cls ∨ (y.cls = x.cls ∧ y.opt < x.opt)
def countP_ (m : Model) (c : Count) : Prop := ruleP m c.rule ∧ 0 ≤ c.most ∧ c.most ≤ 1048576 ∧ priceP c.penalty ∧ ∀ i, i < c.loads.length → loadAt m c.loads i
def goodP (m : Model) : Prop := (∀ l ∈ m.classes, ∀ o ∈ l, chargesP m o) ∧ (∀ i, i < m.pairs.length → pairAt m i) ∧ ∀ c ∈ m.counts, countP_ m c
noncomputable def modelE (m : Model) : Int := if pB (sizedP m) then (if pB (goodP m) then 0 else 1) else 2
theorem mE2 {m : Model} (h : ¬ sizedP m) : modelE m = 2 := by unfold modelE; rw [pB_f h]; rfl
theorem mE1 {m : Model} (h0 : sizedP m) (h : ¬ goodP m) : modelE m = 1 := by unfold modelE; rw [pB_t h0, pB_f h]; rfl
theorem mE0 {m : Model} (h0 : sizedP m) (h : goodP m) : modelE m = 0 := by unfold modelE; rw [pB_t h0, pB_t h]; rfl
end Go.Proofs.YtihpjcmloecaaaaGreat.Cw
/-
  Contracts: prices, rules, options of models.
-/
namespace Go.Proofs.YtihpjcmloecaaaaGreat.Cw
open Go.Cw Go.Proofs
set_option linter.unusedVariables false
set_option maxRecDepth 100000
set_option maxHeartbeats 800000
theorem c_cost (n : Int) : PCall Tryz.prog 106 [vint .i64 n] (fun r => r = vbool (pB (priceP n))) := by
  refine acall_of tok mixed 13 rfl (fn := Tryz.f106) (c := Tryz.f106.body.getD .skip) (by kernel_rfl) (by kernel_rfl) (by kernel_rfl) rfl 0 rfl ?_
  repeat' (first | refine o1 ?_ | refine o2 ?_ | refine k1 ?_ | refine k2 ?_ | refine k7 ?_ | refine And.intro ?_ ?_ | (intro h; first | exact Bool.noConfusion h | exact nz _ h | exact nl h | (simp at h; done) | (simp at h; first | (exfalso; omega) | skip) | skip) | (change retOk _ _ _ _; refine ret_pure rfl trivial ?_) | fail)
  all_goals (refine congrArg vbool (pB_eq ?_); unfold priceP; simp; omega)
theorem c_rcost (n : Int) : PCall Tryz.prog 64 [vint .i64 n] (fun r => r = vbool (pB (priceP n))) := by
  refine acall_of tok mixed 13 rfl (fn := Tryz.f64) (c := Tryz.f64.body.getD .skip) (by kernel_rfl) (by kernel_rfl) (by kernel_rfl) rfl 0 rfl ?_
  repeat' (first | refine o1 ?_ | refine o2 ?_ | refine k1 ?_ | refine k2 ?_ | refine k7 ?_ | refine And.intro ?_ ?_ | (intro h; first | exact Bool.noConfusion h | exact nz _ h | exact nl h | (simp at h; done) | (simp at h; first | (exfalso; omega) | skip) | skip) | (change retOk _ _ _ _; refine ret_pure rfl trivial ?_) | fail)
  all_goals (refine congrArg vbool (pB_eq ?_); unfold priceP; simp; omega)
theorem c_named (m : Model) (n : Int) : PCall Tryz.prog 105 [ag m.cells, vint .i64 n] (fun r => r = vbool (pB (ruleP m n))) := by
  refine acall_of tok mixed 13 rfl (fn := Tryz.f105) (c := Tryz.f105.body.getD .skip) (by kernel_rfl) (by kernel_rfl) (by kernel_rfl) rfl 0 rfl ?_
  repeat' (first | refine o1 ?_ | refine o2 ?_ | refine k1 ?_ | refine k2 ?_ | refine k7 ?_ | refine And.intro ?_ ?_ | (intro h; first | exact Bool.noConfusion h | exact nz _ h | exact nl h | (simp at h; done) | (simp at h; first | (exfalso; omega) | skip) | skip) | (change retOk _ _ _ _; refine ret_pure rfl trivial ?_) | fail)
  all_goals (refine congrArg vbool (pB_eq ?_); unfold ruleP; simp; omega)
theorem c_rnamed (m : Model) (n : Int) : PCall Tryz.prog 63 [ag m.cells, vint .i64 n] (fun r => r = vbool (pB (ruleP m n))) := by
  refine acall_of tok mixed 13 rfl (fn := Tryz.f63) (c := Tryz.f63.body.getD .skip) (by kernel_rfl) (by kernel_rfl) (by kernel_rfl) rfl 0 rfl ?_
  repeat' (first | refine o1 ?_ | refine o2 ?_ | refine k1 ?_ | refine k2 ?_ | refine k7 ?_ | refine And.intro ?_ ?_ | (intro h; first | exact Bool.noConfusion h | exact nz _ h | exact nl h | (simp at h; done) | (simp at h; first | (exfalso; omega) | skip) | skip) | (change retOk _ _ _ _; refine ret_pure rfl trivial ?_) | fail)
  all_goals (refine congrArg vbool (pB_eq ?_); unfold ruleP; simp; omega)
theorem option_iff {m : Model} {n : Nat} {o : Int} {l : List Opt} (hl : m.classes[n]? = some l) : optionP m n o ↔ 0 ≤ o ∧ o < l.length := by
  unfold optionP
  rw [Int.toNat_natCast, hl]
  constructor
  · rintro ⟨h1, h2, l', h3, h4⟩; cases h3; exact ⟨h2, h4⟩
  · rintro ⟨h1, h2⟩; exact ⟨by omega, h1, l, rfl, h2⟩
theorem option_f {m : Model} {c o : Int} (h : ¬ (0 ≤ c ∧ c < m.classes.length)) : ¬ optionP m c o := fun ⟨h1, h2, l, h3, h4⟩ => by
  have := (List.getElem?_eq_some_iff.1 h3).1
  omega
theorem c_option (m : Model) (c o : Int) : PCall Tryz.prog 99 [ag m.cells, vint .i64 c, vint .i64 o] (fun r => r = vbool (pB (optionP m c o))) := by
  by_cases h : 0 ≤ c ∧ c < m.classes.length
  · obtain ⟨h1, h2⟩ := h
    obtain ⟨n, rfl⟩ := Int.eq_ofNat_of_zero_le h1
    obtain ⟨l, hl⟩ := getE (show n < m.classes.length by omega)
    refine acall_of tok mixed 30 rfl (fn := Tryz.f99) (c := Tryz.f99.body.getD .skip) (by kernel_rfl) (by kernel_rfl) (by kernel_rfl) rfl 0 rfl ?_
    rw [pB_iff (option_iff hl)]
    repeat' (first | (refine idx_sl (k := n) (at_map hl) (by omega) ?_) | refine o1 ?_ | refine o2 ?_ | refine k1 ?_ | refine k2 ?_ | refine k7 ?_ | refine And.intro ?_ ?_ | (intro h; first | exact Bool.noConfusion h | exact nz _ h | exact nl h | (simp at h; done) | (simp at h; first | (exfalso; omega) | skip) | skip) | (change retOk _ _ _ _; refine ret_pure rfl trivial ?_) | refine eqv_len_map ?_ | fail)
    all_goals first
      | (exfalso; omega)
      | (refine congrArg vbool (pB_eq ?_); simp; omega)
  · refine acall_of tok mixed 30 rfl (fn := Tryz.f99) (c := Tryz.f99.body.getD .skip) (by kernel_rfl) (by kernel_rfl) (by kernel_rfl) rfl 0 rfl ?_
    rw [pB_f (option_f h)]
    repeat' (first | refine o1 ?_ | refine o2 ?_ | refine k1 ?_ | refine k2 ?_ | refine k7 ?_ | refine And.intro ?_ ?_ | (intro h; first | exact Bool.noConfusion h | exact nz _ h | exact nl h | (simp at h; done) | (simp at h; first | (exfalso; omega) | skip) | skip) | (change retOk _ _ _ _; refine ret_pure rfl trivial ?_) | refine eqv_len_map ?_ | fail)
    all_goals first
      | exact rfl
      | (exfalso; omega)
theorem c_roption (m : Model) (c o : Int) : PCall Tryz.prog 94 [ag m.cells, vint .i64 c, vint .i64 o] (fun r => r = vbool (pB (optionP m c o))) := by
  by_cases h : 0 ≤ c ∧ c < m.classes.length
  · obtain ⟨h1, h2⟩ := h
    obtain ⟨n, rfl⟩ := Int.eq_ofNat_of_zero_le h1
    obtain ⟨l, hl⟩ := getE (show n < m.classes.length by omega)
    refine acall_of tok mixed 30 rfl (fn := Tryz.f94) (c := Tryz.f94.body.getD .skip) (by kernel_rfl) (by kernel_rfl) (by kernel_rfl) rfl 0 rfl ?_
    rw [pB_iff (option_iff hl)]
    repeat' (first | (refine idx_sl (k := n) (at_map hl) (by omega) ?_) | refine o1 ?_ | refine o2 ?_ | refine k1 ?_ | refine k2 ?_ | refine k7 ?_ | refine And.intro ?_ ?_ | (intro h; first | exact Bool.noConfusion h | exact nz _ h | exact nl h | (simp at h; done) | (simp at h; first | (exfalso; omega) | skip) | skip) | (change retOk _ _ _ _; refine ret_pure rfl trivial ?_) | refine eqv_len_map ?_ | fail)
    all_goals first
      | (exfalso; omega)
      | (refine congrArg vbool (pB_eq ?_); simp; omega)
  · refine acall_of tok mixed 30 rfl (fn := Tryz.f94) (c := Tryz.f94.body.getD .skip) (by kernel_rfl) (by kernel_rfl) (by kernel_rfl) rfl 0 rfl ?_
    rw [pB_f (option_f h)]
    repeat' (first | refine o1 ?_ | refine o2 ?_ | refine k1 ?_ | refine k2 ?_ | refine k7 ?_ | refine And.intro ?_ ?_ | (intro h; first | exact Bool.noConfusion h | exact nz _ h | exact nl h | (simp at h; done) | (simp at h; first | (exfalso; omega) | skip) | skip) | (change retOk _ _ _ _; refine ret_pure rfl trivial ?_) | refine eqv_len_map ?_ | fail)
    all_goals first
      | exact rfl
      | (exfalso; omega)
end Go.Proofs.YtihpjcmloecaaaaGreat.Cw
/-
  Contracts: searching the lists of models; charges; sizes.
-/
namespace Go.Proofs.YtihpjcmloecaaaaGreat.Cw
open Go.Cw Go.Proofs
set_option linter.unusedVariables false
set_option maxRecDepth 100000
set_option maxHeartbeats 800000
theorem c_index_opt (l : List Opt) (f : FuncId) (caps : List PV) (p : Opt → Bool) (hl : l.length ≤ 100000) (hf : ∀ x ∈ l, PCall Tryz.prog f (ag (Opt.row x) :: pvs caps) (fun r => r = vbool (p x))) :
    PCall Tryz.prog 97 [.pv (.sl 6 (l.map Opt.row)), .pv (.fn f caps)] (fun r => r = vint .i64 (idxB p l)) := by
  refine acall_of tok mixed 19 rfl (fn := Tryz.f97) (c := Tryz.f97.body.getD .skip) (by kernel_rfl) (by kernel_rfl) (by kernel_rfl) rfl 0 rfl ?_
  repeat' (first | refine o1 ?_ | refine o2 ?_ | refine k1 ?_ | refine k2 ?_ | refine k4 ?_ | refine eqv_len_map ?_ | fail)
  refine loop_at (fun i : Nat => [(8, vint .i64 i)]) (fun _ => []) (fun i => i ≤ l.length ∧ ∀ j, j < i → ∀ y, l[j]? = some y → p y = false) (fun i => l.length - i) 0 ⟨by omega, fun j hj => by omega⟩ (by repeat' (first | exact trivial | exact ⟨_, rfl, ALe.refl⟩ | refine And.intro ?_ ?_)) (by repeat' (first | exact trivial)) ?_
  intro i ⟨hi, hall⟩
  rcases Nat.lt_or_ge i l.length with hlt | hge
  · obtain ⟨x, hx⟩ := getE hlt
    have hm := List.mem_of_getElem? hx
    repeat' (first | refine o1 ?_ | refine o2 ?_ | refine k1 ?_ | refine k2 ?_ | refine k3 ?_ | refine k4 ?_ | refine k6 ?_ | refine k7 ?_ | refine And.intro ?_ ?_ | (intro h; first | exact Bool.noConfusion h | exact nz _ h | exact nl h | (simp at h; done) | (simp at h; first | (exfalso; omega) | skip) | skip) | (change retOk _ _ _ _; refine ret_pure rfl trivial ?_) | refine eqv_wrap (by omega) (by omega) ?_ | refine ⟨_, _, (by first | rfl | assumption), at_map (by assumption), ?_⟩ | (change vcFun _ _ (_ ++ pvs _) _ _; refine call_cap rfl (by repeat' (first | trivial | refine And.intro ?_ ?_ | (show 0 + _ ≤ List.length _; simp))) (hf x hm) rfl ?_) | fail)
    all_goals first
      | exact ⟨i + 1, ⟨by omega, all_lt_succ hall fun y hy => by rw [hx] at hy; cases hy; assumption⟩, by omega, back [] rfl rfl trivial (by repeat' (first | exact trivial | exact rfl | refine And.intro ?_ ?_))⟩
      | exact congrArg (vint .i64) (idxB_at hall hx (by assumption)).symm
  · repeat' (first | refine o1 ?_ | refine o2 ?_ | refine k1 ?_ | refine k2 ?_ | refine k3 ?_ | refine k7 ?_ | refine k8 ?_ | refine And.intro ?_ ?_ | (intro h; first | exact Bool.noConfusion h | exact nz _ h | exact nl h | (simp at h; done) | (simp at h; first | (exfalso; omega) | skip) | skip) | (change retOk _ _ _ _; refine ret_pure rfl trivial ?_) | fail)
    exact congrArg (vint .i64) (idxB_none fun j hj => hall j (by omega)).symm
theorem c_any_opt (l : List Opt) (f : FuncId) (caps : List PV) (p : Opt → Bool) (hl : l.length ≤ 100000) (hf : ∀ x ∈ l, PCall Tryz.prog f (ag (Opt.row x) :: pvs caps) (fun r => r = vbool (p x))) :
    PCall Tryz.prog 55 [.pv (.sl 6 (l.map Opt.row)), .pv (.fn f caps)] (fun r => r = vbool (l.any p)) := by
  refine acall_of tok mixed 9 rfl (fn := Tryz.f55) (c := Tryz.f55.body.getD .skip) (by kernel_rfl) (by kernel_rfl) (by kernel_rfl) rfl 0 rfl ?_
  repeat' (first | refine o1 ?_ | refine o2 ?_ | refine k1 ?_ | refine k2 ?_ | refine k7 ?_ | (change retOk _ _ _ _; refine ret_pure rfl trivial ?_) | (change vcFun _ _ _ _ _; refine call_eq rfl (by repeat' (first | trivial | refine And.intro ?_ ?_ | (show 0 + _ ≤ List.length _; simp))) ALeL.refl (c_index_opt l f caps p hl hf) rfl ?_) | fail)
  exact congrArg vbool idxB_any
theorem c_index_count (l : List Count) (f : FuncId) (caps : List PV) (p : Count → Bool) (hl : l.length ≤ 100000) (hf : ∀ x ∈ l, PCall Tryz.prog f (ag (Count.row x) :: pvs caps) (fun r => r = vbool (p x))) :
    PCall Tryz.prog 111 [.pv (.sl 4 (l.map Count.row)), .pv (.fn f caps)] (fun r => r = vint .i64 (idxB p l)) := by
  refine acall_of tok mixed 19 rfl (fn := Tryz.f111) (c := Tryz.f111.body.getD .skip) (by kernel_rfl) (by kernel_rfl) (by kernel_rfl) rfl 0 rfl ?_
  repeat' (first | refine o1 ?_ | refine o2 ?_ | refine k1 ?_ | refine k2 ?_ | refine k4 ?_ | refine eqv_len_map ?_ | fail)
  refine loop_at (fun i : Nat => [(8, vint .i64 i)]) (fun _ => []) (fun i => i ≤ l.length ∧ ∀ j, j < i → ∀ y, l[j]? = some y → p y = false) (fun i => l.length - i) 0 ⟨by omega, fun j hj => by omega⟩ (by repeat' (first | exact trivial | exact ⟨_, rfl, ALe.refl⟩ | refine And.intro ?_ ?_)) (by repeat' (first | exact trivial)) ?_
  intro i ⟨hi, hall⟩
  rcases Nat.lt_or_ge i l.length with hlt | hge
  · obtain ⟨x, hx⟩ := getE hlt
    have hm := List.mem_of_getElem? hx
    repeat' (first | refine o1 ?_ | refine o2 ?_ | refine k1 ?_ | refine k2 ?_ | refine k3 ?_ | refine k4 ?_ | refine k6 ?_ | refine k7 ?_ | refine And.intro ?_ ?_ | (intro h; first | exact Bool.noConfusion h | exact nz _ h | exact nl h | (simp at h; done) | (simp at h; first | (exfalso; omega) | skip) | skip) | (change retOk _ _ _ _; refine ret_pure rfl trivial ?_) | refine eqv_wrap (by omega) (by omega) ?_ | refine ⟨_, _, (by first | rfl | assumption), at_map (by assumption), ?_⟩ | (change vcFun _ _ (_ ++ pvs _) _ _; refine call_cap rfl (by repeat' (first | trivial | refine And.intro ?_ ?_ | (show 0 + _ ≤ List.length _; simp))) (hf x hm) rfl ?_) | fail)
    all_goals first
      | exact ⟨i + 1, ⟨by omega, all_lt_succ hall fun y hy => by rw [hx] at hy; cases hy; assumption⟩, by omega, back [] rfl rfl trivial (by repeat' (first | exact trivial | exact rfl | refine And.intro ?_ ?_))⟩
      | exact congrArg (vint .i64) (idxB_at hall hx (by assumption)).symm
  · repeat' (first | refine o1 ?_ | refine o2 ?_ | refine k1 ?_ | refine k2 ?_ | refine k3 ?_ | refine k7 ?_ | refine k8 ?_ | refine And.intro ?_ ?_ | (intro h; first | exact Bool.noConfusion h | exact nz _ h | exact nl h | (simp at h; done) | (simp at h; first | (exfalso; omega) | skip) | skip) | (change retOk _ _ _ _; refine ret_pure rfl trivial ?_) | fail)
    exact congrArg (vint .i64) (idxB_none fun j hj => hall j (by omega)).symm
theorem c_any_count (l : List Count) (f : FuncId) (caps : List PV) (p : Count → Bool) (hl : l.length ≤ 100000) (hf : ∀ x ∈ l, PCall Tryz.prog f (ag (Count.row x) :: pvs caps) (fun r => r = vbool (p x))) :
    PCall Tryz.prog 78 [.pv (.sl 4 (l.map Count.row)), .pv (.fn f caps)] (fun r => r = vbool (l.any p)) := by
  refine acall_of tok mixed 9 rfl (fn := Tryz.f78) (c := Tryz.f78.body.getD .skip) (by kernel_rfl) (by kernel_rfl) (by kernel_rfl) rfl 0 rfl ?_
  repeat' (first | refine o1 ?_ | refine o2 ?_ | refine k1 ?_ | refine k2 ?_ | refine k7 ?_ | (change retOk _ _ _ _; refine ret_pure rfl trivial ?_) | (change vcFun _ _ _ _ _; refine call_eq rfl (by repeat' (first | trivial | refine And.intro ?_ ?_ | (show 0 + _ ≤ List.length _; simp))) ALeL.refl (c_index_count l f caps p hl hf) rfl ?_) | fail)
  exact congrArg vbool idxB_any
theorem c_index_opts (l : List (List Opt)) (f : FuncId) (caps : List PV) (p : (List Opt) → Bool) (hl : l.length ≤ 100000) (hf : ∀ x ∈ l, PCall Tryz.prog f (AV.pv (PV.sl 6 (List.map Opt.row x)) :: pvs caps) (fun r => r = vbool (p x))) :
    PCall Tryz.prog 53 [.pv (.sl 1 (l.map optsRow)), .pv (.fn f caps)] (fun r => r = vint .i64 (idxB p l)) := by
  refine acall_of tok mixed 19 rfl (fn := Tryz.f53) (c := Tryz.f53.body.getD .skip) (by kernel_rfl) (by kernel_rfl) (by kernel_rfl) rfl 0 rfl ?_
  repeat' (first | refine o1 ?_ | refine o2 ?_ | refine k1 ?_ | refine k2 ?_ | refine k4 ?_ | refine eqv_len_map ?_ | fail)
  refine loop_at (fun i : Nat => [(8, vint .i64 i)]) (fun _ => []) (fun i => i ≤ l.length ∧ ∀ j, j < i → ∀ y, l[j]? = some y → p y = false) (fun i => l.length - i) 0 ⟨by omega, fun j hj => by omega⟩ (by repeat' (first | exact trivial | exact ⟨_, rfl, ALe.refl⟩ | refine And.intro ?_ ?_)) (by repeat' (first | exact trivial)) ?_
  intro i ⟨hi, hall⟩
  rcases Nat.lt_or_ge i l.length with hlt | hge
  · obtain ⟨x, hx⟩ := getE hlt
    have hm := List.mem_of_getElem? hx
    repeat' (first | refine o1 ?_ | refine o2 ?_ | refine k1 ?_ | refine k2 ?_ | refine k3 ?_ | refine k4 ?_ | refine k6 ?_ | refine k7 ?_ | refine And.intro ?_ ?_ | (intro h; first | exact Bool.noConfusion h | exact nz _ h | exact nl h | (simp at h; done) | (simp at h; first | (exfalso; omega) | skip) | skip) | (change retOk _ _ _ _; refine ret_pure rfl trivial ?_) | refine eqv_wrap (by omega) (by omega) ?_ | refine ⟨_, _, (by first | rfl | assumption), at_map (by assumption), ?_⟩ | (change vcFun _ _ (_ ++ pvs _) _ _; refine call_cap rfl (by repeat' (first | trivial | refine And.intro ?_ ?_ | (show 0 + _ ≤ List.length _; simp))) (hf x hm) rfl ?_) | fail)
    all_goals first
      | exact ⟨i + 1, ⟨by omega, all_lt_succ hall fun y hy => by rw [hx] at hy; cases hy; assumption⟩, by omega, back [] rfl rfl trivial (by repeat' (first | exact trivial | exact rfl | refine And.intro ?_ ?_))⟩
      | exact congrArg (vint .i64) (idxB_at hall hx (by assumption)).symm
  · repeat' (first | refine o1 ?_ | refine o2 ?_ | refine k1 ?_ | refine k2 ?_ | refine k3 ?_ | refine k7 ?_ | refine k8 ?_ | refine And.intro ?_ ?_ | (intro h; first | exact Bool.noConfusion h | exact nz _ h | exact nl h | (simp at h; done) | (simp at h; first | (exfalso; omega) | skip) | skip) | (change retOk _ _ _ _; refine ret_pure rfl trivial ?_) | fail)
    exact congrArg (vint .i64) (idxB_none fun j hj => hall j (by omega)).symm
theorem c_any_opts (l : List (List Opt)) (f : FuncId) (caps : List PV) (p : (List Opt) → Bool) (hl : l.length ≤ 100000) (hf : ∀ x ∈ l, PCall Tryz.prog f (AV.pv (PV.sl 6 (List.map Opt.row x)) :: pvs caps) (fun r => r = vbool (p x))) :
    PCall Tryz.prog 104 [.pv (.sl 1 (l.map optsRow)), .pv (.fn f caps)] (fun r => r = vbool (l.any p)) := by
  refine acall_of tok mixed 9 rfl (fn := Tryz.f104) (c := Tryz.f104.body.getD .skip) (by kernel_rfl) (by kernel_rfl) (by kernel_rfl) rfl 0 rfl ?_
  repeat' (first | refine o1 ?_ | refine o2 ?_ | refine k1 ?_ | refine k2 ?_ | refine k7 ?_ | (change retOk _ _ _ _; refine ret_pure rfl trivial ?_) | (change vcFun _ _ _ _ _; refine call_eq rfl (by repeat' (first | trivial | refine And.intro ?_ ?_ | (show 0 + _ ≤ List.length _; simp))) ALeL.refl (c_index_opts l f caps p hl hf) rfl ?_) | fail)
  exact congrArg vbool idxB_any
theorem c_index_int (l : List Int) (f : FuncId) (caps : List PV) (p : Int → Bool) (hl : l.length ≤ 100000) (hf : ∀ x ∈ l, PCall Tryz.prog f (vint .i64 x :: pvs caps) (fun r => r = vbool (p x))) :
    PCall Tryz.prog 120 [.pv (.sl 1 (l.map (fun n => [ei n]))), .pv (.fn f caps)] (fun r => r = vint .i64 (idxB p l)) := by
  refine acall_of tok mixed 19 rfl (fn := Tryz.f120) (c := Tryz.f120.body.getD .skip) (by kernel_rfl) (by kernel_rfl) (by kernel_rfl) rfl 0 rfl ?_
  repeat' (first | refine o1 ?_ | refine o2 ?_ | refine k1 ?_ | refine k2 ?_ | refine k4 ?_ | refine eqv_len_map ?_ | fail)
  refine loop_at (fun i : Nat => [(8, vint .i64 i)]) (fun _ => []) (fun i => i ≤ l.length ∧ ∀ j, j < i → ∀ y, l[j]? = some y → p y = false) (fun i => l.length - i) 0 ⟨by omega, fun j hj => by omega⟩ (by repeat' (first | exact trivial | exact ⟨_, rfl, ALe.refl⟩ | refine And.intro ?_ ?_)) (by repeat' (first | exact trivial)) ?_
  intro i ⟨hi, hall⟩
  rcases Nat.lt_or_ge i l.length with hlt | hge
  · obtain ⟨x, hx⟩ := getE hlt
    have hm := List.mem_of_getElem? hx
    repeat' (first | refine o1 ?_ | refine o2 ?_ | refine k1 ?_ | refine k2 ?_ | refine k3 ?_ | refine k4 ?_ | refine k6 ?_ | refine k7 ?_ | refine And.intro ?_ ?_ | (intro h; first | exact Bool.noConfusion h | exact nz _ h | exact nl h | (simp at h; done) | (simp at h; first | (exfalso; omega) | skip) | skip) | (change retOk _ _ _ _; refine ret_pure rfl trivial ?_) | refine eqv_wrap (by omega) (by omega) ?_ | refine ⟨_, _, (by first | rfl | assumption), at_map (by assumption), ?_⟩ | (change vcFun _ _ (_ ++ pvs _) _ _; refine call_cap rfl (by repeat' (first | trivial | refine And.intro ?_ ?_ | (show 0 + _ ≤ List.length _; simp))) (hf x hm) rfl ?_) | fail)
    all_goals first
      | exact ⟨i + 1, ⟨by omega, all_lt_succ hall fun y hy => by rw [hx] at hy; cases hy; assumption⟩, by omega, back [] rfl rfl trivial (by repeat' (first | exact trivial | exact rfl | refine And.intro ?_ ?_))⟩
      | exact congrArg (vint .i64) (idxB_at hall hx (by assumption)).symm
  · repeat' (first | refine o1 ?_ | refine o2 ?_ | refine k1 ?_ | refine k2 ?_ | refine k3 ?_ | refine k7 ?_ | refine k8 ?_ | refine And.intro ?_ ?_ | (intro h; first | exact Bool.noConfusion h | exact nz _ h | exact nl h | (simp at h; done) | (simp at h; first | (exfalso; omega) | skip) | skip) | (change retOk _ _ _ _; refine ret_pure rfl trivial ?_) | fail)
    exact congrArg (vint .i64) (idxB_none fun j hj => hall j (by omega)).symm
theorem c_any_int (l : List Int) (f : FuncId) (caps : List PV) (p : Int → Bool) (hl : l.length ≤ 100000) (hf : ∀ x ∈ l, PCall Tryz.prog f (vint .i64 x :: pvs caps) (fun r => r = vbool (p x))) :
    PCall Tryz.prog 107 [.pv (.sl 1 (l.map (fun n => [ei n]))), .pv (.fn f caps)] (fun r => r = vbool (l.any p)) := by
  refine acall_of tok mixed 9 rfl (fn := Tryz.f107) (c := Tryz.f107.body.getD .skip) (by kernel_rfl) (by kernel_rfl) (by kernel_rfl) rfl 0 rfl ?_
  repeat' (first | refine o1 ?_ | refine o2 ?_ | refine k1 ?_ | refine k2 ?_ | refine k7 ?_ | (change retOk _ _ _ _; refine ret_pure rfl trivial ?_) | (change vcFun _ _ _ _ _; refine call_eq rfl (by repeat' (first | trivial | refine And.intro ?_ ?_ | (show 0 + _ ≤ List.length _; simp))) ALeL.refl (c_index_int l f caps p hl hf) rfl ?_) | fail)
  exact congrArg vbool idxB_any
theorem charge_zero {m : Model} {l : List Charge} {c : Charge} (hc : l[0]? = some c) (h1 : ruleP m c.rule) (h2 : priceP c.cost) : chargeAt m l 0 := fun c' h' => by
  rw [hc] at h'; cases h'
  exact ⟨h1, h2, fun k b e => by omega⟩
theorem charge_next {m : Model} {l : List Charge} {k : Nat} {c b : Charge} (hc : l[k + 1]? = some c) (hb : l[k]? = some b) (h1 : ruleP m c.rule) (h2 : priceP c.cost) (h3 : b.rule < c.rule) : chargeAt m l (k + 1) := fun c' h' => by
  rw [hc] at h'; cases h'
  refine ⟨h1, h2, fun k' b' e hb' => ?_⟩
  obtain rfl : k = k' := by omega
  rw [hb] at hb'; cases hb'; exact h3
theorem sizedP_iff {m : Model} (h : ∀ l ∈ m.classes, l.length ≤ 24) : sizedP m ↔ m.classes.length ≤ 24 ∧ m.pairs.length ≤ 4000 ∧ m.counts.length ≤ 800 ∧ 0 ≤ m.rules ∧ m.rules ≤ 56 :=
  ⟨fun ⟨a, _, b⟩ => ⟨a, b⟩, fun ⟨a, b⟩ => ⟨a, h, b⟩⟩
theorem c_charged (m : Model) (o : Opt) (ho : o.charges.length ≤ 9223372036854775807) : PCall Tryz.prog 75 [ag m.cells, ag o.row] (fun r => r = vbool (pB (chargesP m o))) := by
  refine acall_of tok mixed 43 rfl (fn := Tryz.f75) (c := Tryz.f75.body.getD .skip) (by kernel_rfl) (by kernel_rfl) (by kernel_rfl) rfl 0 rfl ?_
  repeat' (first | refine o1 ?_ | refine o2 ?_ | refine k1 ?_ | refine k2 ?_ | refine k4 ?_ | refine eqv_len_map ?_ | fail)
  refine loop_at (fun i : Nat => [(10, vint .i64 i)]) (fun _ => []) (fun i => i ≤ o.charges.length ∧ ∀ j, j < i → chargeAt m o.charges j) (fun i => o.charges.length - i) 0 ⟨by omega, fun j hj => by omega⟩ (by repeat' (first | exact trivial | exact ⟨_, rfl, ALe.refl⟩ | refine And.intro ?_ ?_)) (by repeat' (first | exact trivial | exact rfl | refine And.intro ?_ ?_)) ?_
  intro i ⟨hi, hall⟩
  rcases Nat.lt_or_ge i o.charges.length with hlt | hge
  · obtain ⟨c, hc⟩ := getE hlt
    rcases i with _ | k
    · repeat' (first | refine o1 ?_ | refine o2 ?_ | refine k1 ?_ | refine k2 ?_ | refine k3 ?_ | refine k4 ?_ | refine k6 ?_ | refine k7 ?_ | refine k8 ?_ | refine And.intro ?_ ?_ | refine o3 ?_ | refine o4 ?_ | (intro h; first | exact Bool.noConfusion h | exact nz _ h | exact nl h | (simp at h; done) | (simp at h; first | (exfalso; omega) | skip) | skip) | (change retOk _ _ _ _; refine ret_pure rfl trivial ?_) | exact (by kernel_rfl : drawOk _ _ = true) | refine eqv_wrap (by omega) (by omega) ?_ | refine ⟨_, _, (by first | rfl | assumption), at_map (by assumption), ?_⟩ | (change vcFunD _ _ _ _ _; refine callD_eq rfl (by repeat' (first | trivial | refine And.intro ?_ ?_ | (show 0 + _ ≤ List.length _; simp))) ALeL.refl (c_named m c.rule) rfl ?_) | (change vcFunD _ _ _ _ _; refine callD_eq rfl (by repeat' (first | trivial | refine And.intro ?_ ?_ | (show 0 + _ ≤ List.length _; simp))) ALeL.refl (c_cost c.cost) rfl ?_) | fail)
      all_goals first
        | (exfalso; omega)
        | (refine congrArg vbool (pB_f fun h => ?_).symm; obtain ⟨g1, g2, g3⟩ := h _ hlt c hc; first | exact absurd g1 (by assumption) | exact absurd g2 (by assumption))
        | exact ⟨1, ⟨by omega, all_lt_succ hall (charge_zero hc (by assumption) (by assumption))⟩, by omega, back [0, 1] rfl rfl ⟨rfl, rfl, trivial⟩ (by repeat' (first | exact trivial | exact rfl | refine And.intro ?_ ?_))⟩
        | (exfalso; simp_all; done)
    · obtain ⟨b, hb⟩ := getE (show k < o.charges.length by omega)
      repeat' (first | (refine idx_sl (k := k + 1) (at_map hc) (by omega) ?_) | (refine idx_sl (k := k) (at_map hb) (by omega) ?_) | refine o1 ?_ | refine o2 ?_ | refine k1 ?_ | refine k2 ?_ | refine k3 ?_ | refine k4 ?_ | refine k6 ?_ | refine k7 ?_ | refine And.intro ?_ ?_ | refine o3 ?_ | refine o4 ?_ | (intro h; first | exact Bool.noConfusion h | exact nz _ h | exact nl h | (simp at h; done) | (simp at h; first | (exfalso; omega) | skip) | skip) | (change retOk _ _ _ _; refine ret_pure rfl trivial ?_) | exact (by kernel_rfl : drawOk _ _ = true) | refine eqv_wrap (by omega) (by omega) ?_ | (change vcFunD _ _ _ _ _; refine callD_eq rfl (by repeat' (first | trivial | refine And.intro ?_ ?_ | (show 0 + _ ≤ List.length _; simp))) ALeL.refl (c_named m c.rule) rfl ?_) | (change vcFunD _ _ _ _ _; refine callD_eq rfl (by repeat' (first | trivial | refine And.intro ?_ ?_ | (show 0 + _ ≤ List.length _; simp))) ALeL.refl (c_cost c.cost) rfl ?_) | fail)
      all_goals first
        | (exfalso; omega)
        | (refine congrArg vbool (pB_f fun h => ?_).symm; obtain ⟨g1, g2, g3⟩ := h _ hlt c hc; first | exact absurd g1 (by assumption) | exact absurd g2 (by assumption) | (have := g3 k b rfl hb; omega))
        | exact ⟨k + 2, ⟨by omega, all_lt_succ hall (charge_next hc hb (by assumption) (by assumption) (by omega))⟩, by omega, back [0, 1] rfl rfl ⟨rfl, rfl, trivial⟩ (by repeat' (first | exact trivial | exact rfl | refine And.intro ?_ ?_))⟩
  · repeat' (first | refine o1 ?_ | refine o2 ?_ | refine k1 ?_ | refine k2 ?_ | refine k3 ?_ | refine k7 ?_ | refine k8 ?_ | refine And.intro ?_ ?_ | (intro h; first | exact Bool.noConfusion h | exact nz _ h | exact nl h | (simp at h; done) | (simp at h; first | (exfalso; omega) | skip) | skip) | (change retOk _ _ _ _; refine ret_pure rfl trivial ?_) | fail)
    all_goals first
      | exact congrArg vbool (pB_t fun j hj => hall j (by omega)).symm
theorem c_many (l : List Opt) : PCall Tryz.prog 103 [.pv (.sl 6 (l.map Opt.row))] (fun r => r = vbool (decide (24 < l.length))) := by
  refine acall_of tok mixed 6 rfl (fn := Tryz.f103) (c := Tryz.f103.body.getD .skip) (by kernel_rfl) (by kernel_rfl) (by kernel_rfl) rfl 0 rfl ?_
  repeat' (first | refine o1 ?_ | refine o2 ?_ | refine k1 ?_ | refine k2 ?_ | refine k7 ?_ | (change retOk _ _ _ _; refine ret_pure rfl trivial ?_) | refine eqv_len_map ?_ | fail)
  all_goals (refine congrArg vbool (decide_eq_decide.2 ?_); omega)
theorem c_large (m : Model) : PCall Tryz.prog 73 [ag m.cells] (fun r => r = vbool (pB (¬ sizedP m))) := by
  refine acall_of tok mixed 36 rfl (fn := Tryz.f73) (c := Tryz.f73.body.getD .skip) (by kernel_rfl) (by kernel_rfl) (by kernel_rfl) rfl 0 rfl ?_
  repeat' (first | refine o1 ?_ | refine o2 ?_ | refine k1 ?_ | refine k2 ?_ | refine k7 ?_ | refine And.intro ?_ ?_ | (intro h; first | exact Bool.noConfusion h | exact nz _ h | exact nl h | (simp at h; done) | (simp at h; first | (exfalso; omega) | skip) | skip) | (change retOk _ _ _ _; refine ret_pure rfl trivial ?_) | refine eqv_len_map ?_ | (change vcFun _ _ _ _ _; refine call_eq rfl (by repeat' (first | trivial | refine And.intro ?_ ?_ | (show 0 + _ ≤ List.length _; simp))) ALeL.refl (c_any_opts m.classes 103 [] (fun x => decide (24 < x.length)) (by omega) (fun x _ => c_many x)) rfl ?_) | fail)
  all_goals first
    | (refine congrArg vbool (pB_eq ?_); rw [sizedP_iff (by assumption), decide_eq_true_iff]; omega)
    | (refine congrArg vbool (pB_t fun h => ?_).symm; obtain ⟨h1, h2, h3, h4, h5, h6⟩ := h; omega)
    | (refine congrArg vbool (pB_t fun h => ?_).symm; obtain ⟨x, hx, h7⟩ := (by assumption : ∃ x, x ∈ m.classes ∧ 24 < List.length x); have := h.2.1 x hx; omega)
theorem c_sized (m : Model) (hm : Laid m) : PCall Tryz.prog 62 [ag m.cells] (fun r => r = vbool (pB (sizedP m))) := by
  have hn := hm.cn
  refine acall_of tok mixed 44 rfl (fn := Tryz.f62) (c := Tryz.f62.body.getD .skip) (by kernel_rfl) (by kernel_rfl) (by kernel_rfl) rfl 0 rfl ?_
  repeat' (first | refine o1 ?_ | refine o2 ?_ | refine k1 ?_ | refine k2 ?_ | refine k4 ?_ | fail)
  refine loop_at (fun i : Nat => [(3, vint .i64 i)]) (fun _ => []) (fun i => i ≤ m.classes.length ∧ ∀ j, j < i → ∀ l, m.classes[j]? = some l → l.length ≤ 24) (fun i => m.classes.length - i) 0 ⟨by omega, fun j hj => by omega⟩ (by repeat' (first | exact trivial | exact ⟨_, rfl, ALe.refl⟩ | refine And.intro ?_ ?_)) (by repeat' (first | exact trivial | exact rfl | refine And.intro ?_ ?_)) ?_
  intro i ⟨hi, hall⟩
  rcases Nat.lt_or_ge i m.classes.length with hlt | hge
  · obtain ⟨l, hl⟩ := getE hlt
    repeat' (first | refine o1 ?_ | refine o2 ?_ | refine k1 ?_ | refine k2 ?_ | refine k3 ?_ | refine k4 ?_ | refine k6 ?_ | refine k7 ?_ | refine And.intro ?_ ?_ | (intro h; first | exact Bool.noConfusion h | exact nz _ h | exact nl h | (simp at h; done) | (simp at h; first | (exfalso; omega) | skip) | skip) | (change retOk _ _ _ _; refine ret_pure rfl trivial ?_) | refine eqv_len_map ?_ | refine eqv_wrap (by omega) (by omega) ?_ | refine ⟨_, _, (by first | rfl | assumption), at_map (by assumption), ?_⟩ | fail)
    all_goals first
      | (refine congrArg vbool (pB_f fun h => ?_).symm; have := h.2.1 l (List.mem_of_getElem? hl); omega)
      | exact ⟨i + 1, ⟨by omega, all_lt_succ hall fun l' h' => by rw [hl] at h'; cases h'; omega⟩, by omega, back [0] rfl rfl ⟨rfl, trivial⟩ (by repeat' (first | exact trivial | exact rfl | refine And.intro ?_ ?_))⟩
  · have hall2 : ∀ l ∈ m.classes, l.length ≤ 24 := fun l hl => by
      obtain ⟨j, hj⟩ := List.getElem?_of_mem hl
      exact hall j (by have := (List.getElem?_eq_some_iff.1 hj).1; omega) l hj
    repeat' (first | refine o1 ?_ | refine o2 ?_ | refine k1 ?_ | refine k2 ?_ | refine k3 ?_ | refine k7 ?_ | refine k8 ?_ | refine And.intro ?_ ?_ | (intro h; first | exact Bool.noConfusion h | exact nz _ h | exact nl h | (simp at h; done) | (simp at h; first | (exfalso; omega) | skip) | skip) | (change retOk _ _ _ _; refine ret_pure rfl trivial ?_) | refine eqv_len_map ?_ | fail)
    all_goals first
      | (refine congrArg vbool (pB_eq ?_); rw [sizedP_iff hall2, decide_eq_true_iff]; omega)
      | (refine congrArg vbool (pB_f fun h => ?_).symm; obtain ⟨h1, h2, h3, h4, h5, h6⟩ := h; omega)
end Go.Proofs.YtihpjcmloecaaaaGreat.Cw
/-
  Contracts: comparisons of numbers; sittings.
-/
namespace Go.Proofs.YtihpjcmloecaaaaGreat.Cw
open Go.Cw Go.Proofs
set_option linter.unusedVariables false
set_option maxRecDepth 100000
def cmpI (a b : Int) : Int := if a < b then -1 else if a > b then 1 else 0
def orI : List Int → Int
  | [] => 0
  | x :: l => if x = 0 then orI l else x
theorem orI_at : ∀ {l : List Int} {i : Nat} {x : Int}, (∀ j, j < i → ∀ y, l[j]? = some y → y = 0) → l[i]? = some x → x ≠ 0 → orI l = x
  | [], i, x, _, h, _ => by simp at h
  | y :: l, 0, x, _, h, hx => by simp at h; subst h; simp [orI, hx]
  | y :: l, i + 1, x, h0, h, hx => by
    have := h0 0 (by omega) y rfl
    subst this
    simp only [orI, if_true]
    exact orI_at (i := i) (fun j hj z hz => h0 (j + 1) (by omega) z (by simpa using hz)) (by simpa using h) hx
theorem orI_zero : ∀ {l : List Int}, (∀ j, j < l.length → ∀ y, l[j]? = some y → y = 0) → orI l = 0
  | [], _ => rfl
  | y :: l, h0 => by
    have := h0 0 (by simp) y rfl
    subst this
    simp only [orI, if_true]
    exact orI_zero fun j hj z hz => h0 (j + 1) (by simpa using hj) z (by simpa using hz)
theorem c_isNaN (a : Int) : PCall Tryz.prog 121 [vint .i64 a] (fun r => r = vbool false) := by
  refine acall_of tok mixed 6 rfl (fn := Tryz.f121) (c := Tryz.f121.body.getD .skip) (by kernel_rfl) (by kernel_rfl) (by kernel_rfl) rfl 0 rfl ?_
  repeat' (first | refine o1 ?_ | refine o2 ?_ | refine k1 ?_ | refine k2 ?_ | refine k7 ?_ | (change retOk _ _ _ _; refine ret_pure rfl trivial ?_) | fail)
  exact congrArg vbool (by simp)
theorem c_cmp (a b : Int) : PCall Tryz.prog 110 [vint .i64 a, vint .i64 b] (fun r => r = vint .i64 (cmpI a b)) := by
  refine acall_of tok mixed 20 rfl (fn := Tryz.f110) (c := Tryz.f110.body.getD .skip) (by kernel_rfl) (by kernel_rfl) (by kernel_rfl) rfl 0 rfl ?_
  repeat' (first | refine o1 ?_ | refine o2 ?_ | refine k1 ?_ | refine k2 ?_ | refine k3 ?_ | refine k6 ?_ | refine k7 ?_ | refine And.intro ?_ ?_ | (intro h; first | exact Bool.noConfusion h | exact nz _ h | exact nl h | (simp at h; done) | (simp at h; first | (exfalso; omega) | skip) | skip) | (change retOk _ _ _ _; refine ret_pure rfl trivial ?_) | (change vcFun _ _ _ _ _; refine call_eq rfl (by repeat' (first | trivial | refine And.intro ?_ ?_ | (show 0 + _ ≤ List.length _; simp))) ALeL.refl (c_isNaN _) rfl ?_) | fail)
  all_goals exact congrArg (vint .i64) (by unfold cmpI; split <;> first | omega | (split <;> omega))
theorem c_or (l : List Int) (hl : l.length ≤ 1000) : PCall Tryz.prog 109 [.pv (encInts l)] (fun r => r = vint .i64 (orI l)) := by
  refine acall_of tok mixed 18 rfl (fn := Tryz.f109) (c := Tryz.f109.body.getD .skip) (by kernel_rfl) (by kernel_rfl) (by kernel_rfl) rfl 0 rfl ?_
  repeat' (first | refine o1 ?_ | refine o2 ?_ | refine k1 ?_ | refine k2 ?_ | refine k4 ?_ | refine eqv_len_map ?_ | fail)
  refine loop_at (fun i : Nat => [(8, vint .i64 i)]) (fun _ => []) (fun i => i ≤ l.length ∧ ∀ j, j < i → ∀ y, l[j]? = some y → y = 0) (fun i => l.length - i) 0 ⟨by omega, fun j hj => by omega⟩ (by repeat' (first | exact trivial | exact ⟨_, rfl, ALe.refl⟩ | refine And.intro ?_ ?_)) (by repeat' (first | exact trivial)) ?_
  intro i ⟨hi, hall⟩
  rcases Nat.lt_or_ge i l.length with hlt | hge
  · obtain ⟨x, hx⟩ := getE hlt
    repeat' (first | refine o1 ?_ | refine o2 ?_ | refine k1 ?_ | refine k2 ?_ | refine k3 ?_ | refine k4 ?_ | refine k6 ?_ | refine k7 ?_ | refine And.intro ?_ ?_ | (intro h; first | exact Bool.noConfusion h | exact nz _ h | exact nl h | (simp at h; done) | (simp at h; first | (exfalso; omega) | skip) | skip) | (change retOk _ _ _ _; refine ret_pure rfl trivial ?_) | refine eqv_wrap (by omega) (by omega) ?_ | refine ⟨_, _, (by first | rfl | assumption), at_map (by assumption), ?_⟩ | fail)
    all_goals first
      | exact ⟨i + 1, ⟨by omega, all_lt_succ hall fun y hy => by rw [hx] at hy; cases hy; assumption⟩, by omega, back [] rfl rfl trivial (by repeat' (first | exact trivial | exact rfl | refine And.intro ?_ ?_))⟩
      | exact congrArg (vint .i64) (orI_at hall hx (by assumption)).symm
  · repeat' (first | refine o1 ?_ | refine o2 ?_ | refine k1 ?_ | refine k2 ?_ | refine k3 ?_ | refine k7 ?_ | refine k8 ?_ | refine And.intro ?_ ?_ | (intro h; first | exact Bool.noConfusion h | exact nz _ h | exact nl h | (simp at h; done) | (simp at h; first | (exfalso; omega) | skip) | skip) | (change retOk _ _ _ _; refine ret_pure rfl trivial ?_) | fail)
    exact congrArg (vint .i64) (orI_zero fun j hj => hall j (by omega)).symm
end Go.Proofs.YtihpjcmloecaaaaGreat.Cw
/-
  Contracts: pairs of models.
-/
namespace Go.Proofs.YtihpjcmloecaaaaGreat.Cw
open Go.Cw Go.Proofs
set_option linter.unusedVariables false
set_option maxRecDepth 100000
set_option maxHeartbeats 800000
theorem c_order (p q : Pair) : PCall Tryz.prog 77 [ag p.row, ag q.row] (fun r => r = vint .i64 (orI [cmpI p.rule q.rule, cmpI p.first q.first, cmpI p.second q.second])) := by
  refine acall_of tok mixed 22 rfl (fn := Tryz.f77) (c := Tryz.f77.body.getD .skip) (by kernel_rfl) (by kernel_rfl) (by kernel_rfl) rfl 0 rfl ?_
  repeat' (first | refine o1 ?_ | refine o2 ?_ | refine k1 ?_ | refine k2 ?_ | refine k7 ?_ | refine And.intro ?_ ?_ | refine o3 ?_ | refine o4 ?_ | (change retOk _ _ _ _; refine ret_pure rfl trivial ?_) | exact (by kernel_rfl : drawOk _ _ = true) | (change vcFunD _ _ _ _ _; refine callD_eq rfl (by repeat' (first | trivial | refine And.intro ?_ ?_ | (show 0 + _ ≤ List.length _; simp))) ALeL.refl (c_cmp _ _) rfl ?_) | (change vcFunD _ _ _ _ _; refine callD_eq rfl (by repeat' (first | trivial | refine And.intro ?_ ?_ | (show 0 + _ ≤ List.length _; simp))) ALeL.refl (c_or [cmpI p.rule q.rule, cmpI p.first q.first, cmpI p.second q.second] (Nat.le_of_ble_eq_true rfl)) rfl ?_) | fail)
  all_goals exact rfl
theorem pair_cmp {p q : Pair} : orI [cmpI p.rule q.rule, cmpI p.first q.first, cmpI p.second q.second] < 0 ↔ pairLt p q := by
  simp only [orI, cmpI, pairLt]
  grind
theorem c_paired1 (n : Int) : PCall Tryz.prog 108 [vint .i64 n] (fun r => r = vbool (pB (n ≠ 0 ∧ ¬ priceP n))) := by
  refine acall_of tok mixed 10 rfl (fn := Tryz.f108) (c := Tryz.f108.body.getD .skip) (by kernel_rfl) (by kernel_rfl) (by kernel_rfl) rfl 0 rfl ?_
  repeat' (first | refine o1 ?_ | refine o2 ?_ | refine k1 ?_ | refine k2 ?_ | refine k7 ?_ | refine And.intro ?_ ?_ | (intro h; first | exact Bool.noConfusion h | exact nz _ h | exact nl h | (simp at h; done) | (simp at h; first | (exfalso; omega) | skip) | skip) | (change retOk _ _ _ _; refine ret_pure rfl trivial ?_) | (change vcFun _ _ _ _ _; refine call_eq rfl (by repeat' (first | trivial | refine And.intro ?_ ?_ | (show 0 + _ ≤ List.length _; simp))) ALeL.refl (c_cost n) rfl ?_) | fail)
  all_goals first
    | exact congrArg vbool (pB_f fun h => h.1 (by assumption)).symm
    | exact congrArg vbool (pB_eq (by simp_all))
theorem price_any {t : List Int} : (!t.any fun n => pB (n ≠ 0 ∧ ¬ priceP n)) = true ↔ ∀ x ∈ t, x = 0 ∨ priceP x := by
  simp only [Bool.not_eq_true', List.any_eq_false, decide_eq_true_eq]
  constructor
  · intro h x hx
    have := h x hx
    by_cases h0 : x = 0
    · exact .inl h0
    · exact .inr (Classical.byContradiction fun h1 => this ⟨h0, h1⟩)
  · intro h x hx ⟨h0, h1⟩
    rcases h x hx with h2 | h2
    · exact h0 h2
    · exact h1 h2
theorem pair_iff {m : Model} {n k : Nat} {r : Int} {t : List Int} {a b : List Opt} (ha : m.classes[n]? = some a) (hb : m.classes[k]? = some b) (hnk : (n : Int) < k) : pairP m ⟨n, k, r, t⟩ ↔ ruleP m r ∧ t.length = a.length * b.length ∧ ∀ x ∈ t, x = 0 ∨ priceP x := by
  unfold pairP
  simp only [Int.toNat_natCast, ha, hb]
  constructor
  · rintro ⟨h1, h2, h3, ⟨a', b', h4, h5, h6⟩, h7⟩
    cases h4; cases h5; exact ⟨h1, h6, h7⟩
  · rintro ⟨h1, h2, h3⟩
    exact ⟨h1, by omega, hnk, ⟨a, b, rfl, rfl, h2⟩, h3⟩
theorem pair_f {m : Model} {p : Pair} (h : ¬ (0 ≤ p.first ∧ p.first < p.second ∧ p.second < m.classes.length)) : ¬ pairP m p := fun ⟨h1, h2, h3, ⟨a, b, h4, h5, h6⟩, h7⟩ => by
  have := (List.getElem?_eq_some_iff.1 h5).1
  omega
theorem c_paired (m : Model) (p : Pair) (hz : sizedP m) : PCall Tryz.prog 76 [ag m.cells, ag p.row] (fun r => r = vbool (pB (pairP m p))) := by
  by_cases h : 0 ≤ p.first ∧ p.first < p.second ∧ p.second < m.classes.length
  · obtain ⟨h1, h2, h3⟩ := h
    obtain ⟨f, s, r, t⟩ := p
    dsimp only at h1 h2 h3 ⊢
    obtain ⟨n, rfl⟩ := Int.eq_ofNat_of_zero_le h1
    obtain ⟨k, rfl⟩ := Int.eq_ofNat_of_zero_le (show 0 ≤ s by omega)
    obtain ⟨a, ha⟩ := getE (show n < m.classes.length by omega)
    obtain ⟨b, hb⟩ := getE (show k < m.classes.length by omega)
    have hla := hz.2.1 a (List.mem_of_getElem? ha)
    have hlb := hz.2.1 b (List.mem_of_getElem? hb)
    have hab : a.length * b.length ≤ 576 := Nat.mul_le_mul hla hlb
    have hab1 : (a.length : Int) * b.length ≤ 576 := by exact_mod_cast hab
    have hab0 : (0 : Int) ≤ (a.length : Int) * b.length := by exact_mod_cast Nat.zero_le _
    have hcast : ((a.length * b.length : Nat) : Int) = (a.length : Int) * b.length := by simp
    refine acall_of tok mixed 55 rfl (fn := Tryz.f76) (c := Tryz.f76.body.getD .skip) (by kernel_rfl) (by kernel_rfl) (by kernel_rfl) rfl 0 rfl ?_
    rw [pB_iff (pair_iff ha hb h2)]
    repeat' (first | refine o1 ?_ | refine o2 ?_ | refine k1 ?_ | refine k2 ?_ | refine k3 ?_ | refine k6 ?_ | refine k7 ?_ | refine And.intro ?_ ?_ | refine o3 ?_ | refine o4 ?_ | (intro h; first | exact Bool.noConfusion h | exact nz _ h | exact nl h | (simp at h; done) | (simp at h; first | (exfalso; omega) | skip) | skip) | (change retOk _ _ _ _; refine ret_pure rfl trivial ?_) | exact (by kernel_rfl : drawOk _ _ = true) | refine eqv_len_map ?_ | refine eqv_wrap (by omega) (by omega) ?_ | refine ⟨_, _, (by first | rfl | assumption), at_map (by assumption), ?_⟩ | (change vcFunD _ _ _ _ _; refine callD_eq rfl (by repeat' (first | trivial | refine And.intro ?_ ?_ | (show 0 + _ ≤ List.length _; simp))) ALeL.refl (c_named m r) rfl ?_) | (change vcFun _ _ _ _ _; refine call_eq rfl (by repeat' (first | trivial | refine And.intro ?_ ?_ | (show 0 + _ ≤ List.length _; simp))) ALeL.refl (c_any_int t 108 [] (fun n => pB (n ≠ 0 ∧ ¬ priceP n)) (by omega) (fun n _ => c_paired1 n)) rfl ?_) | fail)
    all_goals first
      | (refine congrArg vbool (pB_f fun h => ?_).symm; obtain ⟨g1, g2, g3⟩ := h; first | exact absurd g1 (by assumption) | omega)
      | (refine congrArg vbool (pB_eq ?_); rw [price_any]; exact ⟨fun g => ⟨by assumption, by omega, g⟩, fun g => g.2.2⟩)
      | (exfalso; omega)
  · refine acall_of tok mixed 55 rfl (fn := Tryz.f76) (c := Tryz.f76.body.getD .skip) (by kernel_rfl) (by kernel_rfl) (by kernel_rfl) rfl 0 rfl ?_
    rw [pB_f (pair_f h)]
    repeat' (first | refine o1 ?_ | refine o2 ?_ | refine k1 ?_ | refine k2 ?_ | refine k3 ?_ | refine k7 ?_ | refine And.intro ?_ ?_ | refine o3 ?_ | refine o4 ?_ | (intro h; first | exact Bool.noConfusion h | exact nz _ h | exact nl h | (simp at h; done) | (simp at h; first | (exfalso; omega) | skip) | skip) | (change retOk _ _ _ _; refine ret_pure rfl trivial ?_) | exact (by kernel_rfl : drawOk _ _ = true) | refine eqv_len_map ?_ | (change vcFunD _ _ _ _ _; refine callD_eq rfl (by repeat' (first | trivial | refine And.intro ?_ ?_ | (show 0 + _ ≤ List.length _; simp))) ALeL.refl (c_named m p.rule) rfl ?_) | fail)
    all_goals first
      | exact rfl
      | (exfalso; omega)
theorem pairAt_zero {m : Model} {p : Pair} (hp : m.pairs[0]? = some p) : pairAt m 0 ↔ pairP m p :=
  ⟨fun h => (h p hp).1, fun h p' hp' => by rw [hp] at hp'; cases hp'; exact ⟨h, fun k q e => by omega⟩⟩
theorem pairAt_next {m : Model} {k : Nat} {p q : Pair} (hp : m.pairs[k + 1]? = some p) (hq : m.pairs[k]? = some q) : pairAt m (k + 1) ↔ pairP m p ∧ pairLt q p :=
  ⟨fun h => ⟨(h p hp).1, (h p hp).2 k q rfl hq⟩, fun h p' hp' => by
    rw [hp] at hp'; cases hp'
    refine ⟨h.1, fun k' q' e hq' => ?_⟩
    obtain rfl : k = k' := by omega
    rw [hq] at hq'; cases hq'; exact h.2⟩
theorem c_rpaired0 (m : Model)  (p : Pair) (hz : sizedP m) (hp : m.pairs[0]? = some p) : PCall Tryz.prog 65 [ag m.cells, vint .i64 ((0 : Nat) : Int)] (fun r => r = vbool (pB (pairAt m 0))) := by
  have hpl := (List.getElem?_eq_some_iff.1 hp).1
  have hpn := hz.2.2.1
  rw [pB_iff (pairAt_zero hp)]
  by_cases hcase : 0 ≤ p.first ∧ p.first < p.second ∧ p.second < m.classes.length
  · obtain ⟨h1, h2, h3⟩ := hcase
    obtain ⟨f, s, r, t⟩ := p
    dsimp only at h1 h2 h3 ⊢
    obtain ⟨n, rfl⟩ := Int.eq_ofNat_of_zero_le h1
    obtain ⟨k, rfl⟩ := Int.eq_ofNat_of_zero_le (show 0 ≤ s by omega)
    obtain ⟨a, ha⟩ := getE (show n < m.classes.length by omega)
    obtain ⟨b, hb⟩ := getE (show k < m.classes.length by omega)
    have hla := hz.2.1 a (List.mem_of_getElem? ha)
    have hlb := hz.2.1 b (List.mem_of_getElem? hb)
    have hab : a.length * b.length ≤ 576 := Nat.mul_le_mul hla hlb
    have hab1 : (a.length : Int) * b.length ≤ 576 := by exact_mod_cast hab
    have hab0 : (0 : Int) ≤ (a.length : Int) * b.length := by exact_mod_cast Nat.zero_le _
    have hcast : ((a.length * b.length : Nat) : Int) = (a.length : Int) * b.length := by simp
    have hpi := pair_iff (r := r) (t := t) ha hb h2
    refine acall_of tok mixed 114 rfl (fn := Tryz.f65) (c := Tryz.f65.body.getD .skip) (by kernel_rfl) (by kernel_rfl) (by kernel_rfl) rfl 0 rfl ?_
    repeat' (first | (refine idx_sl (k := 0) (at_map hp) (by omega) ?_) | refine o1 ?_ | refine o2 ?_ | refine k1 ?_ | refine k2 ?_ | refine k3 ?_ | refine k4 ?_ | refine k6 ?_ | refine k7 ?_ | refine And.intro ?_ ?_ | refine o3 ?_ | refine o4 ?_ | (intro h; first | exact Bool.noConfusion h | exact nz _ h | exact nl h | (simp at h; done) | (simp at h; first | (exfalso; omega) | skip) | skip) | (change retOk _ _ _ _; refine ret_pure rfl trivial ?_) | exact (by kernel_rfl : drawOk _ _ = true) | refine eqv_len_map ?_ | refine eqv_wrap (by omega) (by omega) ?_ | refine ⟨_, _, (by first | rfl | assumption), at_map (by assumption), ?_⟩ | (change vcFunD _ _ _ _ _; refine callD_eq rfl (by repeat' (first | trivial | refine And.intro ?_ ?_ | (show 0 + _ ≤ List.length _; simp))) ALeL.refl (c_rnamed m r) rfl ?_) | fail)
    all_goals first
      | (refine congrArg vbool (pB_f fun h => ?_).symm; obtain ⟨g1, g2, g3⟩ := hpi.1 (by first | exact h | exact h.1); first | exact absurd g1 (by assumption) | omega)
      | (exfalso; omega)
      | skip
    have htl : t.length ≤ 576 := by omega
    refine loop_at (fun i : Nat => [(6, vint .i64 i)]) (fun _ => []) (fun i => i ≤ t.length ∧ ∀ j, j < i → ∀ x, t[j]? = some x → x = 0 ∨ priceP x) (fun i => t.length - i) 0 ⟨by omega, fun j hj => by omega⟩ (by repeat' (first | exact trivial | exact ⟨_, rfl, ALe.refl⟩ | refine And.intro ?_ ?_)) (by repeat' (first | exact trivial | exact rfl | refine And.intro ?_ ?_)) ?_
    intro i ⟨hi, hall⟩
    rcases Nat.lt_or_ge i t.length with hlt | hge
    · obtain ⟨x, hx⟩ := getE hlt
      repeat' (first | (refine idx_sl (k := i) (at_map hx) (by omega) ?_) | refine o1 ?_ | refine o2 ?_ | refine k1 ?_ | refine k2 ?_ | refine k3 ?_ | refine k4 ?_ | refine k6 ?_ | refine k7 ?_ | refine And.intro ?_ ?_ | (intro h; first | exact Bool.noConfusion h | exact nz _ h | exact nl h | (simp at h; done) | (simp at h; first | (exfalso; omega) | skip) | skip) | (change retOk _ _ _ _; refine ret_pure rfl trivial ?_) | refine eqv_len_map ?_ | refine eqv_wrap (by omega) (by omega) ?_ | (change vcFun _ _ _ _ _; refine call_eq rfl (by repeat' (first | trivial | refine And.intro ?_ ?_ | (show 0 + _ ≤ List.length _; simp))) ALeL.refl (c_rcost x) rfl ?_) | fail)
      all_goals first
        | (refine congrArg vbool (pB_f fun h => ?_).symm; obtain ⟨g1, g2, g3⟩ := hpi.1 (by first | exact h | exact h.1); exact (g3 x (List.mem_of_getElem? hx)).elim (fun g => absurd g (by assumption)) (fun g => absurd g (by assumption)))
        | exact ⟨i + 1, ⟨by omega, all_lt_succ hall fun x' h' => by rw [hx] at h'; cases h'; first | exact .inl (by omega) | exact .inr (by assumption)⟩, by omega, back [0, 1] rfl rfl ⟨rfl, rfl, trivial⟩ (by repeat' (first | exact trivial | exact rfl | refine And.intro ?_ ?_))⟩
        | (exfalso; omega)
    · have hP := hpi.2 ⟨by assumption, by omega, fun x hx => by
        obtain ⟨j, hj⟩ := List.getElem?_of_mem hx
        exact hall j (by have := (List.getElem?_eq_some_iff.1 hj).1; omega) x hj⟩
      repeat' (first | refine o1 ?_ | refine o2 ?_ | refine k1 ?_ | refine k2 ?_ | refine k3 ?_ | refine k7 ?_ | refine k8 ?_ | refine And.intro ?_ ?_ | (intro h; first | exact Bool.noConfusion h | exact nz _ h | exact nl h | (simp at h; done) | (simp at h; first | (exfalso; omega) | skip) | skip) | (change retOk _ _ _ _; refine ret_pure rfl trivial ?_) | refine eqv_len_map ?_ | fail)
      all_goals first
        | exact congrArg vbool (pB_t hP).symm
        | (refine congrArg vbool (pB_eq ?_); rw [and_iff_right hP]; unfold pairLt; dsimp only; simp only [decide_eq_true_eq]; omega)
        | (exfalso; omega)
  · refine acall_of tok mixed 114 rfl (fn := Tryz.f65) (c := Tryz.f65.body.getD .skip) (by kernel_rfl) (by kernel_rfl) (by kernel_rfl) rfl 0 rfl ?_
    repeat' (first | (refine idx_sl (k := 0) (at_map hp) (by omega) ?_) | refine o1 ?_ | refine o2 ?_ | refine k1 ?_ | refine k2 ?_ | refine k3 ?_ | refine k7 ?_ | refine And.intro ?_ ?_ | refine o3 ?_ | refine o4 ?_ | (intro h; first | exact Bool.noConfusion h | exact nz _ h | exact nl h | (simp at h; done) | (simp at h; first | (exfalso; omega) | skip) | skip) | (change retOk _ _ _ _; refine ret_pure rfl trivial ?_) | exact (by kernel_rfl : drawOk _ _ = true) | refine eqv_len_map ?_ | (change vcFunD _ _ _ _ _; refine callD_eq rfl (by repeat' (first | trivial | refine And.intro ?_ ?_ | (show 0 + _ ≤ List.length _; simp))) ALeL.refl (c_rnamed m p.rule) rfl ?_) | fail)
    all_goals first
      | exact congrArg vbool (pB_f fun h' => pair_f hcase (by first | exact h' | exact h'.1)).symm
      | (exfalso; omega)
theorem c_rpairedS (m : Model) (k0 : Nat) (q : Pair) (hq : m.pairs[k0]? = some q) (p : Pair) (hz : sizedP m) (hp : m.pairs[(k0 + 1)]? = some p) : PCall Tryz.prog 65 [ag m.cells, vint .i64 (((k0 + 1) : Nat) : Int)] (fun r => r = vbool (pB (pairAt m (k0 + 1)))) := by
  have hpl := (List.getElem?_eq_some_iff.1 hp).1
  have hpn := hz.2.2.1
  rw [pB_iff (pairAt_next hp hq)]
  by_cases hcase : 0 ≤ p.first ∧ p.first < p.second ∧ p.second < m.classes.length
  · obtain ⟨h1, h2, h3⟩ := hcase
    obtain ⟨f, s, r, t⟩ := p
    dsimp only at h1 h2 h3 ⊢
    obtain ⟨n, rfl⟩ := Int.eq_ofNat_of_zero_le h1
    obtain ⟨k, rfl⟩ := Int.eq_ofNat_of_zero_le (show 0 ≤ s by omega)
    obtain ⟨a, ha⟩ := getE (show n < m.classes.length by omega)
    obtain ⟨b, hb⟩ := getE (show k < m.classes.length by omega)
    have hla := hz.2.1 a (List.mem_of_getElem? ha)
    have hlb := hz.2.1 b (List.mem_of_getElem? hb)
    have hab : a.length * b.length ≤ 576 := Nat.mul_le_mul hla hlb
    have hab1 : (a.length : Int) * b.length ≤ 576 := by exact_mod_cast hab
    have hab0 : (0 : Int) ≤ (a.length : Int) * b.length := by exact_mod_cast Nat.zero_le _
    have hcast : ((a.length * b.length : Nat) : Int) = (a.length : Int) * b.length := by simp
    have hpi := pair_iff (r := r) (t := t) ha hb h2
    refine acall_of tok mixed 114 rfl (fn := Tryz.f65) (c := Tryz.f65.body.getD .skip) (by kernel_rfl) (by kernel_rfl) (by kernel_rfl) rfl 0 rfl ?_
    repeat' (first | (refine idx_sl (k := (k0 + 1)) (at_map hp) (by omega) ?_) | refine o1 ?_ | refine o2 ?_ | refine k1 ?_ | refine k2 ?_ | refine k3 ?_ | refine k4 ?_ | refine k6 ?_ | refine k7 ?_ | refine And.intro ?_ ?_ | refine o3 ?_ | refine o4 ?_ | (intro h; first | exact Bool.noConfusion h | exact nz _ h | exact nl h | (simp at h; done) | (simp at h; first | (exfalso; omega) | skip) | skip) | (change retOk _ _ _ _; refine ret_pure rfl trivial ?_) | exact (by kernel_rfl : drawOk _ _ = true) | refine eqv_len_map ?_ | refine eqv_wrap (by omega) (by omega) ?_ | refine ⟨_, _, (by first | rfl | assumption), at_map (by assumption), ?_⟩ | (change vcFunD _ _ _ _ _; refine callD_eq rfl (by repeat' (first | trivial | refine And.intro ?_ ?_ | (show 0 + _ ≤ List.length _; simp))) ALeL.refl (c_rnamed m r) rfl ?_) | fail)
    all_goals first
      | (refine congrArg vbool (pB_f fun h => ?_).symm; obtain ⟨g1, g2, g3⟩ := hpi.1 (by first | exact h | exact h.1); first | exact absurd g1 (by assumption) | omega)
      | (exfalso; omega)
      | skip
    have htl : t.length ≤ 576 := by omega
    refine loop_at (fun i : Nat => [(6, vint .i64 i)]) (fun _ => []) (fun i => i ≤ t.length ∧ ∀ j, j < i → ∀ x, t[j]? = some x → x = 0 ∨ priceP x) (fun i => t.length - i) 0 ⟨by omega, fun j hj => by omega⟩ (by repeat' (first | exact trivial | exact ⟨_, rfl, ALe.refl⟩ | refine And.intro ?_ ?_)) (by repeat' (first | exact trivial | exact rfl | refine And.intro ?_ ?_)) ?_
    intro i ⟨hi, hall⟩
    rcases Nat.lt_or_ge i t.length with hlt | hge
    · obtain ⟨x, hx⟩ := getE hlt
      repeat' (first | (refine idx_sl (k := i) (at_map hx) (by omega) ?_) | refine o1 ?_ | refine o2 ?_ | refine k1 ?_ | refine k2 ?_ | refine k3 ?_ | refine k4 ?_ | refine k6 ?_ | refine k7 ?_ | refine And.intro ?_ ?_ | (intro h; first | exact Bool.noConfusion h | exact nz _ h | exact nl h | (simp at h; done) | (simp at h; first | (exfalso; omega) | skip) | skip) | (change retOk _ _ _ _; refine ret_pure rfl trivial ?_) | refine eqv_len_map ?_ | refine eqv_wrap (by omega) (by omega) ?_ | (change vcFun _ _ _ _ _; refine call_eq rfl (by repeat' (first | trivial | refine And.intro ?_ ?_ | (show 0 + _ ≤ List.length _; simp))) ALeL.refl (c_rcost x) rfl ?_) | fail)
      all_goals first
        | (refine congrArg vbool (pB_f fun h => ?_).symm; obtain ⟨g1, g2, g3⟩ := hpi.1 (by first | exact h | exact h.1); exact (g3 x (List.mem_of_getElem? hx)).elim (fun g => absurd g (by assumption)) (fun g => absurd g (by assumption)))
        | exact ⟨i + 1, ⟨by omega, all_lt_succ hall fun x' h' => by rw [hx] at h'; cases h'; first | exact .inl (by omega) | exact .inr (by assumption)⟩, by omega, back [0, 1] rfl rfl ⟨rfl, rfl, trivial⟩ (by repeat' (first | exact trivial | exact rfl | refine And.intro ?_ ?_))⟩
        | (exfalso; omega)
    · have hP := hpi.2 ⟨by assumption, by omega, fun x hx => by
        obtain ⟨j, hj⟩ := List.getElem?_of_mem hx
        exact hall j (by have := (List.getElem?_eq_some_iff.1 hj).1; omega) x hj⟩
      repeat' (first | (refine idx_sl (k := k0) (at_map hq) (by omega) ?_) | refine o1 ?_ | refine o2 ?_ | refine k1 ?_ | refine k2 ?_ | refine k3 ?_ | refine k6 ?_ | refine k7 ?_ | refine k8 ?_ | refine And.intro ?_ ?_ | (intro h; first | exact Bool.noConfusion h | exact nz _ h | exact nl h | (simp at h; done) | (simp at h; first | (exfalso; omega) | skip) | skip) | (change retOk _ _ _ _; refine ret_pure rfl trivial ?_) | exact (by kernel_rfl : drawOk _ _ = true) | refine eqv_len_map ?_ | refine eqv_wrap (by omega) (by omega) ?_ | fail)
      all_goals first
        | exact congrArg vbool (pB_t hP).symm
        | (refine congrArg vbool (pB_eq ?_); rw [and_iff_right hP]; unfold pairLt; dsimp only; simp only [decide_eq_true_eq]; omega)
        | (exfalso; omega)
  · refine acall_of tok mixed 114 rfl (fn := Tryz.f65) (c := Tryz.f65.body.getD .skip) (by kernel_rfl) (by kernel_rfl) (by kernel_rfl) rfl 0 rfl ?_
    repeat' (first | (refine idx_sl (k := (k0 + 1)) (at_map hp) (by omega) ?_) | refine o1 ?_ | refine o2 ?_ | refine k1 ?_ | refine k2 ?_ | refine k3 ?_ | refine k7 ?_ | refine And.intro ?_ ?_ | refine o3 ?_ | refine o4 ?_ | (intro h; first | exact Bool.noConfusion h | exact nz _ h | exact nl h | (simp at h; done) | (simp at h; first | (exfalso; omega) | skip) | skip) | (change retOk _ _ _ _; refine ret_pure rfl trivial ?_) | exact (by kernel_rfl : drawOk _ _ = true) | refine eqv_len_map ?_ | (change vcFunD _ _ _ _ _; refine callD_eq rfl (by repeat' (first | trivial | refine And.intro ?_ ?_ | (show 0 + _ ≤ List.length _; simp))) ALeL.refl (c_rnamed m p.rule) rfl ?_) | fail)
    all_goals first
      | exact congrArg vbool (pB_f fun h' => pair_f hcase (by first | exact h' | exact h'.1)).symm
      | (exfalso; omega)
end Go.Proofs.YtihpjcmloecaaaaGreat.Cw
/-
  Contracts: counts of models.
-/
namespace Go.Proofs.YtihpjcmloecaaaaGreat.Cw
open Go.Cw Go.Proofs
set_option linter.unusedVariables false
set_option maxRecDepth 100000
set_option maxHeartbeats 800000
def loadLt (y x : Load) : Prop := y.cls < x.cls ∨ (y.cls = x.cls ∧ y.opt < x.opt)
theorem load_zero {m : Model} {l : List Load} {x : Load} (hx : l[0]? = some x) : loadAt m l 0 ↔ optionP m x.cls x.opt ∧ 1 ≤ x.weight ∧ x.weight ≤ 1000 :=
  ⟨fun h => ⟨(h x hx).1, (h x hx).2.1, (h x hx).2.2.1⟩, fun h x' h' => by rw [hx] at h'; cases h'; exact ⟨h.1, h.2.1, h.2.2, fun k y e => by omega⟩⟩
theorem load_next {m : Model} {l : List Load} {k : Nat} {x y : Load} (hx : l[k + 1]? = some x) (hy : l[k]? = some y) : loadAt m l (k + 1) ↔ optionP m x.cls x.opt ∧ 1 ≤ x.weight ∧ x.weight ≤ 1000 ∧ loadLt y x :=
  ⟨fun h => ⟨(h x hx).1, (h x hx).2.1, (h x hx).2.2.1, (h x hx).2.2.2 k y rfl hy⟩, fun h x' h' => by
    rw [hx] at h'; cases h'
    refine ⟨h.1, h.2.1, h.2.2.1, fun k' y' e hy' => ?_⟩
    obtain rfl : k = k' := by omega
    rw [hy] at hy'; cases hy'; exact h.2.2.2⟩
theorem load_cmp {y x : Load} : orI [cmpI y.cls x.cls, cmpI y.opt x.opt] < 0 ↔ loadLt y x := by
  simp only [orI, cmpI, loadLt]
  grind
theorem load_cmp2 {y x : Load} : 0 ≤ orI [cmpI y.cls x.cls, cmpI y.opt x.opt] ↔ ¬ loadLt y x := by
  rw [← load_cmp]; omega
theorem c_counted (m : Model) (c : Count) (hc : c.loads.length ≤ 9223372036854775807) : PCall Tryz.prog 80 [ag m.cells, ag c.row] (fun r => r = vbool (pB (countP_ m c))) := by
  refine acall_of tok mixed 81 rfl (fn := Tryz.f80) (c := Tryz.f80.body.getD .skip) (by kernel_rfl) (by kernel_rfl) (by kernel_rfl) rfl 0 rfl ?_
  repeat' (first | refine o1 ?_ | refine o2 ?_ | refine k1 ?_ | refine k2 ?_ | refine k3 ?_ | refine k4 ?_ | refine k6 ?_ | refine k7 ?_ | refine And.intro ?_ ?_ | (intro h; first | exact Bool.noConfusion h | exact nz _ h | exact nl h | (simp at h; done) | (simp at h; first | (exfalso; omega) | skip) | skip) | (change retOk _ _ _ _; refine ret_pure rfl trivial ?_) | refine eqv_len_map ?_ | (change vcFun _ _ _ _ _; refine call_eq rfl (by repeat' (first | trivial | refine And.intro ?_ ?_ | (show 0 + _ ≤ List.length _; simp))) ALeL.refl (c_named m c.rule) rfl ?_) | (change vcFun _ _ _ _ _; refine call_eq rfl (by repeat' (first | trivial | refine And.intro ?_ ?_ | (show 0 + _ ≤ List.length _; simp))) ALeL.refl (c_cost c.penalty) rfl ?_) | fail)
  all_goals first
    | (refine congrArg vbool (pB_f fun h => ?_).symm; obtain ⟨g1, g2, g3, g4, g5⟩ := h; first | exact absurd g1 (by assumption) | exact absurd g4 (by assumption) | omega)
    | skip
  refine loop_at (fun i : Nat => [(31, vint .i64 i)]) (fun _ => []) (fun i => i ≤ c.loads.length ∧ ∀ j, j < i → loadAt m c.loads j) (fun i => c.loads.length - i) 0 ⟨by omega, fun j hj => by omega⟩ (by repeat' (first | exact trivial | exact ⟨_, rfl, ALe.refl⟩ | refine And.intro ?_ ?_)) (by repeat' (first | exact trivial | exact rfl | refine And.intro ?_ ?_)) ?_
  intro i ⟨hi, hall⟩
  rcases Nat.lt_or_ge i c.loads.length with hlt | hge
  · obtain ⟨x, hx⟩ := getE hlt
    rcases i with _ | k
    · have hz := load_zero (m := m) hx
      repeat' (first | (refine idx_sl (k := 0) (at_map hx) (by omega) ?_) | refine o1 ?_ | refine o2 ?_ | refine k1 ?_ | refine k2 ?_ | refine k3 ?_ | refine k4 ?_ | refine k6 ?_ | refine k7 ?_ | refine k8 ?_ | refine And.intro ?_ ?_ | refine o3 ?_ | refine o4 ?_ | (intro h; first | exact Bool.noConfusion h | exact nz _ h | exact nl h | (simp at h; done) | (simp at h; first | (exfalso; omega) | skip) | skip) | (change retOk _ _ _ _; refine ret_pure rfl trivial ?_) | exact (by kernel_rfl : drawOk _ _ = true) | refine eqv_wrap (by omega) (by omega) ?_ | (change vcFun _ _ _ _ _; refine call_eq rfl (by repeat' (first | trivial | refine And.intro ?_ ?_ | (show 0 + _ ≤ List.length _; simp))) ALeL.refl (c_option m x.cls x.opt) rfl ?_) | fail)
      all_goals first
        | (refine congrArg vbool (pB_f fun h => ?_).symm; obtain ⟨g1, g2, g3⟩ := hz.1 (h.2.2.2.2 _ hlt); first | exact absurd g1 (by assumption) | omega)
        | exact ⟨1, ⟨by omega, all_lt_succ hall (hz.2 ⟨by assumption, by omega, by omega⟩)⟩, by omega, back [0, 1] rfl rfl ⟨rfl, rfl, trivial⟩ (by repeat' (first | exact trivial | exact rfl | refine And.intro ?_ ?_))⟩
        | (exfalso; simp_all; done)
        | (exfalso; omega)
    · obtain ⟨y, hy⟩ := getE (show k < c.loads.length by omega)
      have hz := load_next (m := m) hx hy
      repeat' (first | (refine idx_sl (k := k + 1) (at_map hx) (by omega) ?_) | (refine idx_sl (k := k) (at_map hy) (by omega) ?_) | refine o1 ?_ | refine o2 ?_ | refine k1 ?_ | refine k2 ?_ | refine k3 ?_ | refine k4 ?_ | refine k6 ?_ | refine k7 ?_ | refine And.intro ?_ ?_ | refine o3 ?_ | refine o4 ?_ | (intro h; first | exact Bool.noConfusion h | exact nz _ h | exact nl h | (simp at h; done) | (simp at h; first | (exfalso; omega) | skip) | skip) | (change retOk _ _ _ _; refine ret_pure rfl trivial ?_) | exact (by kernel_rfl : drawOk _ _ = true) | refine eqv_wrap (by omega) (by omega) ?_ | (change vcFun _ _ _ _ _; refine call_eq rfl (by repeat' (first | trivial | refine And.intro ?_ ?_ | (show 0 + _ ≤ List.length _; simp))) ALeL.refl (c_option m x.cls x.opt) rfl ?_) | (change vcFunD _ _ _ _ _; refine callD_eq rfl (by repeat' (first | trivial | refine And.intro ?_ ?_ | (show 0 + _ ≤ List.length _; simp))) ALeL.refl (c_cmp _ _) rfl ?_) | (change vcFunD _ _ _ _ _; refine callD_eq rfl (by repeat' (first | trivial | refine And.intro ?_ ?_ | (show 0 + _ ≤ List.length _; simp))) ALeL.refl (c_or [cmpI y.cls x.cls, cmpI y.opt x.opt] (Nat.le_of_ble_eq_true rfl)) rfl ?_) | fail)
      all_goals first
        | (refine congrArg vbool (pB_f fun h => ?_).symm; obtain ⟨g1, g2, g3, g4⟩ := hz.1 (h.2.2.2.2 _ hlt); first | exact absurd g1 (by assumption) | omega | exact absurd g4 (load_cmp2.1 (by assumption)) | (unfold loadLt at g4; omega))
        | exact ⟨k + 2, ⟨by omega, all_lt_succ hall (hz.2 ⟨by assumption, by omega, by omega, by first | exact load_cmp.1 (by omega) | (unfold loadLt; omega)⟩)⟩, by omega, back [0, 1] rfl rfl ⟨rfl, rfl, trivial⟩ (by repeat' (first | exact trivial | exact rfl | refine And.intro ?_ ?_))⟩
        | (exfalso; omega)
  · repeat' (first | refine o1 ?_ | refine o2 ?_ | refine k1 ?_ | refine k2 ?_ | refine k3 ?_ | refine k7 ?_ | refine k8 ?_ | refine And.intro ?_ ?_ | (intro h; first | exact Bool.noConfusion h | exact nz _ h | exact nl h | (simp at h; done) | (simp at h; first | (exfalso; omega) | skip) | skip) | (change retOk _ _ _ _; refine ret_pure rfl trivial ?_) | fail)
    all_goals first
      | exact congrArg vbool (pB_t ⟨by assumption, by omega, by omega, by assumption, fun j hj => hall j (by omega)⟩).symm
theorem c_rcounted (m : Model) (c : Count) (hc : c.loads.length ≤ 9223372036854775807) : PCall Tryz.prog 66 [ag m.cells, ag c.row] (fun r => r = vbool (pB (countP_ m c))) := by
  refine acall_of tok mixed 85 rfl (fn := Tryz.f66) (c := Tryz.f66.body.getD .skip) (by kernel_rfl) (by kernel_rfl) (by kernel_rfl) rfl 0 rfl ?_
  repeat' (first | refine o1 ?_ | refine o2 ?_ | refine k1 ?_ | refine k2 ?_ | refine k3 ?_ | refine k4 ?_ | refine k6 ?_ | refine k7 ?_ | refine And.intro ?_ ?_ | (intro h; first | exact Bool.noConfusion h | exact nz _ h | exact nl h | (simp at h; done) | (simp at h; first | (exfalso; omega) | skip) | skip) | (change retOk _ _ _ _; refine ret_pure rfl trivial ?_) | (change vcFun _ _ _ _ _; refine call_eq rfl (by repeat' (first | trivial | refine And.intro ?_ ?_ | (show 0 + _ ≤ List.length _; simp))) ALeL.refl (c_rnamed m c.rule) rfl ?_) | (change vcFun _ _ _ _ _; refine call_eq rfl (by repeat' (first | trivial | refine And.intro ?_ ?_ | (show 0 + _ ≤ List.length _; simp))) ALeL.refl (c_rcost c.penalty) rfl ?_) | fail)
  all_goals first
    | (refine congrArg vbool (pB_f fun h => ?_).symm; obtain ⟨g1, g2, g3, g4, g5⟩ := h; first | exact absurd g1 (by assumption) | exact absurd g4 (by assumption) | omega)
    | skip
  refine loop_at (fun i : Nat => [(5, vint .i64 i)]) (fun _ => []) (fun i => i ≤ c.loads.length ∧ ∀ j, j < i → loadAt m c.loads j) (fun i => c.loads.length - i) 0 ⟨by omega, fun j hj => by omega⟩ (by repeat' (first | exact trivial | exact ⟨_, rfl, ALe.refl⟩ | refine And.intro ?_ ?_)) (by repeat' (first | exact trivial | exact rfl | refine And.intro ?_ ?_)) ?_
  intro i ⟨hi, hall⟩
  rcases Nat.lt_or_ge i c.loads.length with hlt | hge
  · obtain ⟨x, hx⟩ := getE hlt
    rcases i with _ | k
    · have hz := load_zero (m := m) hx
      repeat' (first | (refine idx_sl (k := 0) (at_map hx) (by omega) ?_) | refine o1 ?_ | refine o2 ?_ | refine k1 ?_ | refine k2 ?_ | refine k3 ?_ | refine k4 ?_ | refine k6 ?_ | refine k7 ?_ | refine k8 ?_ | refine And.intro ?_ ?_ | (intro h; first | exact Bool.noConfusion h | exact nz _ h | exact nl h | (simp at h; done) | (simp at h; first | (exfalso; omega) | skip) | skip) | (change retOk _ _ _ _; refine ret_pure rfl trivial ?_) | exact (by kernel_rfl : drawOk _ _ = true) | refine eqv_len_map ?_ | refine eqv_wrap (by omega) (by omega) ?_ | (change vcFun _ _ _ _ _; refine call_eq rfl (by repeat' (first | trivial | refine And.intro ?_ ?_ | (show 0 + _ ≤ List.length _; simp))) ALeL.refl (c_roption m x.cls x.opt) rfl ?_) | fail)
      all_goals first
        | (refine congrArg vbool (pB_f fun h => ?_).symm; obtain ⟨g1, g2, g3⟩ := hz.1 (h.2.2.2.2 _ hlt); first | exact absurd g1 (by assumption) | omega)
        | exact ⟨1, ⟨by omega, all_lt_succ hall (hz.2 ⟨by assumption, by omega, by omega⟩)⟩, by omega, back [0, 1] rfl rfl ⟨rfl, rfl, trivial⟩ (by repeat' (first | exact trivial | exact rfl | refine And.intro ?_ ?_))⟩
        | (exfalso; simp_all; done)
        | (exfalso; omega)
    · obtain ⟨y, hy⟩ := getE (show k < c.loads.length by omega)
      have hz := load_next (m := m) hx hy
      repeat' (first | (refine idx_sl (k := k + 1) (at_map hx) (by omega) ?_) | (refine idx_sl (k := k) (at_map hy) (by omega) ?_) | refine o1 ?_ | refine o2 ?_ | refine k1 ?_ | refine k2 ?_ | refine k3 ?_ | refine k4 ?_ | refine k6 ?_ | refine k7 ?_ | refine And.intro ?_ ?_ | (intro h; first | exact Bool.noConfusion h | exact nz _ h | exact nl h | (simp at h; done) | (simp at h; first | (exfalso; omega) | skip) | skip) | (change retOk _ _ _ _; refine ret_pure rfl trivial ?_) | exact (by kernel_rfl : drawOk _ _ = true) | refine eqv_len_map ?_ | refine eqv_wrap (by omega) (by omega) ?_ | (change vcFun _ _ _ _ _; refine call_eq rfl (by repeat' (first | trivial | refine And.intro ?_ ?_ | (show 0 + _ ≤ List.length _; simp))) ALeL.refl (c_roption m x.cls x.opt) rfl ?_) | fail)
      all_goals first
        | (refine congrArg vbool (pB_f fun h => ?_).symm; obtain ⟨g1, g2, g3, g4⟩ := hz.1 (h.2.2.2.2 _ hlt); first | exact absurd g1 (by assumption) | omega | exact absurd g4 (load_cmp2.1 (by assumption)) | (unfold loadLt at g4; omega))
        | exact ⟨k + 2, ⟨by omega, all_lt_succ hall (hz.2 ⟨by assumption, by omega, by omega, by first | exact load_cmp.1 (by omega) | (unfold loadLt; omega)⟩)⟩, by omega, back [0, 1] rfl rfl ⟨rfl, rfl, trivial⟩ (by repeat' (first | exact trivial | exact rfl | refine And.intro ?_ ?_))⟩
        | (exfalso; omega)
  · repeat' (first | refine o1 ?_ | refine o2 ?_ | refine k1 ?_ | refine k2 ?_ | refine k3 ?_ | refine k7 ?_ | refine k8 ?_ | refine And.intro ?_ ?_ | (intro h; first | exact Bool.noConfusion h | exact nz _ h | exact nl h | (simp at h; done) | (simp at h; first | (exfalso; omega) | skip) | skip) | (change retOk _ _ _ _; refine ret_pure rfl trivial ?_) | refine eqv_len_map ?_ | fail)
    all_goals first
      | exact congrArg vbool (pB_t ⟨by assumption, by omega, by omega, by assumption, fun j hj => hall j (by omega)⟩).symm
end Go.Proofs.YtihpjcmloecaaaaGreat.Cw
/-
  Contracts: valid models.
-/
namespace Go.Proofs.YtihpjcmloecaaaaGreat.Cw
open Go.Cw Go.Proofs
set_option linter.unusedVariables false
set_option maxRecDepth 100000
set_option maxHeartbeats 1600000
theorem c_valid1 (m : Model) (o : Opt) (ho : o.charges.length ≤ 9223372036854775807) : PCall Tryz.prog 74 [ag o.row, .pv (.ia m.cells)] (fun r => r = vbool (pB (¬ chargesP m o))) := by
  refine acall_of tok mixed 8 rfl (fn := Tryz.f74) (c := Tryz.f74.body.getD .skip) (by kernel_rfl) (by kernel_rfl) (by kernel_rfl) rfl 0 rfl ?_
  repeat' (first | refine o1 ?_ | refine o2 ?_ | refine k1 ?_ | refine k2 ?_ | refine k7 ?_ | (change retOk _ _ _ _; refine ret_pure rfl trivial ?_) | (change vcFun _ _ _ _ _; refine call_eq rfl (by repeat' (first | trivial | refine And.intro ?_ ?_ | (show 0 + _ ≤ List.length _; simp))) ALeL.refl (c_charged m o ho) rfl ?_) | fail)
  all_goals first
    | exact congrArg vbool (pB_eq (by simp))
theorem c_valid2 (m : Model) (c : Count) (hc : c.loads.length ≤ 9223372036854775807) : PCall Tryz.prog 79 [ag c.row, .pv (.ia m.cells)] (fun r => r = vbool (pB (¬ countP_ m c))) := by
  refine acall_of tok mixed 8 rfl (fn := Tryz.f79) (c := Tryz.f79.body.getD .skip) (by kernel_rfl) (by kernel_rfl) (by kernel_rfl) rfl 0 rfl ?_
  repeat' (first | refine o1 ?_ | refine o2 ?_ | refine k1 ?_ | refine k2 ?_ | refine k7 ?_ | (change retOk _ _ _ _; refine ret_pure rfl trivial ?_) | (change vcFun _ _ _ _ _; refine call_eq rfl (by repeat' (first | trivial | refine And.intro ?_ ?_ | (show 0 + _ ≤ List.length _; simp))) ALeL.refl (c_counted m c hc) rfl ?_) | fail)
  all_goals first
    | exact congrArg vbool (pB_eq (by simp))
theorem all_mem {α : Type} {l : List α} {p : α → Prop} {n : Nat} (hn : l.length ≤ n) (h : ∀ j, j < n → ∀ x, l[j]? = some x → p x) : ∀ x ∈ l, p x := fun x hx => by
  obtain ⟨j, hj⟩ := List.getElem?_of_mem hx
  exact h j (by have := (List.getElem?_eq_some_iff.1 hj).1; omega) x hj
theorem good_c {m : Model} (g : goodP m) {i : Nat} {l : List Opt} (hl : m.classes[i]? = some l) : ∀ o ∈ l, chargesP m o := g.1 l (List.mem_of_getElem? hl)
theorem c_valid (m : Model) (hl : Laid m) : PCall Tryz.prog 34 [ag m.cells] (fun r => r = vint .i64 (modelE m)) := by
  by_cases hz : sizedP m
  · refine acall_of tok mixed 52 rfl (fn := Tryz.f34) (c := Tryz.f34.body.getD .skip) (by kernel_rfl) (by kernel_rfl) (by kernel_rfl) rfl 0 rfl ?_
    have hcn := hz.1
    have hpn := hz.2.2.1
    have hon := hz.2.2.2.1
    repeat' (first | refine o1 ?_ | refine o2 ?_ | refine k1 ?_ | refine k2 ?_ | refine k3 ?_ | refine k4 ?_ | refine k6 ?_ | refine k7 ?_ | refine And.intro ?_ ?_ | (intro h; first | exact Bool.noConfusion h | exact nz _ h | exact nl h | (simp at h; done) | (simp at h; first | (exfalso; omega) | skip) | skip) | (change retOk _ _ _ _; refine ret_pure rfl trivial ?_) | refine eqv_len_map ?_ | (change vcFun _ _ _ _ _; refine call_eq rfl (by repeat' (first | trivial | refine And.intro ?_ ?_ | (show 0 + _ ≤ List.length _; simp))) ALeL.refl (c_large m) rfl ?_) | fail)
    all_goals first
      | (exfalso; exact (by assumption : ¬ sizedP m) hz)
      | skip
    refine loop_at (fun i : Nat => [(12, vint .i64 i)]) (fun _ => []) (fun i => i ≤ m.classes.length ∧ ∀ j, j < i → ∀ l, m.classes[j]? = some l → ∀ o ∈ l, chargesP m o) (fun i => m.classes.length - i) 0 ⟨by omega, fun j hj => by omega⟩ (by repeat' (first | exact trivial | exact ⟨_, rfl, ALe.refl⟩ | refine And.intro ?_ ?_)) (by repeat' (first | exact trivial | exact rfl | refine And.intro ?_ ?_)) ?_
    intro i ⟨hi, hall⟩
    rcases Nat.lt_or_ge i m.classes.length with hlt | hge
    · obtain ⟨l, hl1⟩ := getE hlt
      have hll := hz.2.1 l (List.mem_of_getElem? hl1)
      repeat' (first | refine o1 ?_ | refine o2 ?_ | refine k1 ?_ | refine k2 ?_ | refine k3 ?_ | refine k4 ?_ | refine k6 ?_ | refine k7 ?_ | refine And.intro ?_ ?_ | (intro h; first | exact Bool.noConfusion h | exact nz _ h | exact nl h | (simp at h; done) | (simp at h; first | (exfalso; omega) | skip) | skip) | (change retOk _ _ _ _; refine ret_pure rfl trivial ?_) | refine eqv_wrap (by omega) (by omega) ?_ | refine ⟨_, _, (by first | rfl | assumption), at_map (by assumption), ?_⟩ | (change vcFun _ _ _ _ _; refine call_eq rfl (by repeat' (first | trivial | refine And.intro ?_ ?_ | (show 0 + _ ≤ List.length _; simp))) ALeL.refl (c_any_opt l 74 [.ia m.cells] (fun o => pB (¬ chargesP m o)) (by omega) (fun o ho => c_valid1 m o (hl.ch l (List.mem_of_getElem? hl1) o ho))) rfl ?_) | fail)
      all_goals first
        | (refine congrArg (vint .i64) (mE1 hz fun g => ?_).symm; obtain ⟨o, ho, hno⟩ := (by assumption : ∃ x, x ∈ l ∧ ¬ chargesP m x); exact hno (good_c g hl1 o ho))
        | exact ⟨i + 1, ⟨by omega, all_lt_succ hall fun l' h' => by rw [hl1] at h'; cases h'; assumption⟩, by omega, back [0] rfl rfl ⟨rfl, trivial⟩ (by repeat' (first | exact trivial | exact rfl | refine And.intro ?_ ?_))⟩
    · have hch : ∀ l ∈ m.classes, ∀ o ∈ l, chargesP m o := fun l hl => by
        obtain ⟨j, hj⟩ := List.getElem?_of_mem hl
        exact hall j (by have := (List.getElem?_eq_some_iff.1 hj).1; omega) l hj
      repeat' (first | refine o1 ?_ | refine o2 ?_ | refine k1 ?_ | refine k2 ?_ | refine k3 ?_ | refine k4 ?_ | refine k8 ?_ | refine And.intro ?_ ?_ | (intro h; first | exact Bool.noConfusion h | exact nz _ h | exact nl h | (simp at h; done) | (simp at h; first | (exfalso; omega) | skip) | skip) | refine eqv_len_map ?_ | fail)
      refine loop_at (fun i : Nat => [(23, vint .i64 i)]) (fun _ => []) (fun i => i ≤ m.pairs.length ∧ ∀ j, j < i → pairAt m j) (fun i => m.pairs.length - i) 0 ⟨by omega, fun j hj => by omega⟩ (by repeat' (first | exact trivial | exact ⟨_, rfl, ALe.refl⟩ | refine And.intro ?_ ?_)) (by repeat' (first | exact trivial | exact rfl | refine And.intro ?_ ?_)) ?_
      intro i ⟨hi, hall2⟩
      rcases Nat.lt_or_ge i m.pairs.length with hlt | hge
      · obtain ⟨p, hp⟩ := getE hlt
        rcases i with _ | k
        · have hpz := pairAt_zero hp
          repeat' (first | (refine idx_sl (k := 0) (at_map hp) (by omega) ?_) | refine o1 ?_ | refine o2 ?_ | refine k1 ?_ | refine k2 ?_ | refine k3 ?_ | refine k4 ?_ | refine k6 ?_ | refine k7 ?_ | refine k8 ?_ | refine And.intro ?_ ?_ | refine o3 ?_ | refine o4 ?_ | (intro h; first | exact Bool.noConfusion h | exact nz _ h | exact nl h | (simp at h; done) | (simp at h; first | (exfalso; omega) | skip) | skip) | (change retOk _ _ _ _; refine ret_pure rfl trivial ?_) | exact (by kernel_rfl : drawOk _ _ = true) | refine eqv_wrap (by omega) (by omega) ?_ | (change vcFunD _ _ _ _ _; refine callD_eq rfl (by repeat' (first | trivial | refine And.intro ?_ ?_ | (show 0 + _ ≤ List.length _; simp))) ALeL.refl (c_paired m p hz) rfl ?_) | fail)
          all_goals first
            | (refine congrArg (vint .i64) (mE1 hz fun g => ?_).symm; exact absurd (hpz.1 (g.2.1 _ hlt)) (by assumption))
            | exact ⟨1, ⟨by omega, all_lt_succ hall2 (hpz.2 (by assumption))⟩, by omega, back [0] rfl rfl ⟨rfl, trivial⟩ (by repeat' (first | exact trivial | exact rfl | refine And.intro ?_ ?_))⟩
            | (exfalso; simp_all; done)
        · obtain ⟨q, hq⟩ := getE (show k < m.pairs.length by omega)
          have hpz := pairAt_next hp hq
          repeat' (first | (refine idx_sl (k := k + 1) (at_map hp) (by omega) ?_) | (refine idx_sl (k := k) (at_map hq) (by omega) ?_) | refine o1 ?_ | refine o2 ?_ | refine k1 ?_ | refine k2 ?_ | refine k3 ?_ | refine k4 ?_ | refine k6 ?_ | refine k7 ?_ | refine And.intro ?_ ?_ | refine o3 ?_ | refine o4 ?_ | (intro h; first | exact Bool.noConfusion h | exact nz _ h | exact nl h | (simp at h; done) | (simp at h; first | (exfalso; omega) | skip) | skip) | (change retOk _ _ _ _; refine ret_pure rfl trivial ?_) | exact (by kernel_rfl : drawOk _ _ = true) | refine eqv_wrap (by omega) (by omega) ?_ | (change vcFunD _ _ _ _ _; refine callD_eq rfl (by repeat' (first | trivial | refine And.intro ?_ ?_ | (show 0 + _ ≤ List.length _; simp))) ALeL.refl (c_paired m p hz) rfl ?_) | (change vcFunD _ _ _ _ _; refine callD_eq rfl (by repeat' (first | trivial | refine And.intro ?_ ?_ | (show 0 + _ ≤ List.length _; simp))) ALeL.refl (c_order q p) rfl ?_) | fail)
          all_goals first
            | (refine congrArg (vint .i64) (mE1 hz fun g => ?_).symm; have g1 := hpz.1 (g.2.1 _ hlt); first | exact absurd g1.1 (by assumption) | (have := pair_cmp.2 g1.2; omega))
            | exact ⟨k + 2, ⟨by omega, all_lt_succ hall2 (hpz.2 ⟨by assumption, pair_cmp.1 (by omega)⟩)⟩, by omega, back [0] rfl rfl ⟨rfl, trivial⟩ (by repeat' (first | exact trivial | exact rfl | refine And.intro ?_ ?_))⟩
      · have hpa : ∀ i, i < m.pairs.length → pairAt m i := fun j hj => hall2 j (by omega)
        repeat' (first | refine o1 ?_ | refine o2 ?_ | refine k1 ?_ | refine k2 ?_ | refine k3 ?_ | refine k6 ?_ | refine k7 ?_ | refine k8 ?_ | refine And.intro ?_ ?_ | (intro h; first | exact Bool.noConfusion h | exact nz _ h | exact nl h | (simp at h; done) | (simp at h; first | (exfalso; omega) | skip) | skip) | (change retOk _ _ _ _; refine ret_pure rfl trivial ?_) | (change vcFun _ _ _ _ _; refine call_eq rfl (by repeat' (first | trivial | refine And.intro ?_ ?_ | (show 0 + _ ≤ List.length _; simp))) ALeL.refl (c_any_count m.counts 79 [.ia m.cells] (fun c => pB (¬ countP_ m c)) (by omega) (fun c hc => c_valid2 m c (hl.ld c hc))) rfl ?_) | fail)
        all_goals first
          | (refine congrArg (vint .i64) (mE1 hz fun g => ?_).symm; obtain ⟨c, hc, hno⟩ := (by assumption : ∃ x, x ∈ m.counts ∧ ¬ countP_ m x); exact hno (g.2.2 c hc))
          | exact congrArg (vint .i64) (mE0 hz ⟨hch, hpa, by assumption⟩).symm
  · refine acall_of tok mixed 52 rfl (fn := Tryz.f34) (c := Tryz.f34.body.getD .skip) (by kernel_rfl) (by kernel_rfl) (by kernel_rfl) rfl 0 rfl ?_
    repeat' (first | refine o1 ?_ | refine o2 ?_ | refine k1 ?_ | refine k2 ?_ | refine k3 ?_ | refine k4 ?_ | refine k6 ?_ | refine k7 ?_ | refine And.intro ?_ ?_ | (intro h; first | exact Bool.noConfusion h | exact nz _ h | exact nl h | (simp at h; done) | (simp at h; first | (exfalso; omega) | skip) | skip) | (change retOk _ _ _ _; refine ret_pure rfl trivial ?_) | refine eqv_len_map ?_ | (change vcFun _ _ _ _ _; refine call_eq rfl (by repeat' (first | trivial | refine And.intro ?_ ?_ | (show 0 + _ ≤ List.length _; simp))) ALeL.refl (c_large m) rfl ?_) | fail)
    all_goals first
      | exact congrArg (vint .i64) (mE2 hz).symm
      | (exfalso; exact hz (by assumption))
theorem c_rvalid (m : Model) (hl : Laid m) : PCall Tryz.prog 26 [ag m.cells] (fun r => r = vint .i64 (modelE m)) := by
  by_cases hz : sizedP m
  · refine acall_of tok mixed 105 rfl (fn := Tryz.f26) (c := Tryz.f26.body.getD .skip) (by kernel_rfl) (by kernel_rfl) (by kernel_rfl) rfl 0 rfl ?_
    have hcn := hz.1
    have hpn := hz.2.2.1
    have hon := hz.2.2.2.1
    repeat' (first | refine o1 ?_ | refine o2 ?_ | refine k1 ?_ | refine k2 ?_ | refine k3 ?_ | refine k4 ?_ | refine k6 ?_ | refine k7 ?_ | refine And.intro ?_ ?_ | (intro h; first | exact Bool.noConfusion h | exact nz _ h | exact nl h | (simp at h; done) | (simp at h; first | (exfalso; omega) | skip) | skip) | (change retOk _ _ _ _; refine ret_pure rfl trivial ?_) | (change vcFun _ _ _ _ _; refine call_eq rfl (by repeat' (first | trivial | refine And.intro ?_ ?_ | (show 0 + _ ≤ List.length _; simp))) ALeL.refl (c_sized m hl) rfl ?_) | fail)
    all_goals first
      | (exfalso; exact (by assumption : ¬ sizedP m) hz)
      | skip
    refine loop_at (fun i : Nat => [(3, vint .i64 i)]) (fun _ => []) (fun i => i ≤ m.classes.length ∧ ∀ j, j < i → ∀ l, m.classes[j]? = some l → ∀ o ∈ l, chargesP m o) (fun i => m.classes.length - i) 0 ⟨by omega, fun j hj => by omega⟩ (by repeat' (first | exact trivial | exact ⟨_, rfl, ALe.refl⟩ | refine And.intro ?_ ?_)) (by repeat' (first | exact trivial | exact rfl | refine And.intro ?_ ?_)) ?_
    intro i ⟨hi, hall⟩
    rcases Nat.lt_or_ge i m.classes.length with hlt | hge
    · obtain ⟨l, hl1⟩ := getE hlt
      have hll := hz.2.1 l (List.mem_of_getElem? hl1)
      have hmem := List.mem_of_getElem? hl1
      repeat' (first | refine o1 ?_ | refine o2 ?_ | refine k1 ?_ | refine k2 ?_ | refine k3 ?_ | refine k4 ?_ | refine k6 ?_ | refine And.intro ?_ ?_ | (intro h; first | exact Bool.noConfusion h | exact nz _ h | exact nl h | (simp at h; done) | (simp at h; first | (exfalso; omega) | skip) | skip) | refine eqv_len_map ?_ | fail)
      refine loop_at (fun i : Nat => [(4, vint .i64 i)]) (fun _ => []) (fun i => i ≤ l.length ∧ ∀ j, j < i → ∀ o, l[j]? = some o → chargesP m o) (fun i => l.length - i) 0 ⟨by omega, fun j hj => by omega⟩ (by repeat' (first | exact trivial | exact ⟨_, rfl, ALe.refl⟩ | refine And.intro ?_ ?_)) (by repeat' (first | exact trivial | exact rfl | refine And.intro ?_ ?_)) ?_
      intro k ⟨hk, hallk⟩
      rcases Nat.lt_or_ge k l.length with hkl | hkg
      · obtain ⟨o, ho⟩ := getE hkl
        have hcl := hl.ch l hmem o (List.mem_of_getElem? ho)
        repeat' (first | (refine idx_sl (k := i) (at_map hl1) (by omega) ?_) | (refine idx_sl (k := k) (at_map ho) (by omega) ?_) | refine o1 ?_ | refine o2 ?_ | refine k1 ?_ | refine k2 ?_ | refine k3 ?_ | refine k4 ?_ | refine k6 ?_ | refine And.intro ?_ ?_ | (intro h; first | exact Bool.noConfusion h | exact nz _ h | exact nl h | (simp at h; done) | (simp at h; first | (exfalso; omega) | skip) | skip) | refine eqv_len_map ?_ | fail)
        refine loop_at (fun i : Nat => [(6, vint .i64 i)]) (fun _ => []) (fun i => i ≤ o.charges.length ∧ ∀ j, j < i → chargeAt m o.charges j) (fun i => o.charges.length - i) 0 ⟨by omega, fun j hj => by omega⟩ (by repeat' (first | exact trivial | exact ⟨_, rfl, ALe.refl⟩ | refine And.intro ?_ ?_)) (by repeat' (first | exact trivial | exact rfl | refine And.intro ?_ ?_)) ?_
        intro n ⟨hn, halln⟩
        rcases Nat.lt_or_ge n o.charges.length with hnl | hng
        · obtain ⟨c, hc⟩ := getE hnl
          have hgood : goodP m → chargeAt m o.charges n := fun g => good_c g hl1 o (List.mem_of_getElem? ho) n hnl
          rcases n with _ | n
          · repeat' (first | (refine idx_sl (k := 0) (at_map hc) (by omega) ?_) | refine o1 ?_ | refine o2 ?_ | refine k1 ?_ | refine k2 ?_ | refine k3 ?_ | refine k4 ?_ | refine k6 ?_ | refine k7 ?_ | refine k8 ?_ | refine And.intro ?_ ?_ | refine o3 ?_ | refine o4 ?_ | (intro h; first | exact Bool.noConfusion h | exact nz _ h | exact nl h | (simp at h; done) | (simp at h; first | (exfalso; omega) | skip) | skip) | (change retOk _ _ _ _; refine ret_pure rfl trivial ?_) | exact (by kernel_rfl : drawOk _ _ = true) | refine eqv_len_map ?_ | refine eqv_wrap (by omega) (by omega) ?_ | (change vcFunD _ _ _ _ _; refine callD_eq rfl (by repeat' (first | trivial | refine And.intro ?_ ?_ | (show 0 + _ ≤ List.length _; simp))) ALeL.refl (c_rnamed m c.rule) rfl ?_) | (change vcFunD _ _ _ _ _; refine callD_eq rfl (by repeat' (first | trivial | refine And.intro ?_ ?_ | (show 0 + _ ≤ List.length _; simp))) ALeL.refl (c_rcost c.cost) rfl ?_) | fail)
            all_goals first
              | (refine congrArg (vint .i64) (mE1 hz fun g => ?_).symm; obtain ⟨g1, g2, g3⟩ := hgood g c hc; first | exact absurd g1 (by assumption) | exact absurd g2 (by assumption))
              | exact ⟨1, ⟨by omega, all_lt_succ halln (charge_zero hc (by assumption) (by assumption))⟩, by omega, back [0] rfl rfl ⟨rfl, trivial⟩ (by repeat' (first | exact trivial | exact rfl | refine And.intro ?_ ?_))⟩
              | (exfalso; simp_all; done)
          · obtain ⟨b, hb⟩ := getE (show n < o.charges.length by omega)
            repeat' (first | (refine idx_sl (k := n + 1) (at_map hc) (by omega) ?_) | (refine idx_sl (k := n) (at_map hb) (by omega) ?_) | refine o1 ?_ | refine o2 ?_ | refine k1 ?_ | refine k2 ?_ | refine k3 ?_ | refine k4 ?_ | refine k6 ?_ | refine k7 ?_ | refine And.intro ?_ ?_ | refine o3 ?_ | refine o4 ?_ | (intro h; first | exact Bool.noConfusion h | exact nz _ h | exact nl h | (simp at h; done) | (simp at h; first | (exfalso; omega) | skip) | skip) | (change retOk _ _ _ _; refine ret_pure rfl trivial ?_) | exact (by kernel_rfl : drawOk _ _ = true) | refine eqv_len_map ?_ | refine eqv_wrap (by omega) (by omega) ?_ | (change vcFunD _ _ _ _ _; refine callD_eq rfl (by repeat' (first | trivial | refine And.intro ?_ ?_ | (show 0 + _ ≤ List.length _; simp))) ALeL.refl (c_rnamed m c.rule) rfl ?_) | (change vcFunD _ _ _ _ _; refine callD_eq rfl (by repeat' (first | trivial | refine And.intro ?_ ?_ | (show 0 + _ ≤ List.length _; simp))) ALeL.refl (c_rcost c.cost) rfl ?_) | fail)
            all_goals first
              | (refine congrArg (vint .i64) (mE1 hz fun g => ?_).symm; obtain ⟨g1, g2, g3⟩ := hgood g c hc; first | exact absurd g1 (by assumption) | exact absurd g2 (by assumption) | (have := g3 n b rfl hb; omega))
              | exact ⟨n + 2, ⟨by omega, all_lt_succ halln (charge_next hc hb (by assumption) (by assumption) (by omega))⟩, by omega, back [0] rfl rfl ⟨rfl, trivial⟩ (by repeat' (first | exact trivial | exact rfl | refine And.intro ?_ ?_))⟩
        · repeat' (first | refine o1 ?_ | refine o2 ?_ | refine k1 ?_ | refine k2 ?_ | refine k3 ?_ | refine k8 ?_ | refine And.intro ?_ ?_ | (intro h; first | exact Bool.noConfusion h | exact nz _ h | exact nl h | (simp at h; done) | (simp at h; first | (exfalso; omega) | skip) | skip) | refine eqv_len_map ?_ | refine eqv_wrap (by omega) (by omega) ?_ | fail)
          all_goals first
            | exact ⟨k + 1, ⟨by omega, all_lt_succ hallk fun o' h' => by rw [ho] at h'; cases h'; exact fun j hj => halln j (by omega)⟩, by omega, back [0] rfl rfl ⟨rfl, trivial⟩ (by repeat' (first | exact trivial | exact rfl | refine And.intro ?_ ?_))⟩
      · repeat' (first | refine o1 ?_ | refine o2 ?_ | refine k1 ?_ | refine k2 ?_ | refine k3 ?_ | refine k8 ?_ | refine And.intro ?_ ?_ | (intro h; first | exact Bool.noConfusion h | exact nz _ h | exact nl h | (simp at h; done) | (simp at h; first | (exfalso; omega) | skip) | skip) | refine eqv_len_map ?_ | refine eqv_wrap (by omega) (by omega) ?_ | refine ⟨_, _, (by first | rfl | assumption), at_map (by assumption), ?_⟩ | fail)
        all_goals first
          | exact ⟨i + 1, ⟨by omega, all_lt_succ hall fun l' h' => by rw [hl1] at h'; cases h'; exact all_mem hkg hallk⟩, by omega, back [0] rfl rfl ⟨rfl, trivial⟩ (by repeat' (first | exact trivial | exact rfl | refine And.intro ?_ ?_))⟩
    · have hch : ∀ l ∈ m.classes, ∀ o ∈ l, chargesP m o := fun l hl => by
        obtain ⟨j, hj⟩ := List.getElem?_of_mem hl
        exact hall j (by have := (List.getElem?_eq_some_iff.1 hj).1; omega) l hj
      repeat' (first | refine o1 ?_ | refine o2 ?_ | refine k1 ?_ | refine k2 ?_ | refine k3 ?_ | refine k4 ?_ | refine k8 ?_ | refine And.intro ?_ ?_ | (intro h; first | exact Bool.noConfusion h | exact nz _ h | exact nl h | (simp at h; done) | (simp at h; first | (exfalso; omega) | skip) | skip) | refine eqv_len_map ?_ | fail)
      refine loop_at (fun i : Nat => [(7, vint .i64 i)]) (fun _ => []) (fun i => i ≤ m.pairs.length ∧ ∀ j, j < i → pairAt m j) (fun i => m.pairs.length - i) 0 ⟨by omega, fun j hj => by omega⟩ (by repeat' (first | exact trivial | exact ⟨_, rfl, ALe.refl⟩ | refine And.intro ?_ ?_)) (by repeat' (first | exact trivial | exact rfl | refine And.intro ?_ ?_)) ?_
      intro i ⟨hi, hall2⟩
      rcases Nat.lt_or_ge i m.pairs.length with hlt | hge
      · obtain ⟨p, hp⟩ := getE hlt
        rcases i with _ | k
        · repeat' (first | refine o1 ?_ | refine o2 ?_ | refine k1 ?_ | refine k2 ?_ | refine k3 ?_ | refine k4 ?_ | refine k6 ?_ | refine k7 ?_ | refine k8 ?_ | refine And.intro ?_ ?_ | (intro h; first | exact Bool.noConfusion h | exact nz _ h | exact nl h | (simp at h; done) | (simp at h; first | (exfalso; omega) | skip) | skip) | (change retOk _ _ _ _; refine ret_pure rfl trivial ?_) | refine eqv_len_map ?_ | refine eqv_wrap (by omega) (by omega) ?_ | (change vcFun _ _ _ _ _; refine call_eq rfl (by repeat' (first | trivial | refine And.intro ?_ ?_ | (show 0 + _ ≤ List.length _; simp))) ALeL.refl (c_rpaired0 m p hz hp) rfl ?_) | fail)
          all_goals first
            | (refine congrArg (vint .i64) (mE1 hz fun g => ?_).symm; exact absurd (g.2.1 _ hlt) (by assumption))
            | exact ⟨1, ⟨by omega, all_lt_succ hall2 (by assumption)⟩, by omega, back [0] rfl rfl ⟨rfl, trivial⟩ (by repeat' (first | exact trivial | exact rfl | refine And.intro ?_ ?_))⟩
            | (exfalso; simp_all; done)
        · obtain ⟨q, hq⟩ := getE (show k < m.pairs.length by omega)
          repeat' (first | refine o1 ?_ | refine o2 ?_ | refine k1 ?_ | refine k2 ?_ | refine k3 ?_ | refine k4 ?_ | refine k6 ?_ | refine k7 ?_ | refine And.intro ?_ ?_ | (intro h; first | exact Bool.noConfusion h | exact nz _ h | exact nl h | (simp at h; done) | (simp at h; first | (exfalso; omega) | skip) | skip) | (change retOk _ _ _ _; refine ret_pure rfl trivial ?_) | refine eqv_len_map ?_ | refine eqv_wrap (by omega) (by omega) ?_ | (change vcFun _ _ _ _ _; refine call_eq rfl (by repeat' (first | trivial | refine And.intro ?_ ?_ | (show 0 + _ ≤ List.length _; simp))) ALeL.refl (c_rpairedS m k q hq p hz hp) rfl ?_) | fail)
          all_goals first
            | (refine congrArg (vint .i64) (mE1 hz fun g => ?_).symm; exact absurd (g.2.1 _ hlt) (by assumption))
            | exact ⟨k + 2, ⟨by omega, all_lt_succ hall2 (by assumption)⟩, by omega, back [0] rfl rfl ⟨rfl, trivial⟩ (by repeat' (first | exact trivial | exact rfl | refine And.intro ?_ ?_))⟩
      · have hpa : ∀ i, i < m.pairs.length → pairAt m i := fun j hj => hall2 j (by omega)
        repeat' (first | refine o1 ?_ | refine o2 ?_ | refine k1 ?_ | refine k2 ?_ | refine k3 ?_ | refine k4 ?_ | refine k8 ?_ | refine And.intro ?_ ?_ | (intro h; first | exact Bool.noConfusion h | exact nz _ h | exact nl h | (simp at h; done) | (simp at h; first | (exfalso; omega) | skip) | skip) | refine eqv_len_map ?_ | fail)
        refine loop_at (fun i : Nat => [(8, vint .i64 i)]) (fun _ => []) (fun i => i ≤ m.counts.length ∧ ∀ j, j < i → ∀ c, m.counts[j]? = some c → countP_ m c) (fun i => m.counts.length - i) 0 ⟨by omega, fun j hj => by omega⟩ (by repeat' (first | exact trivial | exact ⟨_, rfl, ALe.refl⟩ | refine And.intro ?_ ?_)) (by repeat' (first | exact trivial | exact rfl | refine And.intro ?_ ?_)) ?_
        intro i ⟨hi, hall3⟩
        rcases Nat.lt_or_ge i m.counts.length with hlt | hge
        · obtain ⟨c, hc⟩ := getE hlt
          repeat' (first | (refine idx_sl (k := i) (at_map hc) (by omega) ?_) | refine o1 ?_ | refine o2 ?_ | refine k1 ?_ | refine k2 ?_ | refine k3 ?_ | refine k4 ?_ | refine k6 ?_ | refine k7 ?_ | refine And.intro ?_ ?_ | refine o3 ?_ | refine o4 ?_ | (intro h; first | exact Bool.noConfusion h | exact nz _ h | exact nl h | (simp at h; done) | (simp at h; first | (exfalso; omega) | skip) | skip) | (change retOk _ _ _ _; refine ret_pure rfl trivial ?_) | exact (by kernel_rfl : drawOk _ _ = true) | refine eqv_len_map ?_ | refine eqv_wrap (by omega) (by omega) ?_ | (change vcFunD _ _ _ _ _; refine callD_eq rfl (by repeat' (first | trivial | refine And.intro ?_ ?_ | (show 0 + _ ≤ List.length _; simp))) ALeL.refl (c_rcounted m c (hl.ld c (List.mem_of_getElem? hc))) rfl ?_) | fail)
          all_goals first
            | (refine congrArg (vint .i64) (mE1 hz fun g => ?_).symm; exact absurd (g.2.2 c (List.mem_of_getElem? hc)) (by assumption))
            | exact ⟨i + 1, ⟨by omega, all_lt_succ hall3 fun c' h' => by rw [hc] at h'; cases h'; assumption⟩, by omega, back [0] rfl rfl ⟨rfl, trivial⟩ (by repeat' (first | exact trivial | exact rfl | refine And.intro ?_ ?_))⟩
        · repeat' (first | refine o1 ?_ | refine o2 ?_ | refine k1 ?_ | refine k2 ?_ | refine k3 ?_ | refine k7 ?_ | refine k8 ?_ | refine And.intro ?_ ?_ | (intro h; first | exact Bool.noConfusion h | exact nz _ h | exact nl h | (simp at h; done) | (simp at h; first | (exfalso; omega) | skip) | skip) | (change retOk _ _ _ _; refine ret_pure rfl trivial ?_) | refine eqv_len_map ?_ | fail)
          all_goals first
            | exact congrArg (vint .i64) (mE0 hz ⟨hch, hpa, all_mem hge hall3⟩).symm
  · refine acall_of tok mixed 105 rfl (fn := Tryz.f26) (c := Tryz.f26.body.getD .skip) (by kernel_rfl) (by kernel_rfl) (by kernel_rfl) rfl 0 rfl ?_
    repeat' (first | refine o1 ?_ | refine o2 ?_ | refine k1 ?_ | refine k2 ?_ | refine k3 ?_ | refine k4 ?_ | refine k6 ?_ | refine k7 ?_ | refine And.intro ?_ ?_ | (intro h; first | exact Bool.noConfusion h | exact nz _ h | exact nl h | (simp at h; done) | (simp at h; first | (exfalso; omega) | skip) | skip) | (change retOk _ _ _ _; refine ret_pure rfl trivial ?_) | (change vcFun _ _ _ _ _; refine call_eq rfl (by repeat' (first | trivial | refine And.intro ?_ ?_ | (show 0 + _ ≤ List.length _; simp))) ALeL.refl (c_sized m hl) rfl ?_) | fail)
    all_goals first
      | exact congrArg (vint .i64) (mE2 hz).symm
      | (exfalso; exact hz (by assumption))
end Go.Proofs.YtihpjcmloecaaaaGreat.Cw
/-
  Contracts: lists that contain.
-/
namespace Go.Proofs.YtihpjcmloecaaaaGreat.Cw
open Go.Cw Go.Proofs
set_option linter.unusedVariables false
set_option maxRecDepth 100000
set_option maxHeartbeats 800000
noncomputable def idxS (l : List Str) (s : Str) : Int := idxB (fun q => pB (q = s)) l
noncomputable def idxN (l : List Int) (s : Int) : Int := idxB (fun q => pB (q = s)) l
theorem idxN_has {l : List Int} {s : Int} : decide (idxN l s ≥ 0) = pB (s ∈ l) := by
  unfold idxN
  rw [idxB_any]
  by_cases h : s ∈ l
  · rw [pB_t h]; exact List.any_eq_true.2 ⟨s, h, pB_t rfl⟩
  · rw [pB_f h]; exact List.any_eq_false.2 fun q hq => by rw [pB_f (fun e : q = s => h (e ▸ hq))]; simp
theorem c_indexN (l : List Int) (s : Int) (hl : l.length ≤ 100000) : PCall Tryz.prog 93 [.pv (encInts l), vint .i64 s] (fun r => r = vint .i64 (idxN l s)) := by
  refine acall_of tok mixed 19 rfl (fn := Tryz.f93) (c := Tryz.f93.body.getD .skip) (by kernel_rfl) (by kernel_rfl) (by kernel_rfl) rfl 0 rfl ?_
  repeat' (first | refine o1 ?_ | refine o2 ?_ | refine k1 ?_ | refine k2 ?_ | refine k3 ?_ | refine k4 ?_ | refine k6 ?_ | refine k7 ?_ | refine k8 ?_ | refine And.intro ?_ ?_ | exact trivial | refine o3 ?_ | refine o4 ?_ | refine o5 ?_ | refine o6 ?_ | refine k5 ?_ | (intro h; first | exact Bool.noConfusion h | exact nz _ h | exact nl h | (simp at h; done) | (simp at h; first | (exfalso; omega) | skip) | skip) | (change retOk _ _ _ _; refine ret_pure rfl trivial ?_) | exact (rfl : allOne _ = true) | (refine (?_ : (0 : Int) ≤ _); omega) | (refine (?_ : _ ≠ _); omega) | (refine (?_ : srcLen _ = rowsLen _); rfl) | exact Nat.le_of_ble_eq_true rfl | exact (by kernel_rfl : drawOk _ _ = true) | refine eqv_len_map ?_ | refine eqv_size ?_ | refine eqv_put (eqv_ck ?_) | refine eqv_zero ?_ | refine eqv_wrap (by omega) (by omega) ?_ | refine eqv_u64 (by omega) (by omega) ?_ | refine eqv_u8 (by omega) (by omega) ?_ | refine eqv_to _ (set_map rfl rfl) ?_ | refine ⟨_, _, (by first | rfl | assumption), at_map (by assumption), ?_⟩ | refine ⟨_, _, (by first | rfl | assumption), (by assumption), ?_⟩ | refine ⟨_, at_map (by assumption), (by decide), ?_⟩ | refine ⟨_, at_map (by assumption), ?_⟩ | (refine (?_ : _ ≤ 140737488355328); simp [rowsLen] <;> omega) | (refine (?_ : _ ≤ 9223372036854775807); simp [rowsLen] <;> omega) | (refine (?_ : _ = rowsLen _); simp [rowsLen] <;> omega) | refine eqv_to _ (app_row rfl) (eqv_to _ app_len ?_) | refine eqv_to _ (app_first rfl) (eqv_to 1 rfl ?_) | refine idx_sl (at_map (by assumption)) (by omega) ?_ | refine idx_ms _ (by first | rfl | assumption) (by first | assumption | omega) ?_ | fail)
  refine loop_at (fun i : Nat => [(8, vint .i64 i)]) (fun _ => []) (fun i => i ≤ l.length ∧ ∀ j, j < i → ∀ q, l[j]? = some q → pB (q = s) = false) (fun i => l.length - i) 0 ⟨by omega, fun j hj => by omega⟩ (by repeat' (first | exact trivial | exact rfl | exact ⟨_, rfl, ALe.refl⟩ | refine And.intro ?_ ?_)) (by repeat' (first | exact trivial | exact rfl | exact ⟨_, rfl, ALe.refl⟩ | refine And.intro ?_ ?_)) ?_
  intro i ⟨hi, hall⟩
  rcases Nat.lt_or_ge i l.length with hlt | hge
  · obtain ⟨q, hq⟩ := getE hlt
    repeat' (first | refine o1 ?_ | refine o2 ?_ | refine k1 ?_ | refine k2 ?_ | refine k3 ?_ | refine k4 ?_ | refine k6 ?_ | refine k7 ?_ | refine k8 ?_ | refine And.intro ?_ ?_ | exact trivial | refine o3 ?_ | refine o4 ?_ | refine o5 ?_ | refine o6 ?_ | refine k5 ?_ | (intro h; first | exact Bool.noConfusion h | exact nz _ h | exact nl h | (simp at h; done) | (simp at h; first | (exfalso; omega) | skip) | skip) | (change retOk _ _ _ _; refine ret_pure rfl trivial ?_) | exact (rfl : allOne _ = true) | (refine (?_ : (0 : Int) ≤ _); omega) | (refine (?_ : _ ≠ _); omega) | (refine (?_ : srcLen _ = rowsLen _); rfl) | exact Nat.le_of_ble_eq_true rfl | exact (by kernel_rfl : drawOk _ _ = true) | refine eqv_len_map ?_ | refine eqv_size ?_ | refine eqv_put (eqv_ck ?_) | refine eqv_zero ?_ | refine eqv_wrap (by omega) (by omega) ?_ | refine eqv_u64 (by omega) (by omega) ?_ | refine eqv_u8 (by omega) (by omega) ?_ | refine eqv_to _ (set_map rfl rfl) ?_ | refine ⟨_, _, (by first | rfl | assumption), at_map (by assumption), ?_⟩ | refine ⟨_, _, (by first | rfl | assumption), (by assumption), ?_⟩ | refine ⟨_, at_map (by assumption), (by decide), ?_⟩ | refine ⟨_, at_map (by assumption), ?_⟩ | (refine (?_ : _ ≤ 140737488355328); simp [rowsLen] <;> omega) | (refine (?_ : _ ≤ 9223372036854775807); simp [rowsLen] <;> omega) | (refine (?_ : _ = rowsLen _); simp [rowsLen] <;> omega) | refine eqv_to _ (app_row rfl) (eqv_to _ app_len ?_) | refine eqv_to _ (app_first rfl) (eqv_to 1 rfl ?_) | refine idx_sl (at_map (by assumption)) (by omega) ?_ | refine idx_ms _ (by first | rfl | assumption) (by first | assumption | omega) ?_ | fail)
    all_goals first
      | exact congrArg (vint .i64) (idxB_at hall hq (pB_t (by omega))).symm
      | exact ⟨i + 1, ⟨by omega, all_lt_succ hall fun q' h' => by rw [hq] at h'; cases h'; exact pB_f fun e => by omega⟩, by omega, back [] rfl rfl trivial (by repeat' (first | exact trivial | exact rfl | exact ⟨_, rfl, ALe.refl⟩ | refine And.intro ?_ ?_))⟩
  · repeat' (first | refine o1 ?_ | refine o2 ?_ | refine k1 ?_ | refine k2 ?_ | refine k3 ?_ | refine k4 ?_ | refine k6 ?_ | refine k7 ?_ | refine k8 ?_ | refine And.intro ?_ ?_ | exact trivial | refine o3 ?_ | refine o4 ?_ | refine o5 ?_ | refine o6 ?_ | refine k5 ?_ | (intro h; first | exact Bool.noConfusion h | exact nz _ h | exact nl h | (simp at h; done) | (simp at h; first | (exfalso; omega) | skip) | skip) | (change retOk _ _ _ _; refine ret_pure rfl trivial ?_) | exact (rfl : allOne _ = true) | (refine (?_ : (0 : Int) ≤ _); omega) | (refine (?_ : _ ≠ _); omega) | (refine (?_ : srcLen _ = rowsLen _); rfl) | exact Nat.le_of_ble_eq_true rfl | exact (by kernel_rfl : drawOk _ _ = true) | refine eqv_len_map ?_ | refine eqv_size ?_ | refine eqv_put (eqv_ck ?_) | refine eqv_zero ?_ | refine eqv_wrap (by omega) (by omega) ?_ | refine eqv_u64 (by omega) (by omega) ?_ | refine eqv_u8 (by omega) (by omega) ?_ | refine eqv_to _ (set_map rfl rfl) ?_ | refine ⟨_, _, (by first | rfl | assumption), at_map (by assumption), ?_⟩ | refine ⟨_, _, (by first | rfl | assumption), (by assumption), ?_⟩ | refine ⟨_, at_map (by assumption), (by decide), ?_⟩ | refine ⟨_, at_map (by assumption), ?_⟩ | (refine (?_ : _ ≤ 140737488355328); simp [rowsLen] <;> omega) | (refine (?_ : _ ≤ 9223372036854775807); simp [rowsLen] <;> omega) | (refine (?_ : _ = rowsLen _); simp [rowsLen] <;> omega) | refine eqv_to _ (app_row rfl) (eqv_to _ app_len ?_) | refine eqv_to _ (app_first rfl) (eqv_to 1 rfl ?_) | refine idx_sl (at_map (by assumption)) (by omega) ?_ | refine idx_ms _ (by first | rfl | assumption) (by first | assumption | omega) ?_ | fail)
    all_goals first
      | exact congrArg (vint .i64) (idxB_none fun j hj => hall j (by omega)).symm
theorem c_containsN (l : List Int) (s : Int) (hl : l.length ≤ 100000) : PCall Tryz.prog 52 [.pv (encInts l), vint .i64 s] (fun r => r = vbool (pB (s ∈ l))) := by
  refine acall_of tok mixed 9 rfl (fn := Tryz.f52) (c := Tryz.f52.body.getD .skip) (by kernel_rfl) (by kernel_rfl) (by kernel_rfl) rfl 0 rfl ?_
  repeat' (first | refine o1 ?_ | refine o2 ?_ | refine k1 ?_ | refine k2 ?_ | refine k3 ?_ | refine k4 ?_ | refine k6 ?_ | refine k7 ?_ | refine k8 ?_ | refine And.intro ?_ ?_ | exact trivial | refine o3 ?_ | refine o4 ?_ | refine o5 ?_ | refine o6 ?_ | refine k5 ?_ | (intro h; first | exact Bool.noConfusion h | exact nz _ h | exact nl h | (simp at h; done) | (simp at h; first | (exfalso; omega) | skip) | skip) | (change retOk _ _ _ _; refine ret_pure rfl trivial ?_) | exact (rfl : allOne _ = true) | (refine (?_ : (0 : Int) ≤ _); omega) | (refine (?_ : _ ≠ _); omega) | (refine (?_ : srcLen _ = rowsLen _); rfl) | exact Nat.le_of_ble_eq_true rfl | exact (by kernel_rfl : drawOk _ _ = true) | refine eqv_len_map ?_ | refine eqv_size ?_ | refine eqv_put (eqv_ck ?_) | refine eqv_zero ?_ | refine eqv_wrap (by omega) (by omega) ?_ | refine eqv_u64 (by omega) (by omega) ?_ | refine eqv_u8 (by omega) (by omega) ?_ | refine eqv_to _ (set_map rfl rfl) ?_ | refine ⟨_, _, (by first | rfl | assumption), at_map (by assumption), ?_⟩ | refine ⟨_, _, (by first | rfl | assumption), (by assumption), ?_⟩ | refine ⟨_, at_map (by assumption), (by decide), ?_⟩ | refine ⟨_, at_map (by assumption), ?_⟩ | (refine (?_ : _ ≤ 140737488355328); simp [rowsLen] <;> omega) | (refine (?_ : _ ≤ 9223372036854775807); simp [rowsLen] <;> omega) | (refine (?_ : _ = rowsLen _); simp [rowsLen] <;> omega) | refine eqv_to _ (app_row rfl) (eqv_to _ app_len ?_) | refine eqv_to _ (app_first rfl) (eqv_to 1 rfl ?_) | refine idx_sl (at_map (by assumption)) (by omega) ?_ | refine idx_ms _ (by first | rfl | assumption) (by first | assumption | omega) ?_ | (change vcFun _ _ _ _ _; refine call_eq rfl (by repeat' (first | trivial | refine And.intro ?_ ?_ | (show 0 + _ ≤ List.length _; simp))) ALeL.refl (c_indexN l s hl) rfl ?_) | fail)
  exact congrArg vbool idxN_has
end Go.Proofs.YtihpjcmloecaaaaGreat.Cw
/-
  Contracts: complete plans.
-/
namespace Go.Proofs.YtihpjcmloecaaaaGreat.Cw
open Go.Cw Go.Proofs
set_option linter.unusedVariables false
set_option maxRecDepth 100000
set_option maxHeartbeats 1600000
def planP (m : Model) (plan : List Int) : Prop := plan.length = m.classes.length ∧ ∀ i, i < plan.length → ∀ o, plan[i]? = some o → optionP m i o
def plannedP (m : Model) (plan : List Int) : Prop := plan.length = m.classes.length ∧ ∀ i, i < plan.length → ∀ o, plan[i]? = some o → o = -1 ∨ optionP m i o
noncomputable def completeE (m : Model) (plan : List Int) : Int := if modelE m = 0 then (if pB (planP m plan) then 0 else 17) else modelE m
theorem model_sized {m : Model} (h : modelE m = 0) : sizedP m := Classical.byContradiction fun hn => by rw [mE2 hn] at h; cases h
end Go.Proofs.YtihpjcmloecaaaaGreat.Cw
/-
  Symmetry, plain: which options of a class have a place; the objects of an index.
-/
namespace Go.Proofs.YtihpjcmloecaaaaGreat.Cw
open Go Go.Cw Go.Proofs
set_option linter.unusedVariables false
def keyV (p : Placed) : Value := .agg #[.int .i64 p.time.weeks, .int .i64 p.time.day, .int .i64 p.time.start, .int .i64 p.time.len, .int .i64 p.room]
theorem placed_eq {p q : Placed} (h1 : p.time.weeks = q.time.weeks) (h2 : p.time.day = q.time.day) (h3 : p.time.start = q.time.start) (h4 : p.time.len = q.time.len) (h5 : p.room = q.room) : p = q := by
  obtain ⟨⟨a, b, c, d⟩, e⟩ := p
  obtain ⟨⟨a', b', c', d'⟩, e'⟩ := q
  simp only at h1 h2 h3 h4 h5
  subst h1; subst h2; subst h3; subst h4; subst h5; rfl
theorem keyV_eq {p q : Placed} : kEq (keyV p) (keyV q) = true ↔ p = q := by
  constructor
  · intro h
    simp only [kEq, keyV, eqV, Bool.and_eq_true, beq_iff_eq, and_true] at h
    exact placed_eq h.1 h.2.1 h.2.2.1 h.2.2.2.1 h.2.2.2.2
  · rintro rfl
    simp [kEq, keyV, eqV]
theorem keyV_f {p q : Placed} (h : ¬ p = q) : kEq (keyV p) (keyV q) = false := by
  cases hk : kEq (keyV p) (keyV q) with
  | false => rfl
  | true => exact absurd (keyV_eq.1 hk) h
abbrev Ent := Placed × List Nat
def natRow (n : Nat) : List PV := [ei n]
def ents (k : Nat) : Nat → List Ent → List (Value × Nat × AV)
  | _, [] => []
  | b, e :: E => (keyV e.1, b, .ms (b + k) 1 0 e.2.length) :: ents k (b + 1) E
def tailO (ty : Nat) (E : List Ent) : Heap := E.map fun e => some ⟨ty, 1, false, .p (e.2.map natRow)⟩
theorem ents_get {k : Nat} : ∀ {E : List Ent} {b i : Nat}, (ents k b E)[i]? = E[i]?.map fun e => (keyV e.1, b + i, .ms (b + i + k) 1 0 e.2.length)
  | [], b, i => by simp [ents]
  | e :: E, b, 0 => by simp [ents]
  | e :: E, b, i + 1 => by
    simp only [ents, List.getElem?_cons_succ]
    rw [ents_get, show b + 1 + i = b + (i + 1) by omega]
theorem ents_len {k : Nat} : ∀ {E : List Ent} {b : Nat}, (ents k b E).length = E.length
  | [], _ => rfl
  | e :: E, b => by simp [ents, ents_len (E := E) (b := b + 1)]
theorem ents_none {k : Nat} {p : Placed} : ∀ {E : List Ent} {b : Nat}, (∀ e ∈ E, e.1 ≠ p) → getM (keyV p) (ents k b E) = none
  | [], b, _ => rfl
  | e :: E, b, h => by
    simp only [ents, getM]
    rw [keyV_f fun q => h e (by simp) q.symm]
    exact ents_none fun e he => h e (by simp [he])
theorem ents_some {k : Nat} {p : Placed} {l : List Nat} : ∀ {E : List Ent} {b j : Nat}, E[j]? = some (p, l) → (∀ i, i < j → ∀ e, E[i]? = some e → e.1 ≠ p) → getM (keyV p) (ents k b E) = some (.ms (b + j + k) 1 0 l.length)
  | [], b, j, h, _ => by simp at h
  | e :: E, b, 0, h, _ => by
    simp only [List.getElem?_cons_zero, Option.some.injEq] at h
    subst h
    simp only [ents, getM]
    rw [keyV_eq.2 rfl]; rfl
  | e :: E, b, j + 1, h, hd => by
    simp only [ents, getM]
    rw [keyV_f fun q => hd 0 (by omega) e rfl q.symm]
    have := ents_some (k := k) (E := E) (b := b + 1) (j := j) (by simpa using h) fun i hi e he => hd (i + 1) (by omega) e (by simpa using he)
    rw [show b + 1 + j = b + (j + 1) by omega] at this
    exact this
theorem put_none {k : Nat} {p : Placed} {v : AV} {ck : Nat} : ∀ {E : List Ent} {b : Nat}, (∀ e ∈ E, e.1 ≠ p) → putM (keyV p) v ck (ents k b E) = ents k b E ++ [(keyV p, ck, v)]
  | [], b, _ => rfl
  | e :: E, b, h => by
    simp only [ents, putM]
    rw [keyV_f fun q => h e (by simp) q.symm]
    show _ :: _ = _ :: _
    rw [put_none fun e he => h e (by simp [he])]
    rfl
theorem put_some {k : Nat} {p : Placed} {l : List Nat} {v : AV} {ck : Nat} : ∀ {E : List Ent} {b j : Nat}, E[j]? = some (p, l) → (∀ i, i < j → ∀ e, E[i]? = some e → e.1 ≠ p) → putM (keyV p) v ck (ents k b E) = (ents k b E).set j (keyV p, b + j, v)
  | [], b, j, h, _ => by simp at h
  | e :: E, b, 0, h, _ => by
    simp only [List.getElem?_cons_zero, Option.some.injEq] at h
    subst h
    simp only [ents, putM]
    rw [keyV_eq.2 rfl]; rfl
  | e :: E, b, j + 1, h, hd => by
    simp only [ents, putM]
    rw [keyV_f fun q => hd 0 (by omega) e rfl q.symm]
    have := put_some (k := k) (v := v) (ck := ck) (E := E) (b := b + 1) (j := j) (by simpa using h) fun i hi e he => hd (i + 1) (by omega) e (by simpa using he)
    rw [show b + 1 + j = b + (j + 1) by omega] at this
    show _ :: _ = _ :: _
    rw [this]
theorem ck_none {k : Nat} {p : Placed} {ck : Nat} {E : List Ent} {b : Nat} (h : ∀ e ∈ E, e.1 ≠ p) : ckM (keyV p) ck (ents k b E) = ck + 1 := by
  unfold ckM; rw [ents_none h]
theorem ck_some {k : Nat} {p : Placed} {l : List Nat} {ck : Nat} {E : List Ent} {b j : Nat} (h : E[j]? = some (p, l)) (hd : ∀ i, i < j → ∀ e, E[i]? = some e → e.1 ≠ p) : ckM (keyV p) ck (ents k b E) = ck := by
  unfold ckM; rw [ents_some h hd]
theorem ents_far {k m : Nat} : ∀ {E : List Ent} {b : Nat}, k + m ≤ 5 → ∀ e ∈ ents 5 b E, far k m e.2.2 = true
  | [], _, _, e, h => by cases h
  | x :: E, b, h, e, he => by
    rcases List.mem_cons.1 he with rfl | he
    · simp [far]; right; omega
    · exact ents_far h e he
theorem tail_far {ty k m : Nat} : ∀ {E : List Ent} {i0 : Nat}, k + m ≤ i0 → farH k m i0 (tailO ty E)
  | [], _, _ => trivial
  | e :: E, i0, h => ⟨.inr h, trivial, tail_far (E := E) (i0 := i0 + 1) (by omega)⟩
theorem tail_get {ty : Nat} {E : List Ent} {i : Nat} {e : Ent} (h : E[i]? = some e) : (tailO ty E)[i]? = some (some ⟨ty, 1, false, .p (e.2.map natRow)⟩) := by
  unfold tailO; rw [List.getElem?_map, h]; rfl
theorem tail_len {ty : Nat} {E : List Ent} : (tailO ty E).length = E.length := by simp [tailO]
theorem rset_get {k N b x j : Nat} : ((List.range' k N).set b x)[j]? = if j < N then some (if b = j then x else j + k) else none := by
  rw [List.getElem?_set, List.length_range']
  by_cases e : b = j
  · subst e; simp
  · simp only [e, if_false]
    by_cases h : j < N
    · rw [if_pos h, List.getElem?_range' h, Nat.one_mul, Nat.add_comm]
    · rw [if_neg h, List.getElem?_eq_none (by simp; omega)]
def rnK (N b x : Nat) : List Nat := 0 :: (N + 6) :: (N + 7) :: (N + 8) :: (N + 9) :: (List.range' 5 N).set b x
theorem rnK_get {N b x d j : Nat} (hj : j < N) : (rnK N b x).getD (j + 5) d = if b = j then x else j + 5 := by
  rw [List.getD_eq_getElem?_getD]
  show (((List.range' 5 N).set b x)[j]?).getD d = _
  rw [rset_get, if_pos hj]; rfl
theorem rset_mem {N b x y : Nat} (h : y ∈ (List.range' 5 N).set b x) : y = x ∨ (5 ≤ y ∧ y < 5 + N) := by
  obtain ⟨j, hj⟩ := List.getElem?_of_mem h
  rw [rset_get] at hj
  split at hj
  · injection hj with hj
    split at hj <;> omega
  · cases hj
theorem rset_nodup {N b x : Nat} (hx : x < 5) : ((List.range' 5 N).set b x).Nodup := by
  rw [List.Nodup, List.pairwise_iff_getElem]
  intro i j hi hj hij e
  rw [List.length_set, List.length_range'] at hi hj
  have h1 := rset_get (k := 5) (N := N) (b := b) (x := x) (j := i)
  have h2 := rset_get (k := 5) (N := N) (b := b) (x := x) (j := j)
  rw [List.getElem?_eq_getElem (by simpa using hi), if_pos hi] at h1
  rw [List.getElem?_eq_getElem (by simpa using hj), if_pos hj] at h2
  injection h1 with h1
  injection h2 with h2
  rw [e] at h1
  rw [h1] at h2
  split at h2 <;> split at h2 <;> omega
theorem rnK_allD {N b x : Nat} (h0 : 0 < x) (hx : x < 5) : allD (rnK N b x) = true := by
  apply allD_of
  unfold rnK
  have h := rset_nodup (N := N) (b := b) hx
  have hm : ∀ y ∈ (List.range' 5 N).set b x, 0 < y ∧ y < N + 5 := fun y hy => by rcases rset_mem hy with k | k <;> omega
  refine List.nodup_cons.2 ⟨fun k => ?_, List.nodup_cons.2 ⟨fun k => ?_, List.nodup_cons.2 ⟨fun k => ?_, List.nodup_cons.2 ⟨fun k => ?_, List.nodup_cons.2 ⟨fun k => ?_, h⟩⟩⟩⟩⟩
  all_goals
    have hk := fun y hy => hm y hy
    generalize (List.range' 5 N).set b x = L at *
    try simp only [List.mem_cons] at k
    first
      | (have := hk _ k; omega)
      | (rcases k with k | k | k | k | k <;> first | omega | (have := hk _ k; omega))
      | (rcases k with k | k | k | k <;> first | omega | (have := hk _ k; omega))
      | (rcases k with k | k | k <;> first | omega | (have := hk _ k; omega))
      | (rcases k with k | k <;> first | omega | (have := hk _ k; omega))
      | (have := hk _ k; omega)
theorem kept_all {H : Heap} {d : Nat} {rn : List Nat} : ∀ {rs : List Nat} {T : Heap}, rs.length = T.length → (∀ (i r : Nat), rs[i]? = some r → ∀ o : AObj, T[i]? = some (some o) → H[r]? = some (some (renO d rn o))) → kept H d rn rs T
  | [], [], _, _ => trivial
  | r :: rs, none :: T, hl, h => kept_all (rs := rs) (T := T) (by simpa using hl) fun i r' hr o ho => h (i + 1) r' (by simpa using hr) o (by simpa using ho)
  | r :: rs, some o :: T, hl, h => ⟨h 0 r rfl o rfl, kept_all (rs := rs) (T := T) (by simpa using hl) fun i r' hr o ho => h (i + 1) r' (by simpa using hr) o (by simpa using ho)⟩
  | [], _ :: _, hl, _ => by simp at hl
  | _ :: _, [], hl, _ => by simp at hl
abbrev renE (d : Nat) (rn : List Nat) (e : Value × Nat × AV) : Value × Nat × AV := (e.1, e.2.1, renC d rn e.2.2)
theorem ents_ren {E : List Ent} {d b x q N : Nat} (hN : E.length = N) : ((ents 5 0 E).map (renE d (rnK N b x)))[q]? = E[q]?.map fun e => (keyV e.1, q, .ms (if b = q then x else q + 5) 1 0 e.2.length) := by
  rw [List.getElem?_map, ents_get]
  cases h : E[q]? with
  | none => rfl
  | some e =>
    have hq : q < N := by rw [← hN]; exact (List.getElem?_eq_some_iff.1 h).1
    simp only [Option.map_some, Nat.zero_add, renE, renC, rnK_get hq]
theorem ren_none {E : List Ent} {p : Placed} {i d : Nat} : (ents 5 0 (E ++ [(p, [i])])).map (renE d (rnK (E.length + 1) E.length 3)) = ents 5 0 E ++ [(keyV p, E.length, .ms 3 1 0 1)] := by
  apply List.ext_getElem?
  intro q
  rw [ents_ren (by simp)]
  rcases Nat.lt_or_ge q E.length with h | h
  · rw [List.getElem?_append_left h, List.getElem?_append_left (by rw [ents_len]; exact h), ents_get]
    obtain ⟨e, he⟩ := getE h
    rw [he]
    simp [show ¬ E.length = q by omega]
  · rw [List.getElem?_append_right h, List.getElem?_append_right (by rw [ents_len]; exact h), ents_len]
    rcases Nat.eq_or_lt_of_le h with h | h
    · subst h; simp
    · obtain ⟨m, hm⟩ : ∃ m, q - E.length = m + 1 := ⟨q - E.length - 1, by omega⟩
      rw [hm]; simp
theorem ren_some {E : List Ent} {p : Placed} {l : List Nat} {i d j : Nat} (hj : j < E.length) : (ents 5 0 (E.set j (p, l ++ [i]))).map (renE d (rnK E.length j 3)) = (ents 5 0 E).set j (keyV p, j, .ms 3 1 0 (l ++ [i]).length) := by
  apply List.ext_getElem?
  intro q
  rw [ents_ren (by simp), List.getElem?_set, List.getElem?_set, ents_len, ents_get]
  by_cases h : j = q
  · subst h
    rw [if_pos rfl, if_pos hj, if_pos rfl, if_pos hj]
    simp
  · simp only [if_neg h]
    cases he : E[q]? with
    | none => rfl
    | some e => simp [h]
theorem kept_tail {E : List Ent} {H : Heap} {ty d N b : Nat} {rn : List Nat} {e0 : Ent} (hN : (E.set b e0).length = N) (hb : b < N) (hT : ∀ q, q < N → q ≠ b → ∀ e, E[q]? = some e → H[q + 5]? = some (some ⟨ty, 1, false, .p (e.2.map natRow)⟩))
    (h3 : H[3]? = some (some ⟨ty, 1, false, .p (e0.2.map natRow)⟩)) : kept H d rn ((List.range' 5 N).set b 3) (tailO ty (E.set b e0)) := by
  refine kept_all (by rw [tail_len, hN]; simp) fun q r hr o ho => ?_
  rw [rset_get] at hr
  split at hr
  · rename_i hq
    injection hr with hr
    unfold tailO at ho
    rw [List.getElem?_map, List.getElem?_set] at ho
    by_cases hbq : b = q
    · subst hbq
      rw [if_pos rfl, if_pos (by rw [List.length_set] at hN; omega)] at ho
      injection ho with ho; injection ho with ho; subst ho
      rw [if_pos rfl] at hr; subst hr
      exact h3
    · rw [if_neg hbq] at hr ho
      subst hr
      obtain ⟨e, he, h⟩ := Option.map_eq_some_iff.1 ho
      injection h with h; subst h
      exact hT q hq (fun k => hbq k.symm) e he
  · cases hr
def entsP : Nat → List Ent → List (Value × Nat × AV)
  | _, [] => []
  | b, e :: E => (keyV e.1, b, .pv (.sl 1 (e.2.map natRow))) :: entsP (b + 1) E
theorem entsP_get : ∀ {E : List Ent} {b i : Nat}, (entsP b E)[i]? = E[i]?.map fun e => (keyV e.1, b + i, .pv (.sl 1 (e.2.map natRow)))
  | [], b, i => by simp [entsP]
  | e :: E, b, 0 => by simp [entsP]
  | e :: E, b, i + 1 => by
    simp only [entsP, List.getElem?_cons_succ]
    rw [entsP_get, show b + 1 + i = b + (i + 1) by omega]
theorem entsP_key : ∀ {E : List Ent} {b : Nat}, ∀ e ∈ entsP b E, keyOk (.arr 5) .i64 e.1 = true
  | [], _, e, h => by cases h
  | x :: E, b, e, h => by
    rcases List.mem_cons.1 h with rfl | h
    · rfl
    · exact entsP_key e h
theorem entsP_pure : ∀ {E : List Ent} {b : Nat}, pureM (entsP b E)
  | [], _, e, h => by cases h
  | x :: E, b, e, h => by
    rcases List.mem_cons.1 h with rfl | h
    · exact ⟨_, rfl⟩
    · exact entsP_pure e h
theorem ents_zip {k : Nat} : ∀ {E : List Ent} {b : Nat} {c : List Value}, ((entsP b E).zip c).map (fun p => (⟨p.1.1, p.2, p.1.2.1⟩ : MapEntry)) = ((ents k b E).zip c).map fun p => (⟨p.1.1, p.2, p.1.2.1⟩ : MapEntry)
  | [], _, _ => rfl
  | x :: E, b, [] => rfl
  | x :: E, b, v :: c => by
    simp only [entsP, ents, List.zip_cons_cons, List.map_cons]
    rw [ents_zip (k := k)]
def mapI (ty : Nat) (E : List Ent) : Option AObj := some ⟨ty, 1, false, .mp (.arr 5) .i64 (ents 5 0 E) E.length⟩
def mapP (ty : Nat) (E : List Ent) : Option AObj := some ⟨ty, 1, false, .mp (.arr 5) .i64 (entsP 0 E) E.length⟩
def heapI (ty tn : Nat) (E : List Ent) : Heap := mapI ty E :: none :: none :: none :: none :: tailO tn E
theorem heapI_get {ty tn : Nat} {E : List Ent} {j : Nat} {e : Ent} (h : E[j]? = some e) : (heapI ty tn E)[j + 5]? = some (some ⟨tn, 1, false, .p (e.2.map natRow)⟩) := tail_get h
theorem shut_index {n nh ty tn s : Nat} {Γ : Slots} {E : List Ent} (hs : Cw.get Γ s = some (.mp 0)) (hnh : nh = 0) : Ghost n nh Γ (heapI ty tn E) [(s, .mp 0)] [mapP ty E] := by
  subst hnh
  refine (Ghost.shutM (H := heapI ty tn E) (i := 0) (o := ⟨ty, 1, false, .mp (.arr 5) .i64 (ents 5 0 E) E.length⟩) (rows' := .mp (.arr 5) .i64 (entsP 0 E) E.length) (List.range' 5 E.length) rfl (fun _ => ⟨rfl, entsP_key⟩) (fun c t => ?_) (fun r j u hu => ?_) (fun id hid => ?_) (fun h => ?_)).trans (back [0] rfl rfl ⟨?_, trivial⟩ ⟨hs, trivial⟩)
  · simp only [memOf]
    rw [ents_zip (k := 5)]
  · simp only [rowCell] at hu ⊢
    by_cases hj : j = 0
    · subst hj
      rw [if_pos rfl] at hu ⊢
      rw [entsP_get, Option.map_map] at hu
      obtain ⟨e, he, hue⟩ := Option.map_eq_some_iff.1 hu
      simp only [Function.comp_apply] at hue
      subst hue
      refine .inr ⟨.ms (0 + r + 5) 1 0 e.2.length, .pv (.sl 1 (((e.2.map natRow).drop 0).take e.2.length)), ?_, ?_, ?_, ?_, ?_⟩
      · rw [ents_get, he]; rfl
      · rw [Nat.zero_add]
        have hg := heapI_get (ty := ty) (tn := tn) he
        simp only [conv, conv1, convC, hg]
        first | done | rfl
      · rw [Nat.zero_add]
        have hg := heapI_get (ty := ty) (tn := tn) he
        show okC _ 5 (.ms (r + 5) 1 0 e.2.length)
        simp only [okC, hg]
        try simp
      · rw [List.drop_zero, List.take_of_length_le (by simp)]; exact ALe.refl
      · intro id hid
        rw [Nat.zero_add] at hid
        have hg := heapI_get (ty := ty) (tn := tn) he
        have hid : id ∈ idsC (heapI ty tn E) 5 (.ms (r + 5) 1 0 e.2.length) := hid
        simp only [idsC, hg] at hid
        simp at hid
        have := (List.getElem?_eq_some_iff.1 he).1
        rw [hid, List.mem_range'_1]; omega
    · rw [if_neg hj] at hu; cases hu
  · rw [List.mem_range'_1] at hid
    obtain ⟨e, he⟩ := getE (show id - 5 < E.length by omega)
    have := heapI_get (ty := ty) (tn := tn) he
    rw [show id - 5 + 5 = id by omega] at this
    exact ⟨_, this⟩
  · rw [List.mem_range'_1] at h; omega
  · have hl : 0 < (app (heapI ty tn E) (frz (heapI ty tn E) (List.range' 5 E.length))).length := by rw [app_length]; simp [heapI]
    rw [List.getElem?_set_self hl]
    show some (some _) = some (some (renO _ _ _))
    rw [ren_mp entsP_pure]
end Go.Proofs.YtihpjcmloecaaaaGreat.Cw
/-
  Classes whose options, and options whose charges, are objects of their own: how they lie in a heap.
-/
namespace Go.Proofs.YtihpjcmloecaaaaGreat.Cw
open Go Go.Cw Go.Proofs
set_option linter.unusedVariables false
set_option maxRecDepth 100000
def chC (id : Nat) : List Charge → AV
  | [] => .clip 2 []
  | _ :: t => .ms id 2 0 (t.length + 1)
def chO : List Charge → Option AObj
  | [] => none
  | c :: t => some ⟨98, 2, false, .p ((c :: t).map Charge.row)⟩
def oRow (x : AV) (p : Placed) : List AV := [.pv (ei p.time.weeks), .pv (ei p.time.day), .pv (ei p.time.start), .pv (ei p.time.len), .pv (ei p.room), x]
def rowsF (g : Nat → Nat) : Nat → List Opt → List (List AV)
  | _, [] => []
  | j, o :: l => oRow (chC (g j) o.charges) o.place :: rowsF g (j + 1) l
def optO (g : Nat → Nat) (j : Nat) (l : List Opt) : Option AObj := obM 62 6 (rowsF g j l)
def chsO (l : List Opt) : Heap := l.map fun o => chO o.charges
def tailF (g : Nat → Nat) : Nat → List (List Opt) → Heap
  | _, [] => []
  | j, l :: L => chsO l ++ (optO g j l :: tailF g (j + l.length + 1) L)
def clsC (g : Nat → Nat) (j : Nat) : List Opt → AV
  | [] => .clip 6 []
  | o :: t => .ms (g (j + (t.length + 1))) 6 0 (t.length + 1)
def clsF (g : Nat → Nat) : Nat → List (List Opt) → List (List AV)
  | _, [] => []
  | j, l :: L => [clsC g j l] :: clsF g (j + l.length + 1) L
def nT : List (List Opt) → Nat
  | [] => 0
  | l :: L => l.length + 1 + nT L
section
variable {g g' : Nat → Nat} {l l' : List Opt} {A B L : List (List Opt)} {j d : Nat} {rn : List Nat} {H : Heap}
theorem rowsF_len : ∀ {l : List Opt} {j : Nat}, (rowsF g j l).length = l.length
  | [], _ => rfl
  | o :: l, j => by simp [rowsF, rowsF_len (l := l)]
theorem clsF_len : ∀ {L : List (List Opt)} {j : Nat}, (clsF g j L).length = L.length
  | [], _ => rfl
  | o :: l, j => by simp [clsF, clsF_len (L := l)]
theorem chsO_len : (chsO l).length = l.length := by simp [chsO]
theorem tailF_len : ∀ {L : List (List Opt)} {j : Nat}, (tailF g j L).length = nT L
  | [], _ => rfl
  | l :: L, j => by simp [tailF, nT, chsO_len, tailF_len (L := L)]; omega
theorem nT_app : ∀ {A : List (List Opt)}, nT (A ++ B) = nT A + nT B
  | [] => by simp [nT]
  | l :: A => by simp [nT, nT_app (A := A)]; omega
theorem nT_one : nT [l] = l.length + 1 := rfl
theorem nT_snoc : nT (A ++ [l]) = nT A + l.length + 1 := by rw [nT_app, nT_one]; omega
theorem nT_same : l'.length = l.length → nT (A ++ l' :: B) = nT (A ++ l :: B) := fun h => by rw [nT_app, nT_app]; simp [nT, h]
theorem tailF_app : ∀ {A : List (List Opt)} {j : Nat}, tailF g j (A ++ B) = tailF g j A ++ tailF g (j + nT A) B
  | [], j => by simp [tailF, nT]
  | l :: A, j => by
    simp only [List.cons_append, tailF, tailF_app (A := A), nT, List.append_assoc, List.cons_append]
    rw [show j + l.length + 1 + nT A = j + (l.length + 1 + nT A) by omega]
theorem clsF_app : ∀ {A : List (List Opt)} {j : Nat}, clsF g j (A ++ B) = clsF g j A ++ clsF g (j + nT A) B
  | [], j => by simp [clsF, nT]
  | l :: A, j => by
    simp only [List.cons_append, clsF, clsF_app (A := A), nT]
    rw [show j + l.length + 1 + nT A = j + (l.length + 1 + nT A) by omega]
theorem rowsF_app : ∀ {l m : List Opt} {j : Nat}, rowsF g j (l ++ m) = rowsF g j l ++ rowsF g (j + l.length) m
  | [], m, j => by simp [rowsF]
  | o :: l, m, j => by
    simp only [List.cons_append, rowsF, rowsF_app (l := l), List.length_cons]
    rw [show j + 1 + l.length = j + (l.length + 1) by omega]
/-! other numbers -/
theorem chC_ren {id : Nat} {c : List Charge} : renC d rn (chC id c) = chC (rn.getD id d) c := by cases c <;> rfl
theorem rowsF_ren : ∀ {l : List Opt} {j : Nat}, (rowsF g j l).map (renL d rn) = rowsF (fun q => rn.getD (g q) d) j l
  | [], _ => rfl
  | o :: l, j => by
    simp only [rowsF, List.map_cons, rowsF_ren (l := l)]
    congr 1
    simp only [oRow, renL, renC, chC_ren]
theorem chO_ren {c : List Charge} : renOpt d rn (chO c) = chO c := by cases c <;> rfl
theorem chsO_ren : (chsO l).map (renOpt d rn) = chsO l := by
  unfold chsO
  rw [List.map_map]
  exact List.map_congr_left fun o _ => chO_ren
theorem obM_ren {ty z : Nat} {rows : List (List AV)} : renOpt d rn (obM ty z rows) = obM ty z (rows.map (renL d rn)) := by cases rows <;> rfl
theorem optO_ren : renOpt d rn (optO g j l) = optO (fun q => rn.getD (g q) d) j l := by
  unfold optO
  rw [obM_ren, rowsF_ren]
theorem tailF_ren : ∀ {L : List (List Opt)} {j : Nat}, (tailF g j L).map (renOpt d rn) = tailF (fun q => rn.getD (g q) d) j L
  | [], _ => rfl
  | l :: L, j => by simp only [tailF, List.map_append, List.map_cons, chsO_ren, optO_ren, tailF_ren (L := L)]
theorem clsC_ren : renC d rn (clsC g j l) = clsC (fun q => rn.getD (g q) d) j l := by cases l <;> rfl
theorem clsF_ren : ∀ {L : List (List Opt)} {j : Nat}, (clsF g j L).map (renL d rn) = clsF (fun q => rn.getD (g q) d) j L
  | [], _ => rfl
  | l :: L, j => by simp only [clsF, List.map_cons, clsF_ren (L := L), renL, clsC_ren]
theorem slC_ren {id z : Nat} {rows : List (List AV)} : renC d rn (slC id z rows) = slC (rn.getD id d) z (rows.map (renL d rn)) := by
  cases rows with
  | nil => rfl
  | cons a l => simp [slC, renC]
theorem rowsF_congr : ∀ {l : List Opt} {j : Nat}, (∀ q, j ≤ q → q < j + l.length → g q = g' q) → rowsF g j l = rowsF g' j l
  | [], _, _ => rfl
  | o :: l, j, h => by
    simp only [rowsF]
    rw [h j (by omega) (by simp), rowsF_congr (l := l) fun q h1 h2 => h q (by omega) (by simp; omega)]
theorem clsC_congr (h : ∀ q, j ≤ q → q < j + l.length + 1 → g q = g' q) : clsC g j l = clsC g' j l := by
  cases l with
  | nil => rfl
  | cons o t => simp only [clsC]; rw [h _ (by omega) (by simp)]
theorem tailF_congr : ∀ {L : List (List Opt)} {j : Nat}, (∀ q, j ≤ q → q < j + nT L → g q = g' q) → tailF g j L = tailF g' j L
  | [], _, _ => rfl
  | l :: L, j, h => by
    simp only [tailF, optO]
    rw [rowsF_congr (l := l) fun q h1 h2 => h q h1 (by simp [nT]; omega), tailF_congr (L := L) fun q h1 h2 => h q (by omega) (by simp [nT] at *; omega)]
theorem clsF_congr : ∀ {L : List (List Opt)} {j : Nat}, (∀ q, j ≤ q → q < j + nT L → g q = g' q) → clsF g j L = clsF g' j L
  | [], _, _ => rfl
  | l :: L, j, h => by
    simp only [clsF]
    rw [clsC_congr (l := l) fun q h1 h2 => h q h1 (by simp [nT]; omega), clsF_congr (L := L) fun q h1 h2 => h q (by omega) (by simp [nT] at *; omega)]
/-! nobody names some numbers -/
theorem rowsF_far {k m : Nat} (h : ∀ q, k + m ≤ g q) : ∀ {l : List Opt} {j : Nat}, ∀ r ∈ rowsF g j l, farL k m r = true
  | [], _, r, hr => by cases hr
  | o :: l, j, r, hr => by
    rcases List.mem_cons.1 hr with rfl | hr
    · have hg := h j
      simp only [oRow, farL, far]
      cases hc : o.charges with
      | nil => rfl
      | cons c t => simp [chC, far]; right; omega
    · exact rowsF_far h (l := l) r hr
theorem farH_app {k m : Nat} : ∀ {X Y : Heap} {i : Nat}, farH k m i X → farH k m (i + X.length) Y → farH k m i (X ++ Y)
  | [], Y, i, _, h => by simpa using h
  | none :: X, Y, i, h1, h2 => farH_app (X := X) (i := i + 1) h1 (by rw [show i + 1 + X.length = i + (none :: X).length by simp; omega]; exact h2)
  | some o :: X, Y, i, h1, h2 => ⟨h1.1, h1.2.1, farH_app (X := X) (i := i + 1) h1.2.2 (by rw [show i + 1 + X.length = i + (some o :: X).length by simp; omega]; exact h2)⟩
theorem chsO_far {k m : Nat} : ∀ {l : List Opt} {i : Nat}, k + m ≤ i → farH k m i (chsO l)
  | [], _, _ => trivial
  | o :: l, i, h => by
    have ih := chsO_far (l := l) (i := i + 1) (k := k) (m := m) (by omega)
    unfold chsO at ih ⊢
    rw [List.map_cons]
    cases hc : o.charges with
    | nil => exact ih
    | cons c t => exact ⟨.inr h, trivial, ih⟩
theorem optO_far {k m i : Nat} {Y : Heap} (h : ∀ q, k + m ≤ g q) (hi : k + m ≤ i) (hy : farH k m (i + 1) Y) : farH k m i (optO g j l :: Y) := by
  cases l with
  | nil => exact hy
  | cons o t => exact ⟨.inr hi, fun r hr => rowsF_far h r hr, hy⟩
theorem tailF_far {k m : Nat} (h : ∀ q, k + m ≤ g q) : ∀ {L : List (List Opt)} {i j : Nat}, k + m ≤ i → farH k m i (tailF g j L)
  | [], _, _, _ => trivial
  | l :: L, i, j, hi => farH_app (chsO_far hi) (optO_far h (by omega) (tailF_far h (by omega)))
theorem clsF_far {k m : Nat} (h : ∀ q, k + m ≤ g q) : ∀ {L : List (List Opt)} {j : Nat}, ∀ r ∈ clsF g j L, farL k m r = true
  | [], _, r, hr => by cases hr
  | l :: L, j, r, hr => by
    rcases List.mem_cons.1 hr with rfl | hr
    · simp only [farL]
      cases l with
      | nil => rfl
      | cons c t => have := h (j + (t.length + 1)); simp [clsC, far]; right; omega
    · exact clsF_far h (L := L) r hr
/-! what lies where -/
theorem opt_at : (tailF g 0 (A ++ l :: B))[nT A + l.length]? = some (optO g (nT A) l) := by
  rw [tailF_app, List.getElem?_append_right (by rw [tailF_len]; omega), tailF_len, Nat.add_sub_cancel_left]
  simp only [tailF]
  rw [List.getElem?_append_right (by rw [chsO_len]; exact Nat.le_refl _), chsO_len, Nat.sub_self, Nat.zero_add]
  rfl
theorem rowsF_at : ∀ {l : List Opt} {j i : Nat} {o : Opt}, l[i]? = some o → (rowsF g j l)[i]? = some (oRow (chC (g (j + i)) o.charges) o.place)
  | [], _, _, _, h => by simp at h
  | x :: l, j, 0, o, h => by simp at h; subst h; rfl
  | x :: l, j, i + 1, o, h => by
    have := rowsF_at (l := l) (j := j + 1) (i := i) (o := o) (by simpa using h)
    rw [show j + 1 + i = j + (i + 1) by omega] at this
    simpa [rowsF] using this
theorem rows_set {i x : Nat} {o o' : Opt} (h : l[i]? = some o) (hp : o'.place = o.place) : rowsF (fun q => if j + i = q then x else g q) j (l.set i o') = (rowsF g j l).set i (oRow (chC x o'.charges) o.place) := by
  apply List.ext_getElem?
  intro q
  have hi := (List.getElem?_eq_some_iff.1 h).1
  rw [List.getElem?_set, rowsF_len]
  rcases Nat.lt_or_ge q l.length with hq | hq
  · obtain ⟨y, hy⟩ := getE hq
    by_cases e : i = q
    · subst e
      rw [if_pos rfl, if_pos hq, rowsF_at (o := o') (by rw [List.getElem?_set_self hq]), if_pos rfl, hp]
    · rw [if_neg e, rowsF_at hy, rowsF_at (o := y) (by rw [List.getElem?_set_ne e]; exact hy), if_neg (by omega)]
  · rw [List.getElem?_eq_none (by rw [rowsF_len, List.length_set]; exact hq)]
    rw [if_neg (by omega), List.getElem?_eq_none (by rw [rowsF_len]; exact hq)]
/-! objects kept -/
theorem nodup_of_allD {x : List Nat} (h : allD x = true) : x.Nodup := by
  rw [List.Nodup, List.pairwise_iff_getElem]
  intro i j hi hj hij e
  have := allD_spec h i j _ (List.getElem?_eq_getElem hi) (by rw [List.getElem?_eq_getElem hj, e])
  omega
theorem kept_map {ids : List Nat} {Y : Heap} (hl : ids.length = Y.length) (h : ∀ (q i : Nat), ids[q]? = some i → ∀ o : AObj, (Y.map (renOpt d rn))[q]? = some (some o) → H[i]? = some (some o)) : kept H d rn ids Y :=
  kept_all hl fun q i hq o ho => h q i hq _ (by rw [List.getElem?_map, ho]; rfl)
theorem rnF_get {F n q d : Nat} {fx : List Nat} (hF : fx.length = F) (hq : q < n) : (fx ++ List.range' F n).getD (q + F) d = q + F := by
  rw [List.getD_eq_getElem?_getD, List.getElem?_append_right (by omega), hF, Nat.add_sub_cancel, List.getElem?_range' hq, Nat.one_mul]
  show F + q = q + F
  omega
theorem rnF_allD {F n : Nat} {fx : List Nat} (h : allD fx = true) (hx : ∀ a ∈ fx, a < F) : allD (fx ++ List.range' F n) = true := by
  apply allD_of
  rw [List.nodup_append]
  refine ⟨nodup_of_allD h, List.nodup_range', fun a ha b hb e => ?_⟩
  rw [List.mem_range'_1] at hb
  have := hx a ha; omega
theorem rnS_get {F n q x t d : Nat} {fx : List Nat} (hF : fx.length = F) (ht : t < n) : (fx ++ (List.range' F n).set q x).getD (t + F) d = if q = t then x else t + F := by
  rw [List.getD_eq_getElem?_getD, List.getElem?_append_right (by omega), hF, Nat.add_sub_cancel, rset_get, if_pos ht]
  rfl
theorem rnS_allD {F n q x : Nat} {fx : List Nat} (h : fx.Nodup) (hx : ∀ a ∈ fx, (a < F ∧ a ≠ x) ∨ a = q + F) (hxF : x < F) (hq : q < n) : allD (fx ++ (List.range' F n).set q x) = true := by
  apply allD_of
  have hm : ∀ b ∈ (List.range' F n).set q x, b = x ∨ (b ≠ q + F ∧ F ≤ b) := fun b hb => by
    obtain ⟨t, ht⟩ := List.getElem?_of_mem hb
    rw [rset_get] at ht
    split at ht
    · injection ht with ht
      split at ht
      · exact .inl ht.symm
      · exact .inr (by omega)
    · cases ht
  rw [List.nodup_append]
  refine ⟨h, ?_, fun a ha b hb e => ?_⟩
  · rw [List.Nodup, List.pairwise_iff_getElem]
    intro i j hi hj hij e
    rw [List.length_set, List.length_range'] at hi hj
    have h1 := rset_get (k := F) (N := n) (b := q) (x := x) (j := i)
    have h2 := rset_get (k := F) (N := n) (b := q) (x := x) (j := j)
    rw [List.getElem?_eq_getElem (by simpa using hi), if_pos hi] at h1
    rw [List.getElem?_eq_getElem (by simpa using hj), if_pos hj] at h2
    injection h1 with h1
    injection h2 with h2
    rw [e] at h1
    rw [h1] at h2
    split at h2 <;> split at h2 <;> omega
  · have := hx a ha
    have := hm b hb
    omega
end
end Go.Proofs.YtihpjcmloecaaaaGreat.Cw
/-
  Classes as_ objects: what they read as_.
-/
namespace Go.Proofs.YtihpjcmloecaaaaGreat.Cw
open Go Go.Cw Go.Proofs
set_option linter.unusedVariables false
set_option maxRecDepth 100000
section
variable {g : Nat → Nat} {l : List Opt} {L : List (List Opt)} {j n : Nat} {H : Heap}
def HasC (H : Heap) (g : Nat → Nat) (j : Nat) (l : List Opt) : Prop := (∀ i o, l[i]? = some o → H[g (j + i)]? = some (chO o.charges)) ∧ H[g (j + l.length)]? = some (optO g j l)
def HasT (H : Heap) (g : Nat → Nat) : Nat → List (List Opt) → Prop
  | _, [] => True
  | j, l :: L => HasC H g j l ∧ HasT H g (j + l.length + 1) L
theorem HasT.of : ∀ {L : List (List Opt)} {j : Nat}, (∀ q, q < nT L → H[g (j + q)]? = (tailF g j L)[q]?) → HasT H g j L
  | [], _, _ => trivial
  | l :: L, j, h => by
    refine ⟨⟨fun i o ho => ?_, ?_⟩, HasT.of fun q hq => ?_⟩
    · have hi := (List.getElem?_eq_some_iff.1 ho).1
      rw [h i (by simp [nT]; omega)]
      simp only [tailF]
      rw [List.getElem?_append_left (by rw [chsO_len]; exact hi)]
      unfold chsO
      rw [List.getElem?_map, ho]; rfl
    · rw [h l.length (by simp [nT]; omega)]
      simp only [tailF]
      rw [List.getElem?_append_right (by rw [chsO_len]; exact Nat.le_refl _), chsO_len, Nat.sub_self]; rfl
    · have := h (l.length + 1 + q) (by simp [nT]; omega)
      rw [show j + l.length + 1 + q = j + (l.length + 1 + q) by omega, this]
      simp only [tailF]
      rw [List.getElem?_append_right (by rw [chsO_len]; omega), chsO_len, show l.length + 1 + q - l.length = q + 1 by omega]
      rfl
theorem conv_ch {id : Nat} {c : List Charge} (h : H[id]? = some (chO c)) : convC H (n + 1) (chC id c) = some (.sl 2 (c.map Charge.row)) := by
  cases c with
  | nil => rfl
  | cons x t =>
    simp only [chC, convC, h, chO]
    simp [List.take_of_length_le]
theorem ok_ch {id : Nat} {c : List Charge} (h : H[id]? = some (chO c)) : okC H (n + 1) (chC id c) := by
  cases c with
  | nil => exact True.intro
  | cons x t =>
    simp only [chC, okC, h, chO]
    simp
theorem conv_rowsF : ∀ {l : List Opt} {j : Nat}, (∀ i o, l[i]? = some o → H[g (j + i)]? = some (chO o.charges)) → mapO (mapO (convC H (n + 1))) (rowsF g j l) = some (l.map Opt.row)
  | [], _, _ => rfl
  | o :: l, j, h => by
    have ih := conv_rowsF (l := l) (j := j + 1) fun i o ho => by rw [show j + 1 + i = j + (i + 1) by omega]; exact h (i + 1) o (by simpa using ho)
    have h0 := h 0 o rfl
    rw [Nat.add_zero] at h0
    simp only [rowsF, mapO, ih, oRow, conv_ch (n := n) h0, convC, List.map_cons]
    rfl
theorem ok_rowsF : ∀ {l : List Opt} {j : Nat}, (∀ i o, l[i]? = some o → H[g (j + i)]? = some (chO o.charges)) → ∀ r ∈ rowsF g j l, andL (okC H (n + 1)) r
  | [], _, _, r, hr => by cases hr
  | o :: l, j, h, r, hr => by
    have h0 := h 0 o rfl
    rw [Nat.add_zero] at h0
    rcases List.mem_cons.1 hr with rfl | hr
    · have h1 := ok_ch (n := n) h0
      simp only [oRow, andL]
      cases hc : o.charges with
      | nil => exact ⟨True.intro, True.intro⟩
      | cons x t => rw [hc] at h1; exact ⟨h1, True.intro⟩
    · exact ok_rowsF (l := l) (j := j + 1) (fun i o ho => by rw [show j + 1 + i = j + (i + 1) by omega]; exact h (i + 1) o (by simpa using ho)) r hr
theorem conv_clsC (h : HasC H g j l) : convC H (n + 2) (clsC g j l) = some (.sl 6 (l.map Opt.row)) := by
  cases l with
  | nil => rfl
  | cons o t =>
    have h1 := conv_rowsF (n := n) h.1
    have h2 := h.2
    have hl : (rowsF g j (o :: t)).length = t.length + 1 := by rw [rowsF_len]; rfl
    unfold optO at h2
    rw [obM_pos (by rw [hl]; omega)] at h2
    simp only [List.length_cons] at h2
    simp only [clsC, convC, h2]
    rw [List.drop_zero, List.take_of_length_le (by rw [hl]; exact Nat.le_refl _), h1]
theorem ok_clsC (h : HasC H g j l) : okC H (n + 2) (clsC g j l) := by
  cases l with
  | nil => exact True.intro
  | cons o t =>
    have h1 := ok_rowsF (n := n) h.1
    have h2 := h.2
    have hl : (rowsF g j (o :: t)).length = t.length + 1 := by rw [rowsF_len]; rfl
    unfold optO at h2
    rw [obM_pos (by rw [hl]; omega)] at h2
    simp only [List.length_cons] at h2
    simp only [clsC, okC, h2]
    refine ⟨by rw [hl]; omega, fun r hr => h1 r ?_⟩
    exact List.mem_of_mem_drop (List.mem_of_mem_take hr)
theorem conv_clsF : ∀ {L : List (List Opt)} {j : Nat}, HasT H g j L → mapO (mapO (convC H (n + 2))) (clsF g j L) = some (L.map optsRow)
  | [], _, _ => rfl
  | l :: L, j, h => by
    simp only [clsF, mapO, conv_clsC (n := n) h.1, conv_clsF (L := L) h.2, List.map_cons]
    rfl
theorem ok_clsF : ∀ {L : List (List Opt)} {j : Nat}, HasT H g j L → ∀ r ∈ clsF g j L, andL (okC H (n + 2)) r
  | [], _, _, r, hr => by cases hr
  | l :: L, j, h, r, hr => by
    rcases List.mem_cons.1 hr with rfl | hr
    · have h1 := ok_clsC (n := n) h.1
      cases l with
      | nil => exact ⟨True.intro, True.intro⟩
      | cons x t => exact ⟨h1, True.intro⟩
    · exact ok_clsF (L := L) h.2 r hr
theorem conv_all {id ty : Nat} (h : HasT H g 0 L) (ho : H[id]? = some (obM ty 1 (clsF g 0 L))) : convC H (n + 3) (slC id 1 (clsF g 0 L)) = some (.sl 1 (L.map optsRow)) := by
  cases L with
  | nil => rfl
  | cons l L =>
    have h1 := conv_clsF (n := n) h
    have hl : (clsF g 0 (l :: L)).length = (l :: L).length := clsF_len
    rw [slC_pos (by rw [hl]; simp)]
    rw [obM_pos (by rw [hl]; simp)] at ho
    simp only [convC, ho]
    rw [List.drop_zero, List.take_of_length_le (Nat.le_refl _), h1]
theorem ok_all {id ty : Nat} (h : HasT H g 0 L) (ho : H[id]? = some (obM ty 1 (clsF g 0 L))) : okC H (n + 3) (slC id 1 (clsF g 0 L)) := by
  cases L with
  | nil => exact True.intro
  | cons l L =>
    have h1 := ok_clsF (n := n) h
    have hl : (clsF g 0 (l :: L)).length = (l :: L).length := clsF_len
    rw [slC_pos (by rw [hl]; simp)]
    rw [obM_pos (by rw [hl]; simp)] at ho
    simp only [okC, ho]
    refine ⟨by omega, fun r hr => h1 r ?_⟩
    exact List.mem_of_mem_drop (List.mem_of_mem_take hr)
end
end Go.Proofs.YtihpjcmloecaaaaGreat.Cw
/-
  Symmetry, plain: the groups of an index.
-/
namespace Go.Proofs.YtihpjcmloecaaaaGreat.Cw
open Go Go.Cw Go.Proofs
set_option linter.unusedVariables false
theorem pbt {c : Prop} {α : Type} {a b : α} (h : c) : (if pB c = true then a else b) = a := if_pos (pB_t h)
theorem pbf {c : Prop} {α : Type} {a b : α} (h : ¬ c) : (if pB c = true then a else b) = b := if_neg (by rw [pB_f h]; simp)
noncomputable def addE : List Ent → Placed → Nat → List Ent
  | [], p, i => [(p, [i])]
  | e :: E, p, i => if pB (e.1 = p) then (e.1, e.2 ++ [i]) :: E else e :: addE E p i
theorem addE_case {p : Placed} {i : Nat} : ∀ {E : List Ent}, ((∀ e ∈ E, e.1 ≠ p) ∧ addE E p i = E ++ [(p, [i])]) ∨ ∃ (j : Nat) (l : List Nat), E[j]? = some (p, l) ∧ (∀ k, k < j → ∀ e, E[k]? = some e → e.1 ≠ p) ∧ addE E p i = E.set j (p, l ++ [i])
  | [] => .inl ⟨fun e h => (by cases h), rfl⟩
  | e :: E => by
    by_cases h : e.1 = p
    · refine .inr ⟨0, e.2, by rw [← h]; rfl, fun k hk => by omega, ?_⟩
      simp only [addE]
      rw [pbt h, h]; rfl
    · rcases addE_case (p := p) (i := i) (E := E) with ⟨h1, h2⟩ | ⟨j, l, h1, h2, h3⟩
      · refine .inl ⟨fun x hx => ?_, ?_⟩
        · rcases List.mem_cons.1 hx with rfl | hx
          · exact h
          · exact h1 x hx
        · simp only [addE]
          rw [pbf h, h2]; rfl
      · refine .inr ⟨j + 1, l, by simpa using h1, fun k hk x hx => ?_, ?_⟩
        · cases k with
          | zero => simp at hx; subst hx; exact h
          | succ k => exact h2 k (by omega) x (by simpa using hx)
        · simp only [addE]
          rw [pbf h, h3]; rfl
noncomputable def lookE (p : Placed) : List Ent → List Nat
  | [] => []
  | e :: E => if pB (e.1 = p) then e.2 else lookE p E
theorem look_add {p q : Placed} {i : Nat} : ∀ {E : List Ent}, lookE q (addE E p i) = if pB (p = q) then lookE q E ++ [i] else lookE q E
  | [] => by
    show (if pB (p = q) = true then [i] else []) = if pB (p = q) then [] ++ [i] else []
    rfl
  | e :: E => by
    have ih := look_add (p := p) (q := q) (i := i) (E := E)
    show lookE q (if pB (e.1 = p) = true then (e.1, e.2 ++ [i]) :: E else e :: addE E p i) = if pB (p = q) = true then (if pB (e.1 = q) = true then e.2 else lookE q E) ++ [i] else (if pB (e.1 = q) = true then e.2 else lookE q E)
    by_cases h : e.1 = p
    · rw [pbt h]
      show (if pB (e.1 = q) = true then e.2 ++ [i] else lookE q E) = _
      by_cases hq : p = q
      · rw [pbt (h.trans hq), pbt hq, pbt (h.trans hq)]
      · have hn : ¬ e.1 = q := fun k => hq (h.symm.trans k)
        rw [pbf hn, pbf hq, pbf hn]
    · rw [pbf h]
      show (if pB (e.1 = q) = true then e.2 else lookE q (addE E p i)) = _
      by_cases hq : e.1 = q
      · have hpq : ¬ p = q := fun k => h (hq.trans k.symm)
        rw [pbt hq, pbf hpq, pbt hq]
      · rw [pbf hq, ih, pbf hq]
theorem look_none {p : Placed} : ∀ {E : List Ent}, (∀ e ∈ E, e.1 ≠ p) → lookE p E = []
  | [], _ => rfl
  | e :: E, h => by
    simp only [lookE]
    rw [pbf (h e (by simp)), look_none fun x hx => h x (by simp [hx])]
theorem look_some {p : Placed} {l : List Nat} : ∀ {E : List Ent} {j : Nat}, E[j]? = some (p, l) → (∀ k, k < j → ∀ e, E[k]? = some e → e.1 ≠ p) → lookE p E = l
  | [], j, h, _ => by simp at h
  | e :: E, 0, h, _ => by
    simp only [List.getElem?_cons_zero, Option.some.injEq] at h
    subst h
    show (if pB (p = p) = true then l else lookE p E) = l
    exact pbt rfl
  | e :: E, j + 1, h, hd => by
    simp only [lookE]
    rw [pbf (hd 0 (by omega) e rfl)]
    exact look_some (by simpa using h) fun k hk x hx => hd (k + 1) (by omega) x (by simpa using hx)
noncomputable def grpE (l : List Opt) : Nat → List Ent
  | 0 => []
  | n + 1 => match l[n]? with
    | some o => addE (grpE l n) o.place n
    | none => grpE l n
noncomputable def placedAt (l : List Opt) (p : Placed) (i : Nat) : Bool := match l[i]? with
  | some o => pB (o.place = p)
  | none => false
noncomputable def sameP (l : List Opt) (p : Placed) (n : Nat) : List Nat := (List.range n).filter (placedAt l p)
theorem look_grp {l : List Opt} {p : Placed} : ∀ {n : Nat}, lookE p (grpE l n) = sameP l p n
  | 0 => rfl
  | n + 1 => by
    have ih := look_grp (l := l) (p := p) (n := n)
    unfold sameP at ih ⊢
    rw [List.range_succ, List.filter_append, ← ih]
    simp only [grpE]
    cases h : l[n]? with
    | none => simp [placedAt, h]
    | some o =>
      simp only [look_add]
      by_cases hp : o.place = p
      · rw [pbt hp]
        simp [placedAt, h, pB_t hp]
      · rw [pbf hp]
        simp [placedAt, h, pB_f hp]
theorem grp_succ {l : List Opt} {n : Nat} {o : Opt} (h : l[n]? = some o) : grpE l (n + 1) = addE (grpE l n) o.place n := by simp only [grpE, h]
theorem add_len {p : Placed} {i : Nat} {E : List Ent} : (addE E p i).length ≤ E.length + 1 := by
  rcases addE_case (p := p) (i := i) (E := E) with ⟨_, h⟩ | ⟨j, l, _, _, h⟩
  · rw [h]; simp
  · rw [h]; simp
theorem grp_len {l : List Opt} : ∀ {n : Nat}, (grpE l n).length ≤ n
  | 0 => Nat.le_refl _
  | n + 1 => by
    have ih := grp_len (l := l) (n := n)
    simp only [grpE]
    split
    · have := add_len (p := ‹Opt›.place) (i := n) (E := grpE l n); omega
    · omega
theorem grp_small {l : List Opt} : ∀ {n : Nat}, ∀ e ∈ grpE l n, e.2.length ≤ n
  | 0, e, h => by cases h
  | n + 1, e, h => by
    have ih := grp_small (l := l) (n := n)
    simp only [grpE] at h
    split at h
    · rename_i o _
      rcases addE_case (p := o.place) (i := n) (E := grpE l n) with ⟨_, h2⟩ | ⟨j, l2, h1, _, h2⟩
      · rw [h2] at h
        rcases List.mem_append.1 h with h | h
        · have := ih e h; omega
        · rw [List.mem_singleton.1 h]; simp
      · rw [h2] at h
        rcases List.mem_or_eq_of_mem_set h with h | h
        · have := ih e h; omega
        · have := ih _ (List.mem_of_getElem? h1)
          rw [h]; simp at this ⊢; omega
    · have := ih e h; omega
end Go.Proofs.YtihpjcmloecaaaaGreat.Cw
/-
  Symmetry: the index of a class.
-/
namespace Go.Proofs.YtihpjcmloecaaaaGreat.Cw
open Go Go.Cw Go.Proofs
set_option linter.unusedVariables false
set_option maxRecDepth 100000
set_option maxHeartbeats 8000000
def keyA (p : Placed) : AV := .agg [.pv (ei p.time.weeks), .pv (ei p.time.day), .pv (ei p.time.start), .pv (ei p.time.len), .pv (ei p.room)]
theorem c_keyOf (p : Placed) : PCall Tryz.prog 92 [ag p.row] (fun r => r = keyA p) := by
  refine acall_of tok mixed 17 rfl (fn := Tryz.f92) (c := Tryz.f92.body.getD .skip) (by kernel_rfl) (by kernel_rfl) (by kernel_rfl) rfl 0 rfl ?_
  repeat' (first | refine o1 ?_ | refine o2 ?_ | refine k1 ?_ | refine k2 ?_ | refine k7 ?_ | refine And.intro ?_ ?_ | (change retOk _ _ _ _; refine ret_pure rfl trivial ?_) | exact (by kernel_rfl : drawOk _ _ = true) | fail)
  rfl
theorem c_indexOf (l : List Opt) (hl : l.length ≤ 1000) : ACall Tryz.prog 45 [.pv (.sl 6 (l.map Opt.row))] [] (fun r H' => r = .mp 0 ∧ H' = [mapP 85 (grpE l l.length)]) := by
  refine acall_of tok mixed 28 rfl (fn := Tryz.f45) (c := Tryz.f45.body.getD .skip) (by kernel_rfl) (by kernel_rfl) (by kernel_rfl) rfl 0 rfl ?_
  repeat' (first | refine o1 ?_ | refine o2 ?_ | refine k1 ?_ | refine k2 ?_ | refine k4 ?_ | refine eqv_len_map ?_ | fail)
  refine loop_for (fun i : Nat => [(3, .mp 0), (7, .pv (.sl 6 (l.map Opt.row))), (8, vint .i64 l.length), (9, vint .i64 i)]) (fun i => heapI 85 3 (grpE l i)) (fun i => i ≤ l.length) (fun i => l.length - i) 0 (Nat.zero_le _) ?_ ?_
  · exact back [0, 6, 7, 8, 9] rfl rfl ⟨rfl, trivial⟩ (by repeat' (first | exact trivial | exact rfl | refine And.intro ?_ ?_))
  intro i hi
  have hG : ∀ {Γ : Slots} {H : Heap}, H = heapI 85 3 (grpE l l.length) → Cw.get Γ 3 = some (.mp 0) → Ghost 28 0 Γ H [(3, .mp 0)] [mapP 85 (grpE l l.length)] := fun e h => by subst e; exact shut_index h rfl
  unfold heapI
  have hfarE := fun k m hk => ents_far (k := k) (m := m) (E := grpE l i) (b := 0) hk
  have hfarT := fun k m hk => tail_far (ty := 3) (k := k) (m := m) (E := grpE l i) (i0 := 5) hk
  generalize hT : tailO 3 (grpE l i) = T at *
  rcases Nat.lt_or_ge i l.length with hlt | hge
  · obtain ⟨o, ho⟩ := getE hlt
    have hgs := grp_succ ho
    have hgl := grp_len (l := l) (n := i)
    have hsm := grp_small (l := l) (n := i)
    rcases addE_case (p := o.place) (i := i) (E := grpE l i) with ⟨hnone, hadd⟩ | ⟨j, m, hj, hdis, hadd⟩
    · have hget := ents_none (k := 5) (b := 0) hnone
      have hput := fun v ck => put_none (k := 5) (b := 0) (v := v) (ck := ck) hnone
      have hck := fun ck => ck_none (k := 5) (b := 0) (ck := ck) hnone
      generalize grpE l i = E at *
      refine forceH_in ?_
      repeat' (first | ((show xCode _ _ _ _ (.region 4 _ _) _ _ _; refine code_region_at (k := 1) (GhostF.room (Nat.zero_le _) (Nat.le_of_ble_eq_true rfl) (fun _ _ h => h) rfl ⟨.inl (by decide), hfarE 1 1 (by decide), hfarT 1 1 (by decide)⟩) ?_)) | ((show xCode _ _ _ _ (.region 5 _ _) _ _ _; refine code_region_atD (k := 2) (GhostF.room (Nat.zero_le _) (Nat.le_of_ble_eq_true rfl) (fun _ _ h => h) rfl ⟨.inl (by decide), hfarE 2 2 (by decide), .inl (by decide), rfl, hfarT 2 2 (by decide)⟩) ?_)) | ((change forceH T _; refine forceH_in ?_)) | (refine eqv_to none hget ?_) | refine o1 ?_ | refine o2 ?_ | refine k1 ?_ | refine k2 ?_ | refine k3 ?_ | refine k4 ?_ | refine k6 ?_ | refine And.intro ?_ ?_ | refine o3 ?_ | refine o4 ?_ | (intro h; first | exact Bool.noConfusion h | exact nz _ h | exact nl h | (simp at h; done) | (simp at h; first | (exfalso; omega) | skip) | skip) | (refine (?_ : srcLen _ = rowsLen _); rfl) | exact Nat.le_of_ble_eq_true rfl | exact (by kernel_rfl : drawOk _ _ = true) | refine eqv_put (eqv_ck ?_) | refine eqv_wrap (by omega) (by omega) ?_ | refine ⟨_, _, (by first | rfl | assumption), at_map (by assumption), ?_⟩ | refine eqv_to _ (app_first rfl) (eqv_to 1 rfl ?_) | (change vcFunD _ _ _ _ _; refine callD_eq rfl (by repeat' (first | trivial | refine And.intro ?_ ?_ | (show 0 + _ ≤ List.length _; simp))) ALeL.refl (c_keyOf o.place) rfl ?_) | fail)
      refine ⟨i + 1, hlt, by omega, ?_⟩
      rw [hgs, hadd]
      refine back (rnK (E.length + 1) E.length 3) (rnK_allD (by decide) (by decide)) rfl ⟨?_, ?_⟩ (by repeat' (first | exact trivial | exact rfl | refine And.intro ?_ ?_))
      · show some (some (⟨_, _, _, .mp _ _ (putM (keyV o.place) _ _ _) (ckM (keyV o.place) _ _)⟩ : AObj)) = some (some ⟨_, _, _, .mp _ _ ((ents 5 0 (E ++ [(o.place, [i])])).map (renE _ _)) _⟩)
        rw [hput, hck, ren_none, List.length_append]
        rfl
      · have hset : E ++ [(o.place, [i])] = (E ++ [(o.place, [])]).set E.length (o.place, [i]) := by simp
        rw [hset]
        refine kept_tail (by simp) (by omega) (fun q hq hne e he => ?_) rfl
        rw [List.getElem?_append_left (by omega)] at he
        show T[q]? = _
        rw [← hT]; exact tail_get he
    · have hget := ents_some (k := 5) (b := 0) hj hdis
      have hput := fun v ck => put_some (k := 5) (b := 0) (v := v) (ck := ck) hj hdis
      have hck := fun ck => ck_some (k := 5) (b := 0) (ck := ck) hj hdis
      have hTj : T[j]? = some (some ⟨3, 1, false, .p (m.map natRow)⟩) := by rw [← hT]; exact tail_get hj
      have hm : m.length ≤ i := hsm _ (List.mem_of_getElem? hj)
      generalize grpE l i = E at *
      rw [Nat.zero_add] at hget
      refine forceH_in ?_
      repeat' (first | ((show xCode _ _ _ _ (.region 4 _ _) _ _ _; refine code_region_at (k := 1) (GhostF.room (Nat.zero_le _) (Nat.le_of_ble_eq_true rfl) (fun _ _ h => h) rfl ⟨.inl (by decide), hfarE 1 1 (by decide), hfarT 1 1 (by decide)⟩) ?_)) | ((show xCode _ _ _ _ (.region 5 _ _) _ _ _; refine code_region_atD (k := 2) (GhostF.room (Nat.zero_le _) (Nat.le_of_ble_eq_true rfl) (fun _ _ h => h) rfl ⟨.inl (by decide), hfarE 2 2 (by decide), .inl (by decide), rfl, hfarT 2 2 (by decide)⟩) ?_)) | ((change forceH T _; refine forceH_in ?_)) | (refine eqv_to (some (.ms (j + 5) 1 0 m.length)) hget ?_) | (refine eqv_to (Rows.p ((m ++ [i]).map natRow)) (by simp [natRow, ei]) (eqv_to (m ++ [i]).length (by simp [rowsLen]) ?_)) | ((change forceH (List.set T _ none) _; refine forceH_in ?_)) | refine o1 ?_ | refine o2 ?_ | refine k1 ?_ | refine k2 ?_ | refine k3 ?_ | refine k4 ?_ | refine k6 ?_ | refine And.intro ?_ ?_ | refine o3 ?_ | refine o4 ?_ | (intro h; first | exact Bool.noConfusion h | exact nz _ h | exact nl h | (simp at h; done) | (simp at h; first | (exfalso; omega) | skip) | skip) | (refine (?_ : srcLen _ = rowsLen _); rfl) | exact (by kernel_rfl : drawOk _ _ = true) | refine eqv_put (eqv_ck ?_) | refine eqv_wrap (by omega) (by omega) ?_ | refine ⟨_, _, (by first | rfl | assumption), at_map (by assumption), ?_⟩ | (refine (?_ : _ ≤ 140737488355328); simp [rowsLen] <;> omega) | (refine (?_ : _ ≤ 9223372036854775807); simp [rowsLen] <;> omega) | (refine (?_ : _ = rowsLen _); simp [rowsLen] <;> omega) | (change vcFunD _ _ _ _ _; refine callD_eq rfl (by repeat' (first | trivial | refine And.intro ?_ ?_ | (show 0 + _ ≤ List.length _; simp))) ALeL.refl (c_keyOf o.place) rfl ?_) | (((conv => whnf); simp only [List.getElem?_cons_succ, hTj])) | fail)
      have hjl : j < E.length := (List.getElem?_eq_some_iff.1 hj).1
      refine ⟨i + 1, hlt, by omega, ?_⟩
      rw [hgs, hadd]
      refine back (rnK E.length j 3) (rnK_allD (by decide) (by decide)) rfl ⟨?_, ?_⟩ (by repeat' (first | exact trivial | exact rfl | refine And.intro ?_ ?_))
      · show some (some (⟨_, _, _, .mp _ _ (putM (keyV o.place) _ _ _) (ckM (keyV o.place) _ _)⟩ : AObj)) = some (some ⟨_, _, _, .mp _ _ ((ents 5 0 (E.set j (o.place, m ++ [i]))).map (renE _ _)) _⟩)
        rw [hput, hck, ren_some hjl, List.length_set, Nat.zero_add]
      · refine kept_tail (by simp) hjl (fun q hq hne e he => ?_) rfl
        show (T.set j none)[q]? = _
        rw [List.getElem?_set_ne (fun k => hne k.symm), ← hT]; exact tail_get he
  · obtain rfl : i = l.length := by omega
    refine forceH_in ?_
    repeat' (first | ((show xCode _ _ _ _ (.region 7 _ _) _ _ _; refine ghost_region (hG (by rw [← hT]; rfl) rfl) ?_)) | refine o1 ?_ | refine o2 ?_ | refine k1 ?_ | refine k2 ?_ | refine k3 ?_ | refine k7 ?_ | refine k8 ?_ | refine And.intro ?_ ?_ | (intro h; first | exact Bool.noConfusion h | exact nz _ h | exact nl h | (simp at h; done) | (simp at h; first | (exfalso; omega) | skip) | skip) | fail)
    exact ret_obj [0] [mapP 85 (grpE l l.length)] rfl rfl ⟨(by show some (some _) = some (some (renO _ _ _)); rw [ren_mp entsP_pure]), trivial⟩ (r' := .mp 0) rfl ⟨rfl, rfl⟩
end Go.Proofs.YtihpjcmloecaaaaGreat.Cw
/-
  Symmetry, plain: the option that stands for another one.
-/
namespace Go.Proofs.YtihpjcmloecaaaaGreat.Cw
open Go Go.Cw Go.Proofs
set_option linter.unusedVariables false
theorem placed_t {l : List Opt} {i : Nat} {o : Opt} {p : Placed} (h : l[i]? = some o) (hp : o.place = p) : placedAt l p i = true := by unfold placedAt; rw [h]; exact pB_t hp
theorem placed_f {l : List Opt} {i : Nat} {o : Opt} {p : Placed} (h : l[i]? = some o) (hp : ¬ o.place = p) : placedAt l p i = false := by unfold placedAt; rw [h]; exact pB_f hp
theorem placed_iff {l : List Opt} {i : Nat} {p : Placed} : placedAt l p i = true ↔ ∃ o, l[i]? = some o ∧ o.place = p := by
  unfold placedAt
  cases h : l[i]? with
  | none => simp
  | some o =>
    simp only [Option.some.injEq, exists_eq_left']
    by_cases hp : o.place = p
    · simp [pB_t hp, hp]
    · simp [pB_f hp, hp]
theorem sameP_mem {l : List Opt} {p : Placed} {n i : Nat} : i ∈ sameP l p n ↔ i < n ∧ placedAt l p i = true := by
  unfold sameP; rw [List.mem_filter, List.mem_range]
theorem sameP_succ_t {l : List Opt} {p : Placed} {n : Nat} (h : placedAt l p n = true) : sameP l p (n + 1) = sameP l p n ++ [n] := by
  unfold sameP; rw [List.range_succ, List.filter_append]; simp [h]
theorem sameP_succ_f {l : List Opt} {p : Placed} {n : Nat} (h : placedAt l p n = false) : sameP l p (n + 1) = sameP l p n := by
  unfold sameP; rw [List.range_succ, List.filter_append]; simp [h]
theorem sameP_len {l : List Opt} {p : Placed} : ∀ {n : Nat}, (sameP l p n).length ≤ n
  | 0 => Nat.le_refl _
  | n + 1 => by
    have ih := sameP_len (l := l) (p := p) (n := n)
    cases h : placedAt l p n with
    | true => rw [sameP_succ_t h]; simp; exact ih
    | false => rw [sameP_succ_f h]; omega
theorem sameP_split {l : List Opt} {p : Placed} {i : Nat} (h : placedAt l p i = true) : ∀ {n : Nat}, i < n → ∃ r, sameP l p n = sameP l p i ++ i :: r
  | n + 1, hn => by
    rcases Nat.eq_or_lt_of_le (Nat.le_of_lt_succ hn) with e | e
    · subst e; exact ⟨[], sameP_succ_t h⟩
    · obtain ⟨r, hr⟩ := sameP_split h e
      cases hk : placedAt l p n with
      | true => exact ⟨r ++ [n], by rw [sameP_succ_t hk, hr]; simp⟩
      | false => exact ⟨r, by rw [sameP_succ_f hk, hr]⟩
  | 0, hn => by omega
theorem sameP_at {l : List Opt} {p : Placed} {i n : Nat} (h : placedAt l p i = true) (hn : i < n) : (sameP l p n)[(sameP l p i).length]? = some i := by
  obtain ⟨r, hr⟩ := sameP_split h hn
  rw [hr, List.getElem?_append_right (Nat.le_refl _)]; simp
def withRoom (p : Placed) (r : Int) : Placed := ⟨p.time, r⟩
noncomputable def imgO (l : List Opt) (i : Nat) (r : Int) : Option Nat := match l[i]? with
  | some o => (sameP l (withRoom o.place r) l.length)[(sameP l o.place i).length]?
  | none => none
theorem img_lt {l : List Opt} {i j : Nat} {r : Int} (h : imgO l i r = some j) : j < l.length := by
  unfold imgO at h
  split at h
  · exact (sameP_mem.1 (List.mem_of_getElem? h)).1
  · cases h
theorem img_self {l : List Opt} {i : Nat} {o : Opt} (h : l[i]? = some o) : imgO l i o.place.room = some i := by
  unfold imgO
  rw [h]
  exact sameP_at (placed_t h rfl) (List.getElem?_eq_some_iff.1 h).1
def exch (r a b : Int) : Int := if r = a then b else if r = b then a else r
noncomputable def swapO (l : List Opt) (a b : Int) (i : Nat) : Option Nat := match l[i]? with
  | some o => imgO l i (exch o.place.room a b)
  | none => none
def okO (l : List Opt) (a b : Int) (i : Nat) : Prop := ∃ (j : Nat) (o q : Opt), swapO l a b i = some j ∧ l[i]? = some o ∧ l[j]? = some q ∧ o.charges = q.charges
noncomputable def imgsL (l : List Opt) (a b : Int) (n : Nat) : List Nat := (List.range n).filterMap (swapO l a b)
def imgsP (l : List Opt) (a b : Int) : Prop := ∀ i, i < l.length → okO l a b i
noncomputable def imgsV (l : List Opt) (a b : Int) : List Nat := if pB (imgsP l a b) then imgsL l a b l.length else []
theorem imgs_succ {l : List Opt} {a b : Int} {n j : Nat} (h : swapO l a b n = some j) : imgsL l a b (n + 1) = imgsL l a b n ++ [j] := by
  unfold imgsL; rw [List.range_succ, List.filterMap_append]; simp [h]
theorem getP_none {p : Placed} : ∀ {E : List Ent} {b : Nat}, (∀ e ∈ E, e.1 ≠ p) → getM (keyV p) (entsP b E) = none
  | [], b, _ => rfl
  | e :: E, b, h => by
    simp only [entsP, getM]
    rw [keyV_f fun q => h e (by simp) q.symm]
    exact getP_none fun e he => h e (by simp [he])
theorem getP_some {p : Placed} {l : List Nat} : ∀ {E : List Ent} {b j : Nat}, E[j]? = some (p, l) → (∀ i, i < j → ∀ e, E[i]? = some e → e.1 ≠ p) → getM (keyV p) (entsP b E) = some (.pv (.sl 1 (l.map natRow)))
  | [], b, j, h, _ => by simp at h
  | e :: E, b, 0, h, _ => by
    simp only [List.getElem?_cons_zero, Option.some.injEq] at h
    subst h
    simp only [entsP, getM]
    rw [keyV_eq.2 rfl]; rfl
  | e :: E, b, j + 1, h, hd => by
    simp only [entsP, getM]
    rw [keyV_f fun q => hd 0 (by omega) e rfl q.symm]
    exact getP_some (E := E) (b := b + 1) (j := j) (by simpa using h) fun i hi e he => hd (i + 1) (by omega) e (by simpa using he)
theorem get_case {p : Placed} {E : List Ent} : (getM (keyV p) (entsP 0 E) = none ∧ lookE p E = []) ∨ getM (keyV p) (entsP 0 E) = some (.pv (.sl 1 ((lookE p E).map natRow))) := by
  rcases addE_case (p := p) (i := 0) (E := E) with ⟨h, _⟩ | ⟨j, l, h1, h2, _⟩
  · exact .inl ⟨getP_none h, look_none h⟩
  · exact .inr (by rw [getP_some h1 h2, look_some h1 h2])
end Go.Proofs.YtihpjcmloecaaaaGreat.Cw
/-
  Symmetry: the image of an option.
-/
namespace Go.Proofs.YtihpjcmloecaaaaGreat.Cw
open Go Go.Cw Go.Proofs
set_option linter.unusedVariables false
set_option maxRecDepth 100000
set_option maxHeartbeats 8000000
theorem nat_ints {l : List Nat} : (l.map fun n => ((n : Nat) : Int)).map (fun n => [ei n]) = l.map natRow := by rw [List.map_map]; rfl
theorem c_idxNat (l : List Nat) (n : Nat) (hl : l.length ≤ 100000) : PCall Tryz.prog 93 [.pv (.sl 1 (l.map natRow)), vint .i64 n] (fun r => r = vint .i64 (idxN (l.map fun n => ((n : Nat) : Int)) n)) := by
  have := c_indexN (l.map fun n => ((n : Nat) : Int)) n (by rw [List.length_map]; exact hl)
  unfold encInts at this
  rw [nat_ints] at this
  exact this
theorem idx_at {l : List Opt} {p : Placed} {i n : Nat} (h : placedAt l p i = true) (hn : i < n) : idxN ((sameP l p n).map fun n => ((n : Nat) : Int)) i = ((sameP l p i).length : Int) := by
  unfold idxN
  refine idxB_at (i := (sameP l p i).length) (x := ((i : Nat) : Int)) (fun j hj q hq => ?_) ?_ (pB_t rfl)
  · obtain ⟨r, hr⟩ := sameP_split h hn
    rw [hr, List.getElem?_map, List.getElem?_append_left hj] at hq
    obtain ⟨m, hm, rfl⟩ := Option.map_eq_some_iff.1 hq
    have := (sameP_mem.1 (List.mem_of_getElem? hm)).1
    exact pB_f (by omega)
  · rw [List.getElem?_map, sameP_at h hn]; rfl
def imgA : Option Nat → AV
  | some j => .tup [vint .i64 j, vbool true]
  | none => .tup [vint .i64 (0 : Nat), vbool false]
theorem c_image (l : List Opt) (i : Nat) (r : Int) (hl : l.length ≤ 1000) (hi : i < l.length) : ACall Tryz.prog 46 [.mp 0, .pv (.sl 6 (l.map Opt.row)), vint .i64 i, vint .i64 r] [mapP 85 (grpE l l.length)] (fun a H' => a = imgA (imgO l i r) ∧ H' = [mapP 85 (grpE l l.length)]) := by
  obtain ⟨o, ho⟩ := getE hi
  have hlk := fun p => look_grp (l := l) (p := p) (n := l.length)
  have hp := placed_t ho rfl
  have hidx := idx_at hp hi
  have hlen := fun p => sameP_len (l := l) (p := p) (n := l.length)
  have hci := c_idxNat (sameP l o.place l.length) i (by have := hlen o.place; omega)
  rw [hidx] at hci
  have him : imgO l i r = (sameP l (withRoom o.place r) l.length)[(sameP l o.place i).length]? := by unfold imgO; rw [ho]
  rw [him]
  have hne : sameP l o.place l.length ≠ [] := fun e => by have := sameP_at hp hi; rw [e] at this; simp at this
  have hg1 : getM (keyV o.place) (entsP 0 (grpE l l.length)) = some (.pv (.sl 1 ((sameP l o.place l.length).map natRow))) := by
    rcases get_case (p := o.place) (E := grpE l l.length) with ⟨_, h⟩ | h
    · rw [hlk] at h; exact absurd h hne
    · rw [hlk] at h; exact h
  have hl2 := sameP_len (l := l) (p := o.place) (n := i)
  have hlw := hlen (withRoom o.place r)
  rcases get_case (p := withRoom o.place r) (E := grpE l l.length) with ⟨hg2, hz⟩ | hg2
  · rw [hlk] at hz
    rw [hz]
    generalize sameP l o.place l.length = L at *
    generalize (sameP l o.place i).length = k at *
    generalize grpE l l.length = E at *
    refine acall_of tok mixed 37 rfl (fn := Tryz.f46) (c := Tryz.f46.body.getD .skip) (by kernel_rfl) (by kernel_rfl) (by kernel_rfl) rfl 1 rfl ?_
    repeat' (first | (refine eqv_to (some (.pv (.sl 1 (L.map natRow)))) hg1 ?_) | (refine eqv_to none hg2 ?_) | (refine ⟨4, rfl, Nat.le_of_ble_eq_true rfl, ?_⟩) | refine o1 ?_ | refine o2 ?_ | refine k1 ?_ | refine k2 ?_ | refine k3 ?_ | refine k7 ?_ | refine And.intro ?_ ?_ | (intro h; first | exact Bool.noConfusion h | exact nz _ h | exact nl h | (simp at h; done) | (simp at h; first | (exfalso; omega) | skip) | skip) | exact (by kernel_rfl : drawOk _ _ = true) | refine ⟨_, _, (by first | rfl | assumption), at_map (by assumption), ?_⟩ | (change vcFun _ _ _ _ _; refine call_eq rfl (by repeat' (first | trivial | refine And.intro ?_ ?_ | (show 0 + _ ≤ List.length _; simp))) ALeL.refl (c_keyOf o.place) rfl ?_) | (change vcFun _ _ _ _ _; refine call_eq rfl (by repeat' (first | trivial | refine And.intro ?_ ?_ | (show 0 + _ ≤ List.length _; simp))) ALeL.refl (hci) rfl ?_) | fail)
    exact ret_obj [0] [mapP 85 E] rfl rfl ⟨(by show some (some _) = some (some (renO _ _ _)); rw [ren_mp entsP_pure]), trivial⟩ (r' := imgA none) rfl ⟨rfl, rfl⟩
  · rw [hlk] at hg2
    generalize sameP l (withRoom o.place r) l.length = M at *
    generalize sameP l o.place l.length = L at *
    generalize (sameP l o.place i).length = k at *
    generalize grpE l l.length = E at *
    rcases hMk : M[k]? with _ | j
    · have hle := List.getElem?_eq_none_iff.1 hMk
      refine acall_of tok mixed 37 rfl (fn := Tryz.f46) (c := Tryz.f46.body.getD .skip) (by kernel_rfl) (by kernel_rfl) (by kernel_rfl) rfl 1 rfl ?_
      repeat' (first | (refine eqv_to (some (.pv (.sl 1 (L.map natRow)))) hg1 ?_) | (refine eqv_to (some (.pv (.sl 1 (M.map natRow)))) hg2 ?_) | (refine ⟨4, rfl, Nat.le_of_ble_eq_true rfl, ?_⟩) | refine o1 ?_ | refine o2 ?_ | refine k1 ?_ | refine k2 ?_ | refine k3 ?_ | refine k7 ?_ | refine And.intro ?_ ?_ | (intro h; first | exact Bool.noConfusion h | exact nz _ h | exact nl h | (simp at h; done) | (simp at h; first | (exfalso; omega) | skip) | skip) | exact (by kernel_rfl : drawOk _ _ = true) | refine eqv_len_map ?_ | refine ⟨_, _, (by first | rfl | assumption), at_map (by assumption), ?_⟩ | (change vcFun _ _ _ _ _; refine call_eq rfl (by repeat' (first | trivial | refine And.intro ?_ ?_ | (show 0 + _ ≤ List.length _; simp))) ALeL.refl (c_keyOf o.place) rfl ?_) | (change vcFun _ _ _ _ _; refine call_eq rfl (by repeat' (first | trivial | refine And.intro ?_ ?_ | (show 0 + _ ≤ List.length _; simp))) ALeL.refl (hci) rfl ?_) | fail)
      all_goals first
        | (exfalso; omega)
        | exact ret_obj [0] [mapP 85 E] rfl rfl ⟨(by show some (some _) = some (some (renO _ _ _)); rw [ren_mp entsP_pure]), trivial⟩ (r' := imgA none) rfl ⟨rfl, rfl⟩
    · have hlt := (List.getElem?_eq_some_iff.1 hMk).1
      refine acall_of tok mixed 37 rfl (fn := Tryz.f46) (c := Tryz.f46.body.getD .skip) (by kernel_rfl) (by kernel_rfl) (by kernel_rfl) rfl 1 rfl ?_
      repeat' (first | (refine eqv_to (some (.pv (.sl 1 (L.map natRow)))) hg1 ?_) | (refine eqv_to (some (.pv (.sl 1 (M.map natRow)))) hg2 ?_) | (refine ⟨4, rfl, Nat.le_of_ble_eq_true rfl, ?_⟩) | refine o1 ?_ | refine o2 ?_ | refine k1 ?_ | refine k2 ?_ | refine k3 ?_ | refine k6 ?_ | refine k7 ?_ | refine And.intro ?_ ?_ | (intro h; first | exact Bool.noConfusion h | exact nz _ h | exact nl h | (simp at h; done) | (simp at h; first | (exfalso; omega) | skip) | skip) | exact (by kernel_rfl : drawOk _ _ = true) | refine eqv_len_map ?_ | refine ⟨_, _, (by first | rfl | assumption), at_map (by assumption), ?_⟩ | (change vcFun _ _ _ _ _; refine call_eq rfl (by repeat' (first | trivial | refine And.intro ?_ ?_ | (show 0 + _ ≤ List.length _; simp))) ALeL.refl (c_keyOf o.place) rfl ?_) | (change vcFun _ _ _ _ _; refine call_eq rfl (by repeat' (first | trivial | refine And.intro ?_ ?_ | (show 0 + _ ≤ List.length _; simp))) ALeL.refl (hci) rfl ?_) | fail)
      all_goals first
        | (exfalso; omega)
        | exact ret_obj [0] [mapP 85 E] rfl rfl ⟨(by show some (some _) = some (some (renO _ _ _)); rw [ren_mp entsP_pure]), trivial⟩ (r' := imgA (some j)) rfl ⟨rfl, rfl⟩
end Go.Proofs.YtihpjcmloecaaaaGreat.Cw
