/-
  Part 5 of the proof (Tab, Ty, B0, B1, B2, B3, BC, BP, BQ, Y0, P1, P2, Y0b, Y1, P3, P4, P5, LK): what later parts use. No conditions.
-/
import Derived.Test.YtbcacaodfpgflaaGreatDoorProg
import Derived.KernelRfl
import Derived.Lib.TrailingZeros
import Derived.Laws.Bits64b
import Derived.Laws.BitsLemmas
import Derived.Test.YtbcacaodfpgflaaGreatDoorYG4

/-
  The types and functions of the program. Written by a tool; no conditions.
-/
namespace Go.Proofs.YtbcacaodfpgflaaGreatDoor.Cw
open Go.Cw Go.Proofs

noncomputable def T : Tab := ⟨.node 75 (.mk 7 72 true (.struct [(0, 51), (6, 3)]) [.val (.string (⟨#[]⟩)), .val (.int .i64 0), .val (.int .i64 0), .val (.int .i64 0), .val (.int .i64 0), .val (.string (⟨#[]⟩)), .val (.int .i64 0)]) (.node 38 (.mk 1 24 false (.slice 23) [.val (.slice none 0 0)]) (.node 18 (.mk 1 8 true (.struct [(0, 17)]) [.val (.pointer none)]) (.node 9 (.mk 1 16 false .str [.val (.string (⟨#[]⟩))]) (.node 5 (.mk 1 1 false (.int .u8) [.val (.int .u8 0)]) (.node 3 (.mk 1 8 false (.int .i64) [.val (.int .i64 0)]) (.node 2 (.mk 1 8 false (.int .i64) [.val (.int .i64 0)]) (.node 1 (.mk 1 8 false .func [.val .nilFunc]) .nil .nil) .nil)
 (.node 4 (.mk 1 1 false .bool [.val (.bool false)]) .nil .nil))
 (.node 7 (.mk 4 24 true (.struct [(0, 2), (1, 3), (2, 4), (3, 6)]) [.val (.int .i64 0), .val (.int .i64 0), .val (.bool false), .val (.int .u8 0)]) (.node 6 (.mk 1 1 false (.int .u8) [.val (.int .u8 0)]) .nil .nil)
 (.node 8 (.mk 4 24 true (.struct [(0, 2), (1, 3), (2, 4), (3, 6)]) [.val (.int .i64 0), .val (.int .i64 0), .val (.bool false), .val (.int .u8 0)]) .nil .nil)))
 (.node 14 (.mk 2 24 true (.struct [(0, 9), (1, 12)]) [.val (.string (⟨#[]⟩)), .val (.int .u64 0)]) (.node 12 (.mk 1 8 false (.int .u64) [.val (.int .u64 0)]) (.node 11 (.mk 1 16 false .str [.val (.string (⟨#[]⟩))]) (.node 10 (.mk 1 16 false .str [.val (.string (⟨#[]⟩))]) .nil .nil) .nil)
 (.node 13 (.mk 2 24 true (.struct [(0, 9), (1, 12)]) [.val (.string (⟨#[]⟩)), .val (.int .u64 0)]) .nil .nil))
 (.node 16 (.mk 1 8 false (.ptr 137) [.val (.pointer none)]) (.node 15 (.mk 1 8 false (.ptr 134) [.val (.pointer none)]) .nil .nil)
 (.node 17 (.mk 1 8 false (.ptr 146) [.val (.pointer none)]) .nil .nil))))
 (.node 27 (.mk 3 72 true (.array 3 22) [.val (.slice none 0 0), .val (.slice none 0 0), .val (.slice none 0 0)]) (.node 23 (.mk 1 24 false (.slice 54) [.val (.slice none 0 0)]) (.node 21 (.mk 1 4 false (.int .i32) [.val (.int .i32 0)]) (.node 20 (.mk 1 16 false .other [.val .nilIface]) (.node 19 (.mk 1 8 true (.struct [(0, 17)]) [.val (.pointer none)]) .nil .nil) .nil)
 (.node 22 (.mk 1 24 false (.slice 51) [.val (.slice none 0 0)]) .nil .nil))
 (.node 25 (.mk 1 8 false .func [.val .nilFunc]) (.node 24 (.mk 1 24 false (.slice 3) [.val (.slice none 0 0)]) .nil .nil)
 (.node 26 (.mk 1 8 false .func [.val .nilFunc]) .nil .nil)))
 (.node 33 (.mk 1 24 false (.slice 32) [.val (.slice none 0 0)]) (.node 31 (.mk 1 8 false .func [.val .nilFunc]) (.node 30 (.mk 1 8 false (.ptr 63) [.val (.pointer none)]) (.node 29 (.mk 1 8 false .func [.val .nilFunc]) .nil .nil) .nil)
 (.node 32 (.mk 2 48 true (.array 2 22) [.val (.slice none 0 0), .val (.slice none 0 0)]) .nil .nil))
 (.node 36 (.mk 1 8 false .func [.val .nilFunc]) (.node 34 (.mk 1 8 false (.int .i64) [.val (.int .i64 0)]) .nil .nil)
 (.node 37 (.mk 1 8 false .func [.val .nilFunc]) .nil .nil)))))
 (.node 57 (.mk 1 8 false .func [.val .nilFunc]) (.node 48 (.mk 4 32 true (.struct [(0, 3), (1, 3), (2, 3), (3, 3)]) [.val (.int .i64 0), .val (.int .i64 0), .val (.int .i64 0), .val (.int .i64 0)]) (.node 44 (.mk 1 24 false (.slice 43) [.val (.slice none 0 0)]) (.node 42 (.mk 1 8 false .func [.val .nilFunc]) (.node 41 (.mk 1 8 false .func [.val .nilFunc]) (.node 40 (.mk 1 8 false .func [.val .nilFunc]) .nil .nil) .nil)
 (.node 43 (.mk 2 48 true (.array 2 23) [.val (.slice none 0 0), .val (.slice none 0 0)]) .nil .nil))
 (.node 46 (.mk 1 8 false .func [.val .nilFunc]) (.node 45 (.mk 1 8 false .func [.val .nilFunc]) .nil .nil)
 (.node 47 (.mk 1 8 false .func [.val .nilFunc]) .nil .nil)))
 (.node 53 (.mk 3 64 true (.struct [(0, 9), (1, 22), (2, 22)]) [.val (.string (⟨#[]⟩)), .val (.slice none 0 0), .val (.slice none 0 0)]) (.node 51 (.mk 6 64 true (.struct [(0, 9), (1, 49), (5, 9)]) [.val (.string (⟨#[]⟩)), .val (.int .i64 0), .val (.int .i64 0), .val (.int .i64 0), .val (.int .i64 0), .val (.string (⟨#[]⟩))]) (.node 50 (.mk 6 64 true (.struct [(0, 9), (1, 49), (5, 9)]) [.val (.string (⟨#[]⟩)), .val (.int .i64 0), .val (.int .i64 0), .val (.int .i64 0), .val (.int .i64 0), .val (.string (⟨#[]⟩))]) (.node 49 (.mk 4 32 true (.struct [(0, 3), (1, 3), (2, 3), (3, 3)]) [.val (.int .i64 0), .val (.int .i64 0), .val (.int .i64 0), .val (.int .i64 0)]) .nil .nil) .nil)
 (.node 52 (.mk 1 8 false .func [.val .nilFunc]) .nil .nil))
 (.node 55 (.mk 1 8 false .func [.val .nilFunc]) (.node 54 (.mk 3 64 true (.struct [(0, 9), (1, 22), (2, 22)]) [.val (.string (⟨#[]⟩)), .val (.slice none 0 0), .val (.slice none 0 0)]) .nil .nil)
 (.node 56 (.mk 1 8 false .func [.val .nilFunc]) .nil .nil))))
 (.node 66 (.mk 1 8 false .func [.val .nilFunc]) (.node 62 (.mk 2 32 true (.struct [(0, 24), (1, 3)]) [.val (.slice none 0 0), .val (.int .i64 0)]) (.node 60 (.mk 1 8 false .func [.val .nilFunc]) (.node 59 (.mk 1 8 false .func [.val .nilFunc]) (.node 58 (.mk 1 8 false .func [.val .nilFunc]) .nil .nil) .nil)
 (.node 61 (.mk 1 8 false .func [.val .nilFunc]) .nil .nil))
 (.node 64 (.mk 1 24 false (.slice 9) [.val (.slice none 0 0)]) (.node 63 (.mk 2 32 true (.struct [(0, 24), (1, 3)]) [.val (.slice none 0 0), .val (.int .i64 0)]) .nil .nil)
 (.node 65 (.mk 1 8 false .func [.val .nilFunc]) .nil .nil)))
 (.node 71 (.mk 1 8 false .func [.val .nilFunc]) (.node 68 (.mk 1 8 false .func [.val .nilFunc]) (.node 67 (.mk 1 8 false .func [.val .nilFunc]) .nil .nil)
 (.node 70 (.mk 1 8 false .func [.val .nilFunc]) .nil .nil))
 (.node 73 (.mk 1 8 false .func [.val .nilFunc]) (.node 72 (.mk 1 8 false .func [.val .nilFunc]) .nil .nil)
 (.node 74 (.mk 7 72 true (.struct [(0, 51), (6, 3)]) [.val (.string (⟨#[]⟩)), .val (.int .i64 0), .val (.int .i64 0), .val (.int .i64 0), .val (.int .i64 0), .val (.string (⟨#[]⟩)), .val (.int .i64 0)]) .nil .nil))))))
 (.node 112 (.mk 1 8 false .func [.val .nilFunc]) (.node 93 (.mk 1 8 false .func [.val .nilFunc]) (.node 84 (.mk 1 8 false .func [.val .nilFunc]) (.node 80 (.mk 1 24 false (.slice 5) [.val (.slice none 0 0)]) (.node 78 (.mk 1 8 false .func [.val .nilFunc]) (.node 77 (.mk 1 8 false .func [.val .nilFunc]) (.node 76 (.mk 1 8 false .func [.val .nilFunc]) .nil .nil) .nil)
 (.node 79 (.mk 1 8 false (.int .u64) [.val (.int .u64 0)]) .nil .nil))
 (.node 82 (.mk 1 24 false (.slice 22) [.val (.slice none 0 0)]) (.node 81 (.mk 1 8 false .func [.val .nilFunc]) .nil .nil)
 (.node 83 (.mk 1 8 false .func [.val .nilFunc]) .nil .nil)))
 (.node 89 (.mk 1 8 false .func [.val .nilFunc]) (.node 87 (.mk 1 8 false .func [.val .nilFunc]) (.node 86 (.mk 1 8 false .func [.val .nilFunc]) (.node 85 (.mk 1 8 false .func [.val .nilFunc]) .nil .nil) .nil)
 (.node 88 (.mk 1 8 false .func [.val .nilFunc]) .nil .nil))
 (.node 91 (.mk 1 8 false .func [.val .nilFunc]) (.node 90 (.mk 1 8 false .func [.val .nilFunc]) .nil .nil)
 (.node 92 (.mk 1 8 false .func [.val .nilFunc]) .nil .nil))))
 (.node 102 (.mk 1 8 false .func [.val .nilFunc]) (.node 98 (.mk 1 8 false .func [.val .nilFunc]) (.node 96 (.mk 1 8 false .func [.val .nilFunc]) (.node 95 (.mk 1 8 false .func [.val .nilFunc]) (.node 94 (.mk 1 8 false .func [.val .nilFunc]) .nil .nil) .nil)
 (.node 97 (.mk 1 8 false .func [.val .nilFunc]) .nil .nil))
 (.node 100 (.mk 1 8 false .func [.val .nilFunc]) (.node 99 (.mk 1 4 false (.int .u32) [.val (.int .u32 0)]) .nil .nil)
 (.node 101 (.mk 1 8 false (.int .u64) [.val (.int .u64 0)]) .nil .nil)))
 (.node 107 (.mk 1 8 false .func [.val .nilFunc]) (.node 105 (.mk 1 8 false .func [.val .nilFunc]) (.node 103 (.mk 1 8 false (.int .i64) [.val (.int .i64 0)]) .nil .nil)
 (.node 106 (.mk 1 8 false .func [.val .nilFunc]) .nil .nil))
 (.node 110 (.mk 1 8 false .func [.val .nilFunc]) (.node 108 (.mk 1 8 false .func [.val .nilFunc]) .nil .nil)
 (.node 111 (.mk 1 8 false .func [.val .nilFunc]) .nil .nil)))))
 (.node 131 (.mk 1 8 false .func [.val .nilFunc]) (.node 121 (.mk 1 8 false .func [.val .nilFunc]) (.node 117 (.mk 1 8 false .func [.val .nilFunc]) (.node 115 (.mk 1 8 false (.int .u64) [.val (.int .u64 0)]) (.node 114 (.mk 64 64 true (.array 64 5) [.val (.int .u8 0), .val (.int .u8 0), .val (.int .u8 0), .val (.int .u8 0), .val (.int .u8 0), .val (.int .u8 0), .val (.int .u8 0), .val (.int .u8 0), .val (.int .u8 0), .val (.int .u8 0), .val (.int .u8 0), .val (.int .u8 0), .val (.int .u8 0), .val (.int .u8 0), .val (.int .u8 0), .val (.int .u8 0), .val (.int .u8 0), .val (.int .u8 0), .val (.int .u8 0), .val (.int .u8 0), .val (.int .u8 0), .val (.int .u8 0), .val (.int .u8 0), .val (.int .u8 0), .val (.int .u8 0), .val (.int .u8 0), .val (.int .u8 0), .val (.int .u8 0), .val (.int .u8 0), .val (.int .u8 0), .val (.int .u8 0), .val (.int .u8 0), .val (.int .u8 0), .val (.int .u8 0), .val (.int .u8 0), .val (.int .u8 0), .val (.int .u8 0), .val (.int .u8 0), .val (.int .u8 0), .val (.int .u8 0), .val (.int .u8 0), .val (.int .u8 0), .val (.int .u8 0), .val (.int .u8 0), .val (.int .u8 0), .val (.int .u8 0), .val (.int .u8 0), .val (.int .u8 0), .val (.int .u8 0), .val (.int .u8 0), .val (.int .u8 0), .val (.int .u8 0), .val (.int .u8 0), .val (.int .u8 0), .val (.int .u8 0), .val (.int .u8 0), .val (.int .u8 0), .val (.int .u8 0), .val (.int .u8 0), .val (.int .u8 0), .val (.int .u8 0), .val (.int .u8 0), .val (.int .u8 0), .val (.int .u8 0)]) (.node 113 (.mk 32 32 true (.array 32 5) [.val (.int .u8 0), .val (.int .u8 0), .val (.int .u8 0), .val (.int .u8 0), .val (.int .u8 0), .val (.int .u8 0), .val (.int .u8 0), .val (.int .u8 0), .val (.int .u8 0), .val (.int .u8 0), .val (.int .u8 0), .val (.int .u8 0), .val (.int .u8 0), .val (.int .u8 0), .val (.int .u8 0), .val (.int .u8 0), .val (.int .u8 0), .val (.int .u8 0), .val (.int .u8 0), .val (.int .u8 0), .val (.int .u8 0), .val (.int .u8 0), .val (.int .u8 0), .val (.int .u8 0), .val (.int .u8 0), .val (.int .u8 0), .val (.int .u8 0), .val (.int .u8 0), .val (.int .u8 0), .val (.int .u8 0), .val (.int .u8 0), .val (.int .u8 0)]) .nil .nil) .nil)
 (.node 116 (.mk 1 8 false .func [.val .nilFunc]) .nil .nil))
 (.node 119 (.mk 1 8 false (.ptr 3) [.val (.pointer none)]) (.node 118 (.mk 1 8 false .func [.val .nilFunc]) .nil .nil)
 (.node 120 (.mk 1 8 false .func [.val .nilFunc]) .nil .nil)))
 (.node 126 (.mk 1 8 false (.ptr 115) [.val (.pointer none)]) (.node 124 (.mk 1 8 false .func [.val .nilFunc]) (.node 123 (.mk 1 8 false .func [.val .nilFunc]) (.node 122 (.mk 1 8 false .func [.val .nilFunc]) .nil .nil) .nil)
 (.node 125 (.mk 1 8 false .func [.val .nilFunc]) .nil .nil))
 (.node 129 (.mk 1 8 false .func [.val .nilFunc]) (.node 128 (.mk 1 8 false .func [.val .nilFunc]) .nil .nil)
 (.node 130 (.mk 1 8 false .func [.val .nilFunc]) .nil .nil))))
 (.node 140 (.mk 1 1 false (.int .u8) [.val (.int .u8 0)]) (.node 136 (.mk 0 0 true (.struct [(0, 135)]) []) (.node 134 (.mk 4 40 true (.struct [(0, 17), (1, 17), (2, 17), (3, 9)]) [.val (.pointer none), .val (.pointer none), .val (.pointer none), .val (.string (⟨#[]⟩))]) (.node 133 (.mk 4 40 true (.struct [(0, 17), (1, 17), (2, 17), (3, 9)]) [.val (.pointer none), .val (.pointer none), .val (.pointer none), .val (.string (⟨#[]⟩))]) (.node 132 (.mk 1 8 false .func [.val .nilFunc]) .nil .nil) .nil)
 (.node 135 (.mk 0 0 true (.array 0 16) []) .nil .nil))
 (.node 138 (.mk 1 8 false .func [.val .nilFunc]) (.node 137 (.mk 0 0 true (.struct [(0, 135)]) []) .nil .nil)
 (.node 139 (.mk 1 1 false (.int .u8) [.val (.int .u8 0)]) .nil .nil)))
 (.node 144 (.mk 1 4 false (.int .i32) [.val (.int .i32 0)]) (.node 142 (.mk 1 8 false (.ptr 5) [.val (.pointer none)]) (.node 141 (.mk 1 8 false .func [.val .nilFunc]) .nil .nil)
 (.node 143 (.mk 1 4 false (.int .i32) [.val (.int .i32 0)]) .nil .nil))
 (.node 146 (.mk 11 48 true (.struct [(0, 12), (1, 12), (2, 99), (3, 139), (4, 5), (5, 5), (6, 140), (7, 141), (8, 142), (9, 143), (10, 144)]) [.val (.int .u64 0), .val (.int .u64 0), .val (.int .u32 0), .val (.int .u8 0), .val (.int .u8 0), .val (.int .u8 0), .val (.int .u8 0), .val .nilFunc, .val (.pointer none), .val (.int .i32 0), .val (.int .i32 0)]) (.node 145 (.mk 11 48 true (.struct [(0, 12), (1, 12), (2, 99), (3, 139), (4, 5), (5, 5), (6, 140), (7, 141), (8, 142), (9, 143), (10, 144)]) [.val (.int .u64 0), .val (.int .u64 0), .val (.int .u32 0), .val (.int .u8 0), .val (.int .u8 0), .val (.int .u8 0), .val (.int .u8 0), .val .nilFunc, .val (.pointer none), .val (.int .i32 0), .val (.int .i32 0)]) .nil .nil)
 (.node 147 (.mk 1 8 false .other [.val (.pointer none)]) .nil .nil)))))), [7, 8, 48, 49, 50, 51, 53, 54, 62, 63, 74, 75]⟩

theorem tok : TabOk Tryz.prog T := TabOk.of_eq (by kernel_rfl) (by kernel_rfl)

noncomputable def fd (f : Func) : FnD := ⟨f.ntmps, f.body.getD .skip, f.results.toList⟩
noncomputable def F : FTab := .node 59 (fd Tryz.f59) (.node 31 (fd Tryz.f31) (.node 17 (fd Tryz.f17) (.node 10 (fd Tryz.f10) (.node 6 (fd Tryz.f6) (.node 4 (fd Tryz.f4) (.node 3 (fd Tryz.f3) .nil .nil)
 (.node 5 (fd Tryz.f5) .nil .nil))
 (.node 8 (fd Tryz.f8) (.node 7 (fd Tryz.f7) .nil .nil)
 (.node 9 (fd Tryz.f9) .nil .nil)))
 (.node 14 (fd Tryz.f14) (.node 12 (fd Tryz.f12) (.node 11 (fd Tryz.f11) .nil .nil)
 (.node 13 (fd Tryz.f13) .nil .nil))
 (.node 16 (fd Tryz.f16) (.node 15 (fd Tryz.f15) .nil .nil) .nil)))
 (.node 24 (fd Tryz.f24) (.node 21 (fd Tryz.f21) (.node 19 (fd Tryz.f19) (.node 18 (fd Tryz.f18) .nil .nil)
 (.node 20 (fd Tryz.f20) .nil .nil))
 (.node 23 (fd Tryz.f23) (.node 22 (fd Tryz.f22) .nil .nil) .nil))
 (.node 28 (fd Tryz.f28) (.node 26 (fd Tryz.f26) (.node 25 (fd Tryz.f25) .nil .nil)
 (.node 27 (fd Tryz.f27) .nil .nil))
 (.node 30 (fd Tryz.f30) (.node 29 (fd Tryz.f29) .nil .nil) .nil))))
 (.node 45 (fd Tryz.f45) (.node 38 (fd Tryz.f38) (.node 35 (fd Tryz.f35) (.node 33 (fd Tryz.f33) (.node 32 (fd Tryz.f32) .nil .nil)
 (.node 34 (fd Tryz.f34) .nil .nil))
 (.node 37 (fd Tryz.f37) (.node 36 (fd Tryz.f36) .nil .nil) .nil))
 (.node 42 (fd Tryz.f42) (.node 40 (fd Tryz.f40) (.node 39 (fd Tryz.f39) .nil .nil)
 (.node 41 (fd Tryz.f41) .nil .nil))
 (.node 44 (fd Tryz.f44) (.node 43 (fd Tryz.f43) .nil .nil) .nil)))
 (.node 52 (fd Tryz.f52) (.node 49 (fd Tryz.f49) (.node 47 (fd Tryz.f47) (.node 46 (fd Tryz.f46) .nil .nil)
 (.node 48 (fd Tryz.f48) .nil .nil))
 (.node 51 (fd Tryz.f51) (.node 50 (fd Tryz.f50) .nil .nil) .nil))
 (.node 56 (fd Tryz.f56) (.node 54 (fd Tryz.f54) (.node 53 (fd Tryz.f53) .nil .nil)
 (.node 55 (fd Tryz.f55) .nil .nil))
 (.node 58 (fd Tryz.f58) (.node 57 (fd Tryz.f57) .nil .nil) .nil)))))
 (.node 87 (fd Tryz.f87) (.node 73 (fd Tryz.f73) (.node 66 (fd Tryz.f66) (.node 63 (fd Tryz.f63) (.node 61 (fd Tryz.f61) (.node 60 (fd Tryz.f60) .nil .nil)
 (.node 62 (fd Tryz.f62) .nil .nil))
 (.node 65 (fd Tryz.f65) (.node 64 (fd Tryz.f64) .nil .nil) .nil))
 (.node 70 (fd Tryz.f70) (.node 68 (fd Tryz.f68) (.node 67 (fd Tryz.f67) .nil .nil)
 (.node 69 (fd Tryz.f69) .nil .nil))
 (.node 72 (fd Tryz.f72) (.node 71 (fd Tryz.f71) .nil .nil) .nil)))
 (.node 80 (fd Tryz.f80) (.node 77 (fd Tryz.f77) (.node 75 (fd Tryz.f75) (.node 74 (fd Tryz.f74) .nil .nil)
 (.node 76 (fd Tryz.f76) .nil .nil))
 (.node 79 (fd Tryz.f79) (.node 78 (fd Tryz.f78) .nil .nil) .nil))
 (.node 84 (fd Tryz.f84) (.node 82 (fd Tryz.f82) (.node 81 (fd Tryz.f81) .nil .nil)
 (.node 83 (fd Tryz.f83) .nil .nil))
 (.node 86 (fd Tryz.f86) (.node 85 (fd Tryz.f85) .nil .nil) .nil))))
 (.node 101 (fd Tryz.f101) (.node 94 (fd Tryz.f94) (.node 91 (fd Tryz.f91) (.node 89 (fd Tryz.f89) (.node 88 (fd Tryz.f88) .nil .nil)
 (.node 90 (fd Tryz.f90) .nil .nil))
 (.node 93 (fd Tryz.f93) (.node 92 (fd Tryz.f92) .nil .nil) .nil))
 (.node 98 (fd Tryz.f98) (.node 96 (fd Tryz.f96) (.node 95 (fd Tryz.f95) .nil .nil)
 (.node 97 (fd Tryz.f97) .nil .nil))
 (.node 100 (fd Tryz.f100) (.node 99 (fd Tryz.f99) .nil .nil) .nil)))
 (.node 108 (fd Tryz.f108) (.node 105 (fd Tryz.f105) (.node 103 (fd Tryz.f103) (.node 102 (fd Tryz.f102) .nil .nil)
 (.node 104 (fd Tryz.f104) .nil .nil))
 (.node 107 (fd Tryz.f107) (.node 106 (fd Tryz.f106) .nil .nil) .nil))
 (.node 112 (fd Tryz.f112) (.node 110 (fd Tryz.f110) (.node 109 (fd Tryz.f109) .nil .nil)
 (.node 111 (fd Tryz.f111) .nil .nil))
 (.node 135 (fd Tryz.f135) (.node 113 (fd Tryz.f113) .nil .nil) .nil)))))
theorem fok : FTabOk Tryz.prog F := FTabOk.of_eq (by kernel_rfl)
theorem mixed : Tryz.prog.follows .mixedOrders = true := by kernel_rfl

end Go.Proofs.YtbcacaodfpgflaaGreatDoor.Cw

/-
  Data of the program, as_ lists of cells.
-/
namespace Go.Proofs.YtbcacaodfpgflaaGreatDoor.Cw
open Go.Cw Go.Proofs
set_option linter.unusedVariables false

abbrev Str := ByteArray
def ei (n : Int) : PV := .val (.int .i64 n)
def es (s : Str) : PV := .val (.string s)
def encStrs (l : List Str) : PV := .sl 1 (l.map fun s => [es s])
def encInts (l : List Int) : PV := .sl 1 (l.map fun x => [ei x])

structure Time where
  (weeks day start len : Int)
def Time.row (t : Time) : List PV := [ei t.weeks, ei t.day, ei t.start, ei t.len]
def encTimes (l : List Time) : PV := .sl 4 (l.map Time.row)

structure Grid where
  (days slots begin_ mins : Int)
def Grid.row (g : Grid) : List PV := [ei g.days, ei g.slots, ei g.begin_, ei g.mins]

structure Room where
  (code bld : Str)
  (seats : Int)
  (feats : List Str)
  (closed : List Time)
def Room.row (r : Room) : List PV := [es r.code, es r.bld, ei r.seats, encStrs r.feats, encTimes r.closed]
def encRooms (l : List Room) : PV := .sl 5 (l.map Room.row)

structure Exam where
  (code : Str)
  (len : Int)
  (feats studs : List Str)
def Exam.row (e : Exam) : List PV := [es e.code, ei e.len, encStrs e.feats, encStrs e.studs]
structure Sitting where
  (day start len cost : Int)
def Sitting.row (s : Sitting) : List PV := [ei s.day, ei s.start, ei s.len, ei s.cost]
structure Gaps where
  (row day near days mixed : Int)
structure Exams where
  (rooms : List Room)
  (exams : List Exam)
  (sits : List Sitting)
  (gaps : Gaps)
def Exams.cells (x : Exams) : List PV := [encRooms x.rooms, .sl 4 (x.exams.map Exam.row), .sl 4 (x.sits.map Sitting.row), ei x.gaps.row, ei x.gaps.day, ei x.gaps.near, ei x.gaps.days, ei x.gaps.mixed]
/-! Registries. -/
structure Term where
  (first weeks : Int)
  (hols : List Int)
def Term.row (t : Term) : List PV := [ei t.first, ei t.weeks, encInts t.hols]
structure Travel where
  (blds : List Str)
  (slots : List (List Int))
def intsRow (l : List Int) : List PV := [encInts l]
def Travel.row (t : Travel) : List PV := [encStrs t.blds, .sl 1 (t.slots.map intsRow)]
structure Lecturer where
  (code : Str)
  (away : List Time)
def Lecturer.row (l : Lecturer) : List PV := [es l.code, encTimes l.away]
structure Start where
  (day slot : Int)
def Start.row (s : Start) : List PV := [ei s.day, ei s.slot]
structure Class where
  (code course part : Str)
  (len : Int)
  (pats : List Int)
  (seats : Int)
  (feats staff : List Str)
  (starts : List Start)
def Class.row (c : Class) : List PV := [es c.code, es c.course, es c.part, ei c.len, encInts c.pats, ei c.seats, encStrs c.feats, encStrs c.staff, .sl 2 (c.starts.map Start.row)]
structure Curri where
  (code : Str)
  (courses : List Str)
def Curri.row (c : Curri) : List PV := [es c.code, encStrs c.courses]
structure Req where
  (student course : Str)
  (prio : Int)
  (instead : List Str)
def Req.row (r : Req) : List PV := [es r.student, es r.course, ei r.prio, encStrs r.instead]
structure Reg where
  (grid : Grid)
  (term : Term)
  (rooms : List Room)
  (travel : Travel)
  (staff : List Lecturer)
  (classes : List Class)
  (curris : List Curri)
  (reqs : List Req)
def Reg.cells (r : Reg) : List PV := [ei r.grid.days, ei r.grid.slots, ei r.grid.begin_, ei r.grid.mins, ei r.term.first, ei r.term.weeks, encInts r.term.hols, encRooms r.rooms, encStrs r.travel.blds, .sl 1 (r.travel.slots.map intsRow),
  .sl 2 (r.staff.map Lecturer.row), .sl 9 (r.classes.map Class.row), .sl 2 (r.curris.map Curri.row), .sl 4 (r.reqs.map Req.row)]
abbrev ag (l : List PV) : AV := .agg (pvs l)
end Go.Proofs.YtbcacaodfpgflaaGreatDoor.Cw

/-
  Words for what functions answer.
-/
namespace Go.Proofs.YtbcacaodfpgflaaGreatDoor.Cw
open Go.Cw Go.Proofs
set_option linter.unusedVariables false

noncomputable abbrev pB (p : Prop) : Bool := @decide p (Classical.propDecidable p)
theorem pB_t {p : Prop} (h : p) : pB p = true := by simp [h]
theorem pB_f {p : Prop} (h : ¬ p) : pB p = false := by simp [h]
theorem pB_eq {p : Prop} {b : Bool} (h : b = true ↔ p) : b = pB p := by
  cases b <;> simp at h <;> simp [h]

/-- The first answer that is not 0. -/
def firstE (f : Nat → Int) : Nat → Int
  | 0 => 0
  | n + 1 => if firstE f n = 0 then f n else firstE f n

theorem firstE_zero {f : Nat → Int} : ∀ {n : Nat}, (∀ i, i < n → f i = 0) → firstE f n = 0
  | 0, _ => rfl
  | n + 1, h => by simp [firstE, firstE_zero (n := n) fun i hi => h i (by omega), h n (by omega)]

theorem firstE_at {f : Nat → Int} {i : Nat} (h0 : ∀ j, j < i → f j = 0) (hi : f i ≠ 0) : ∀ {n : Nat}, i < n → firstE f n = f i
  | 0, h => by omega
  | n + 1, h => by
    rcases Nat.lt_or_ge i n with h1 | h1
    · rw [firstE, firstE_at h0 hi h1, if_neg hi]
    · have : i = n := by omega
      subst this
      rw [firstE, firstE_zero h0, if_pos rfl]

theorem firstE_zero_iff {f : Nat → Int} : ∀ {n : Nat}, firstE f n = 0 ↔ ∀ i, i < n → f i = 0
  | 0 => by simp [firstE]
  | n + 1 => by
    refine ⟨fun h i hi => ?_, firstE_zero⟩
    simp only [firstE] at h
    split at h
    · rename_i h0
      rcases Nat.lt_or_ge i n with h1 | h1
      · exact firstE_zero_iff.1 h0 i h1
      · have : i = n := by omega
        subst this; exact h
    · rename_i h0; exact absurd h h0

theorem all_lt_succ {p : Nat → Prop} {i : Nat} (h : ∀ j, j < i → p j) (hi : p i) : ∀ j, j < i + 1 → p j := fun j hj => by
  rcases Nat.lt_or_ge j i with h1 | h1
  · exact h j h1
  · have : j = i := by omega
    subst this; exact hi

theorem str_at {s : Str} {i : Nat} (h : i < s.size) : ∃ b, s[i]? = some b := ⟨_, by rw [ByteArray.getElem?_lt' s _ h]⟩
theorem sEq_iff {x y : Str} : sEq x y = true ↔ x = y := by
  unfold sEq bts
  rw [beq_iff_eq, Array.toList_inj]
  exact ⟨fun h => ByteArray.ext h, fun h => by rw [h]⟩
theorem sEq_f {x y : Str} : sEq x y = false ↔ x ≠ y := by
  rw [← Bool.not_eq_true, sEq_iff]
theorem pow2_pos (n : Nat) : (1 : Int) ≤ 2 ^ n := by
  induction n with
  | zero => simp
  | succ n ih => rw [Int.pow_succ]; omega
theorem pow2_le {n : Nat} (h : n ≤ 40) : (2 : Int) ^ n ≤ 1099511627776 := by
  have h1 : (2 : Nat) ^ n ≤ 2 ^ 40 := Nat.pow_le_pow_right (by omega) h
  have h2 : ((2 ^ n : Nat) : Int) = (2 : Int) ^ n := by simp
  have h3 : (2 : Nat) ^ 40 = 1099511627776 := by decide
  omega
theorem eqv_shl {n : Int} {K : Int → Prop} (h : 0 ≤ n ∧ n ≤ 40) (hk : K (2 ^ n.toNat)) : eqv (IntKind.i64.wrap (1 * 2 ^ (min n.toNat IntKind.i64.bits))) K := by
  have e : min n.toNat IntKind.i64.bits = n.toNat := by simp [IntKind.bits]; omega
  rw [e, Int.one_mul]
  have h1 := pow2_pos n.toNat
  have h2 := pow2_le (n := n.toNat) (by omega)
  exact eqv_wrap (by omega) (by omega) hk
theorem eqv_u64 {x : Int} {K : Int → Prop} (h1 : 0 ≤ x) (h2 : x < 18446744073709551616) (h : K x) : eqv (IntKind.u64.wrap x) K :=
  ⟨x, by simp only [IntKind.wrap, IntKind.bits, IntKind.signed]; first | omega | (simp; omega), h⟩
theorem eqv_u8 {x : Int} {K : Int → Prop} (h1 : 0 ≤ x) (h2 : x < 256) (h : K x) : eqv (IntKind.u8.wrap x) K :=
  ⟨x, by simp only [IntKind.wrap, IntKind.bits, IntKind.signed]; first | omega | (simp; omega), h⟩
/-- Where the first one is; -1: nowhere. -/
def idxB {α : Type} (p : α → Bool) (l : List α) : Int := match l.findIdx? p with
  | some i => i
  | none => -1

theorem idxB_at {α : Type} {p : α → Bool} {l : List α} {i : Nat} {x : α} (h0 : ∀ j, j < i → ∀ y, l[j]? = some y → p y = false) (hx : l[i]? = some x) (hp : p x = true) : idxB p l = i := by
  have hi := (List.getElem?_eq_some_iff.1 hx).1
  have : l.findIdx? p = some i := by
    rw [List.findIdx?_eq_some_iff_getElem]
    refine ⟨hi, ?_, fun j hj => ?_⟩
    · rw [(List.getElem?_eq_some_iff.1 hx).2]; exact hp
    · have := h0 j hj l[j] (List.getElem?_eq_getElem (by omega))
      simp [this]
  simp [idxB, this]
theorem idxB_none {α : Type} {p : α → Bool} {l : List α} (h : ∀ j, j < l.length → ∀ y, l[j]? = some y → p y = false) : idxB p l = -1 := by
  have : l.findIdx? p = none := by
    rw [List.findIdx?_eq_none_iff]
    intro x hx
    obtain ⟨i, hi, rfl⟩ := List.getElem_of_mem hx
    exact h i hi _ (List.getElem?_eq_getElem hi)
  simp [idxB, this]
end Go.Proofs.YtbcacaodfpgflaaGreatDoor.Cw

/-
  Contracts: characters, codes.
-/
namespace Go.Proofs.YtbcacaodfpgflaaGreatDoor.Cw
open Go.Cw Go.Proofs
set_option linter.unusedVariables false
set_option maxRecDepth 100000

def digB (c : Int) : Bool := decide (48 ≤ c ∧ c ≤ 57)
def letB (c : Int) : Bool := decide ((65 ≤ c ∧ c ≤ 90) ∨ (97 ≤ c ∧ c ≤ 122))

theorem c_digit (c : Int) : PCall Tryz.prog 75 [vint .u8 c] (fun r => r = vbool (digB c)) := by
  refine acall_of tok mixed 9 rfl (fn := Tryz.f75) (c := Tryz.f75.body.getD .skip) (by kernel_rfl) (by kernel_rfl) (by kernel_rfl) rfl 0 rfl ?_
  repeat' (first | refine o1 ?_ | refine o2 ?_ | refine k1 ?_ | refine k2 ?_ | refine k7 ?_ | refine And.intro ?_ ?_ | (intro h; first | exact Bool.noConfusion h | exact nz _ h | exact nl h | (simp at h; done) | (simp at h; first | (exfalso; omega) | skip) | skip) | fail); all_goals try (change retOk _ _ _ _; refine ret_pure rfl trivial ?_)
  all_goals (refine congrArg vbool ?_; unfold digB; first | (simp; omega) | (simp_all; done) | grind)

theorem c_letter (c : Int) : PCall Tryz.prog 76 [vint .u8 c] (fun r => r = vbool (letB c)) := by
  refine acall_of tok mixed 17 rfl (fn := Tryz.f76) (c := Tryz.f76.body.getD .skip) (by kernel_rfl) (by kernel_rfl) (by kernel_rfl) rfl 0 rfl ?_
  repeat' (first | refine o1 ?_ | refine o2 ?_ | refine k1 ?_ | refine k2 ?_ | refine k7 ?_ | refine And.intro ?_ ?_ | (intro h; first | exact Bool.noConfusion h | exact nz _ h | exact nl h | (simp at h; done) | (simp at h; first | (exfalso; omega) | skip) | skip) | fail); all_goals try (change retOk _ _ _ _; refine ret_pure rfl trivial ?_)
  all_goals (refine congrArg vbool ?_; unfold letB; grind)

def chrP (i : Nat) (c : Int) : Prop := digB c = true ∨ letB c = true ∨ (0 < i ∧ (c = 95 ∨ c = 45))
/-- A code. -/
def codeP (s : Str) : Prop := 1 ≤ s.size ∧ s.size ≤ 16 ∧ ∀ i, i < s.size → ∀ b, s[i]? = some b → chrP i b.toNat

theorem codeP_next {s : Str} {i : Nat} {b : UInt8} (hall : ∀ j, j < i → ∀ b, s[j]? = some b → chrP j b.toNat) (hb : s[i]? = some b) (h : chrP i b.toNat) : ∀ j, j < i + 1 → ∀ b, s[j]? = some b → chrP j b.toNat :=
  all_lt_succ hall fun b' hb' => by rw [hb] at hb'; injection hb' with hb'; subst hb'; exact h

theorem c_code (s : Str) : PCall Tryz.prog 60 [.pv (es s)] (fun r => r = vbool (pB (codeP s))) := by
  refine acall_of tok mixed 49 rfl (fn := Tryz.f60) (c := Tryz.f60.body.getD .skip) (by kernel_rfl) (by kernel_rfl) (by kernel_rfl) rfl 0 rfl ?_
  repeat' (first | refine o1 ?_ | refine o2 ?_ | refine k1 ?_ | refine k2 ?_ | refine k3 ?_ | refine k4 ?_ | refine k6 ?_ | refine k7 ?_ | refine And.intro ?_ ?_ | (intro h; first | exact Bool.noConfusion h | exact nz _ h | exact nl h | (simp at h; done) | (simp at h; first | (exfalso; omega) | skip) | skip) | refine eqv_size ?_ | fail); all_goals try (change retOk _ _ _ _; refine ret_pure rfl trivial ?_)
  · exact congrArg vbool (pB_f fun h => by have := h.2.1; omega).symm
  · refine loop_at (fun i : Nat => [(15, vint .i64 i)]) (fun _ => []) (fun i => i ≤ s.size ∧ ∀ j, j < i → ∀ b, s[j]? = some b → chrP j b.toNat) (fun i => s.size - i) 0 ⟨by omega, fun j hj => by omega⟩ (by repeat' (first | exact trivial | exact ⟨_, rfl, ALe.refl⟩ | refine And.intro ?_ ?_)) (by repeat' (first | exact trivial)) ?_
    intro i ⟨hi, hall⟩
    rcases Nat.lt_or_ge i s.size with hlt | hge
    · obtain ⟨b, hb⟩ := str_at hlt
      repeat' (first | refine o1 ?_ | refine o2 ?_ | refine k1 ?_ | refine k2 ?_ | refine k3 ?_ | refine k4 ?_ | refine k6 ?_ | refine k7 ?_ | refine And.intro ?_ ?_ | (intro h; first | exact Bool.noConfusion h | exact nz _ h | exact nl h | (simp at h; done) | (simp at h; first | (exfalso; omega) | skip) | skip) | (change retOk _ _ _ _; refine ret_pure rfl trivial ?_) | refine eqv_wrap (by omega) (by omega) ?_ | refine ⟨_, _, (by first | rfl | assumption), (by assumption), ?_⟩ | (change vcFun _ _ _ _ _; refine call_eq rfl (by repeat' (first | trivial | refine And.intro ?_ ?_ | (show 0 + _ ≤ List.length _; simp))) ALeL.refl (c_digit _) rfl ?_) | (change vcFun _ _ _ _ _; refine call_eq rfl (by repeat' (first | trivial | refine And.intro ?_ ?_ | (show 0 + _ ≤ List.length _; simp))) ALeL.refl (c_letter _) rfl ?_) | fail)
      all_goals first
        | (exfalso; omega)
        | exact ⟨i + 1, ⟨by omega, codeP_next hall hb (by simp [chrP, *])⟩, by omega, back [] rfl rfl trivial (by repeat' (first | exact trivial | exact rfl | refine And.intro ?_ ?_))⟩
        | (refine congrArg vbool (pB_f fun h => ?_).symm; have := h.2.2 i hlt b hb; simp [chrP, *] at this; done)
    · repeat' (first | refine o1 ?_ | refine o2 ?_ | refine k1 ?_ | refine k2 ?_ | refine k3 ?_ | refine k7 ?_ | refine k8 ?_ | refine And.intro ?_ ?_ | (intro h; first | exact Bool.noConfusion h | exact nz _ h | exact nl h | (simp at h; done) | (simp at h; first | (exfalso; omega) | skip) | skip) | (change retOk _ _ _ _; refine ret_pure rfl trivial ?_) | fail)
      all_goals first
        | (exfalso; omega)
        | (refine congrArg vbool (pB_t ?_).symm; exact ⟨by omega, by omega, fun j hj => hall j (by omega)⟩)
  · exact congrArg vbool (pB_f fun h => by have := h.1; omega).symm
end Go.Proofs.YtbcacaodfpgflaaGreatDoor.Cw

/-
  Contracts: codes that ascend.
-/
namespace Go.Proofs.YtbcacaodfpgflaaGreatDoor.Cw
open Go.Cw Go.Proofs
set_option linter.unusedVariables false
set_option maxRecDepth 100000

def risP (l : List Str) : Prop := ∀ i, i + 1 < l.length → ∀ s p, l[i + 1]? = some s → l[i]? = some p → sLe s p = false
def codesP (l : List Str) : Prop := ∀ i, i < l.length → ∀ s, l[i]? = some s → codeP s
/-- Codes that ascend. -/
def ascP (l : List Str) : Prop := codesP l ∧ risP l
def ascTo (l : List Str) (i : Nat) : Prop := (∀ j, j < i → ∀ s, l[j]? = some s → codeP s) ∧ ∀ j, j + 1 < i → ∀ s p, l[j + 1]? = some s → l[j]? = some p → sLe s p = false

/-! The reference. -/
theorem c_rdigit (c : Int) : PCall Tryz.prog 81 [vint .u8 c] (fun r => r = vbool (digB c)) := by
  refine acall_of tok mixed 9 rfl (fn := Tryz.f81) (c := Tryz.f81.body.getD .skip) (by kernel_rfl) (by kernel_rfl) (by kernel_rfl) rfl 0 rfl ?_
  repeat' (first | refine o1 ?_ | refine o2 ?_ | refine k1 ?_ | refine k2 ?_ | refine k3 ?_ | refine k4 ?_ | refine k6 ?_ | refine k7 ?_ | refine k8 ?_ | refine And.intro ?_ ?_ | exact trivial | refine o3 ?_ | refine o4 ?_ | refine o5 ?_ | refine o6 ?_ | refine k5 ?_ | (intro h; first | exact Bool.noConfusion h | exact nz _ h | exact nl h | (simp at h; done) | (simp at h; first | (exfalso; omega) | skip) | skip) | (change retOk _ _ _ _; refine ret_pure rfl trivial ?_) | exact (rfl : allOne _ = true) | (refine (?_ : (0 : Int) ≤ _); omega) | (refine (?_ : _ ≠ _); omega) | (refine (?_ : srcLen _ = rowsLen _); rfl) | exact Nat.le_of_ble_eq_true rfl | exact (by kernel_rfl : drawOk _ _ = true) | refine eqv_len_map ?_ | refine eqv_size ?_ | refine eqv_put (eqv_ck ?_) | refine eqv_zero ?_ | refine eqv_wrap (by omega) (by omega) ?_ | refine eqv_u64 (by omega) (by omega) ?_ | refine eqv_u8 (by omega) (by omega) ?_ | refine eqv_to _ (set_map rfl rfl) ?_ | refine ⟨_, _, (by first | rfl | assumption), at_map (by assumption), ?_⟩ | refine ⟨_, _, (by first | rfl | assumption), (by assumption), ?_⟩ | refine ⟨_, at_map (by assumption), (by decide), ?_⟩ | refine ⟨_, at_map (by assumption), ?_⟩ | (refine (?_ : _ ≤ 140737488355328); simp [rowsLen] <;> omega) | (refine (?_ : _ ≤ 9223372036854775807); simp [rowsLen] <;> omega) | (refine (?_ : _ = rowsLen _); simp [rowsLen] <;> omega) | refine eqv_to _ (app_row rfl) (eqv_to _ app_len ?_) | refine eqv_to _ (app_first rfl) (eqv_to 1 rfl ?_) | refine idx_sl (at_map (by assumption)) (by omega) ?_ | refine idx_ms _ (by first | rfl | assumption) (by first | assumption | omega) ?_ | fail); all_goals try (change retOk _ _ _ _; refine ret_pure rfl trivial ?_)
  all_goals (refine congrArg vbool ?_; unfold digB; grind)
theorem c_rletter (c : Int) : PCall Tryz.prog 82 [vint .u8 c] (fun r => r = vbool (letB c)) := by
  refine acall_of tok mixed 17 rfl (fn := Tryz.f82) (c := Tryz.f82.body.getD .skip) (by kernel_rfl) (by kernel_rfl) (by kernel_rfl) rfl 0 rfl ?_
  repeat' (first | refine o1 ?_ | refine o2 ?_ | refine k1 ?_ | refine k2 ?_ | refine k3 ?_ | refine k4 ?_ | refine k6 ?_ | refine k7 ?_ | refine k8 ?_ | refine And.intro ?_ ?_ | exact trivial | refine o3 ?_ | refine o4 ?_ | refine o5 ?_ | refine o6 ?_ | refine k5 ?_ | (intro h; first | exact Bool.noConfusion h | exact nz _ h | exact nl h | (simp at h; done) | (simp at h; first | (exfalso; omega) | skip) | skip) | (change retOk _ _ _ _; refine ret_pure rfl trivial ?_) | exact (rfl : allOne _ = true) | (refine (?_ : (0 : Int) ≤ _); omega) | (refine (?_ : _ ≠ _); omega) | (refine (?_ : srcLen _ = rowsLen _); rfl) | exact Nat.le_of_ble_eq_true rfl | exact (by kernel_rfl : drawOk _ _ = true) | refine eqv_len_map ?_ | refine eqv_size ?_ | refine eqv_put (eqv_ck ?_) | refine eqv_zero ?_ | refine eqv_wrap (by omega) (by omega) ?_ | refine eqv_u64 (by omega) (by omega) ?_ | refine eqv_u8 (by omega) (by omega) ?_ | refine eqv_to _ (set_map rfl rfl) ?_ | refine ⟨_, _, (by first | rfl | assumption), at_map (by assumption), ?_⟩ | refine ⟨_, _, (by first | rfl | assumption), (by assumption), ?_⟩ | refine ⟨_, at_map (by assumption), (by decide), ?_⟩ | refine ⟨_, at_map (by assumption), ?_⟩ | (refine (?_ : _ ≤ 140737488355328); simp [rowsLen] <;> omega) | (refine (?_ : _ ≤ 9223372036854775807); simp [rowsLen] <;> omega) | (refine (?_ : _ = rowsLen _); simp [rowsLen] <;> omega) | refine eqv_to _ (app_row rfl) (eqv_to _ app_len ?_) | refine eqv_to _ (app_first rfl) (eqv_to 1 rfl ?_) | refine idx_sl (at_map (by assumption)) (by omega) ?_ | refine idx_ms _ (by first | rfl | assumption) (by first | assumption | omega) ?_ | fail); all_goals try (change retOk _ _ _ _; refine ret_pure rfl trivial ?_)
  all_goals (refine congrArg vbool ?_; unfold letB; grind)

theorem c_rcode (s : Str) : PCall Tryz.prog 67 [.pv (es s)] (fun r => r = vbool (pB (codeP s))) := by
  refine acall_of tok mixed 52 rfl (fn := Tryz.f67) (c := Tryz.f67.body.getD .skip) (by kernel_rfl) (by kernel_rfl) (by kernel_rfl) rfl 0 rfl ?_
  rcases Nat.lt_or_ge 0 s.size with h0 | h0
  · obtain ⟨a, ha⟩ := str_at h0
    have hno : (a.toNat : Int) = 95 ∨ (a.toNat : Int) = 45 → ¬ codeP s := fun h hc => by
      rcases hc.2.2 0 h0 a ha with h1 | h1 | h1
      · simp [digB] at h1; omega
      · simp [letB] at h1; omega
      · omega
    repeat' (first | refine o1 ?_ | refine o2 ?_ | refine k1 ?_ | refine k2 ?_ | refine k3 ?_ | refine k4 ?_ | refine k6 ?_ | refine k7 ?_ | refine k8 ?_ | refine And.intro ?_ ?_ | exact trivial | refine o3 ?_ | refine o4 ?_ | refine o5 ?_ | refine o6 ?_ | refine k5 ?_ | (intro h; first | exact Bool.noConfusion h | exact nz _ h | exact nl h | (simp at h; done) | (simp at h; first | (exfalso; omega) | skip) | skip) | (change retOk _ _ _ _; refine ret_pure rfl trivial ?_) | exact (rfl : allOne _ = true) | (refine (?_ : (0 : Int) ≤ _); omega) | (refine (?_ : _ ≠ _); omega) | (refine (?_ : srcLen _ = rowsLen _); rfl) | exact Nat.le_of_ble_eq_true rfl | exact (by kernel_rfl : drawOk _ _ = true) | refine eqv_len_map ?_ | refine eqv_size ?_ | refine eqv_put (eqv_ck ?_) | refine eqv_zero ?_ | refine eqv_wrap (by omega) (by omega) ?_ | refine eqv_u64 (by omega) (by omega) ?_ | refine eqv_u8 (by omega) (by omega) ?_ | refine eqv_to _ (set_map rfl rfl) ?_ | refine ⟨_, _, (by first | rfl | assumption), at_map (by assumption), ?_⟩ | refine ⟨_, _, (by first | rfl | assumption), (by assumption), ?_⟩ | refine ⟨_, at_map (by assumption), (by decide), ?_⟩ | refine ⟨_, at_map (by assumption), ?_⟩ | (refine (?_ : _ ≤ 140737488355328); simp [rowsLen] <;> omega) | (refine (?_ : _ ≤ 9223372036854775807); simp [rowsLen] <;> omega) | (refine (?_ : _ = rowsLen _); simp [rowsLen] <;> omega) | refine eqv_to _ (app_row rfl) (eqv_to _ app_len ?_) | refine eqv_to _ (app_first rfl) (eqv_to 1 rfl ?_) | refine idx_sl (at_map (by assumption)) (by omega) ?_ | refine idx_ms _ (by first | rfl | assumption) (by first | assumption | omega) ?_ | fail)
    case' refine_1.refine_1.refine_1.refine_2 =>
      refine loop_at (fun i : Nat => [(3, vint .i64 i)]) (fun _ => []) (fun i => i ≤ s.size ∧ ∀ j, j < i → ∀ b, s[j]? = some b → chrP j b.toNat) (fun i => s.size - i) 0 ⟨by omega, fun j hj => by omega⟩ (by repeat' (first | exact trivial | exact rfl | exact ⟨_, rfl, ALe.refl⟩ | refine And.intro ?_ ?_)) (by repeat' (first | exact trivial | exact rfl | exact ⟨_, rfl, ALe.refl⟩ | refine And.intro ?_ ?_)) ?_
      intro i ⟨hi, hall⟩
      rcases Nat.lt_or_ge i s.size with hlt | hge
      · obtain ⟨b, hb⟩ := str_at hlt
        have h00 : i = 0 → a = b := fun e => by subst e; rw [ha] at hb; injection hb
        have hpos : (b.toNat : Int) = 95 ∨ (b.toNat : Int) = 45 → 0 < i := fun h => by
          rcases Nat.eq_zero_or_pos i with h9 | h9
          · have := h00 h9; subst this; omega
          · exact h9
        repeat' (first | (refine ⟨i, b, rfl, hb, ?_⟩) | refine o1 ?_ | refine o2 ?_ | refine k1 ?_ | refine k2 ?_ | refine k3 ?_ | refine k4 ?_ | refine k6 ?_ | refine k7 ?_ | refine k8 ?_ | refine And.intro ?_ ?_ | exact trivial | refine o3 ?_ | refine o4 ?_ | refine o5 ?_ | refine o6 ?_ | refine k5 ?_ | (intro h; first | exact Bool.noConfusion h | exact nz _ h | exact nl h | (simp at h; done) | (simp at h; first | (exfalso; omega) | skip) | skip) | (change retOk _ _ _ _; refine ret_pure rfl trivial ?_) | exact (rfl : allOne _ = true) | (refine (?_ : (0 : Int) ≤ _); omega) | (refine (?_ : _ ≠ _); omega) | (refine (?_ : srcLen _ = rowsLen _); rfl) | exact Nat.le_of_ble_eq_true rfl | exact (by kernel_rfl : drawOk _ _ = true) | refine eqv_len_map ?_ | refine eqv_size ?_ | refine eqv_put (eqv_ck ?_) | refine eqv_zero ?_ | refine eqv_wrap (by omega) (by omega) ?_ | refine eqv_u64 (by omega) (by omega) ?_ | refine eqv_u8 (by omega) (by omega) ?_ | refine eqv_to _ (set_map rfl rfl) ?_ | refine ⟨_, _, (by first | rfl | assumption), at_map (by assumption), ?_⟩ | refine ⟨_, _, (by first | rfl | assumption), (by assumption), ?_⟩ | refine ⟨_, at_map (by assumption), (by decide), ?_⟩ | refine ⟨_, at_map (by assumption), ?_⟩ | (refine (?_ : _ ≤ 140737488355328); simp [rowsLen] <;> omega) | (refine (?_ : _ ≤ 9223372036854775807); simp [rowsLen] <;> omega) | (refine (?_ : _ = rowsLen _); simp [rowsLen] <;> omega) | refine eqv_to _ (app_row rfl) (eqv_to _ app_len ?_) | refine eqv_to _ (app_first rfl) (eqv_to 1 rfl ?_) | refine idx_sl (at_map (by assumption)) (by omega) ?_ | refine idx_ms _ (by first | rfl | assumption) (by first | assumption | omega) ?_ | (change vcFun _ _ _ _ _; refine call_eq rfl (by repeat' (first | trivial | refine And.intro ?_ ?_ | (show 0 + _ ≤ List.length _; simp))) ALeL.refl (c_rdigit _) rfl ?_) | (change vcFun _ _ _ _ _; refine call_eq rfl (by repeat' (first | trivial | refine And.intro ?_ ?_ | (show 0 + _ ≤ List.length _; simp))) ALeL.refl (c_rletter _) rfl ?_) | fail)
        all_goals first
          | exact ⟨i + 1, ⟨by omega, codeP_next hall hb (by unfold chrP; first | exact .inl (by assumption) | exact .inr (.inl (by assumption)) | exact .inr (.inr ⟨hpos (by omega), by omega⟩))⟩, by omega, back [] rfl rfl trivial (by repeat' (first | exact trivial | exact rfl | exact ⟨_, rfl, ALe.refl⟩ | refine And.intro ?_ ?_))⟩
          | (refine congrArg vbool (pB_f fun h => ?_).symm; have := h.2.2 i hlt b hb; simp [chrP, *] at this; done)
      · repeat' (first | refine o1 ?_ | refine o2 ?_ | refine k1 ?_ | refine k2 ?_ | refine k3 ?_ | refine k4 ?_ | refine k6 ?_ | refine k7 ?_ | refine k8 ?_ | refine And.intro ?_ ?_ | exact trivial | refine o3 ?_ | refine o4 ?_ | refine o5 ?_ | refine o6 ?_ | refine k5 ?_ | (intro h; first | exact Bool.noConfusion h | exact nz _ h | exact nl h | (simp at h; done) | (simp at h; first | (exfalso; omega) | skip) | skip) | (change retOk _ _ _ _; refine ret_pure rfl trivial ?_) | exact (rfl : allOne _ = true) | (refine (?_ : (0 : Int) ≤ _); omega) | (refine (?_ : _ ≠ _); omega) | (refine (?_ : srcLen _ = rowsLen _); rfl) | exact Nat.le_of_ble_eq_true rfl | exact (by kernel_rfl : drawOk _ _ = true) | refine eqv_len_map ?_ | refine eqv_size ?_ | refine eqv_put (eqv_ck ?_) | refine eqv_zero ?_ | refine eqv_wrap (by omega) (by omega) ?_ | refine eqv_u64 (by omega) (by omega) ?_ | refine eqv_u8 (by omega) (by omega) ?_ | refine eqv_to _ (set_map rfl rfl) ?_ | refine ⟨_, _, (by first | rfl | assumption), at_map (by assumption), ?_⟩ | refine ⟨_, _, (by first | rfl | assumption), (by assumption), ?_⟩ | refine ⟨_, at_map (by assumption), (by decide), ?_⟩ | refine ⟨_, at_map (by assumption), ?_⟩ | (refine (?_ : _ ≤ 140737488355328); simp [rowsLen] <;> omega) | (refine (?_ : _ ≤ 9223372036854775807); simp [rowsLen] <;> omega) | (refine (?_ : _ = rowsLen _); simp [rowsLen] <;> omega) | refine eqv_to _ (app_row rfl) (eqv_to _ app_len ?_) | refine eqv_to _ (app_first rfl) (eqv_to 1 rfl ?_) | refine idx_sl (at_map (by assumption)) (by omega) ?_ | refine idx_ms _ (by first | rfl | assumption) (by first | assumption | omega) ?_ | fail)
        refine congrArg vbool (pB_t ?_).symm
        exact ⟨by omega, by omega, fun j hj => hall j (by omega)⟩
    all_goals first
      | exact congrArg vbool (pB_f (hno (by omega))).symm
      | exact congrArg vbool (pB_f fun h => by have := h.1; have := h.2.1; omega).symm
  · repeat' (first | refine o1 ?_ | refine o2 ?_ | refine k1 ?_ | refine k2 ?_ | refine k3 ?_ | refine k4 ?_ | refine k6 ?_ | refine k7 ?_ | refine k8 ?_ | refine And.intro ?_ ?_ | exact trivial | refine o3 ?_ | refine o4 ?_ | refine o5 ?_ | refine o6 ?_ | refine k5 ?_ | (intro h; first | exact Bool.noConfusion h | exact nz _ h | exact nl h | (simp at h; done) | (simp at h; first | (exfalso; omega) | skip) | skip) | (change retOk _ _ _ _; refine ret_pure rfl trivial ?_) | exact (rfl : allOne _ = true) | (refine (?_ : (0 : Int) ≤ _); omega) | (refine (?_ : _ ≠ _); omega) | (refine (?_ : srcLen _ = rowsLen _); rfl) | exact Nat.le_of_ble_eq_true rfl | exact (by kernel_rfl : drawOk _ _ = true) | refine eqv_len_map ?_ | refine eqv_size ?_ | refine eqv_put (eqv_ck ?_) | refine eqv_zero ?_ | refine eqv_wrap (by omega) (by omega) ?_ | refine eqv_u64 (by omega) (by omega) ?_ | refine eqv_u8 (by omega) (by omega) ?_ | refine eqv_to _ (set_map rfl rfl) ?_ | refine ⟨_, _, (by first | rfl | assumption), at_map (by assumption), ?_⟩ | refine ⟨_, _, (by first | rfl | assumption), (by assumption), ?_⟩ | refine ⟨_, at_map (by assumption), (by decide), ?_⟩ | refine ⟨_, at_map (by assumption), ?_⟩ | (refine (?_ : _ ≤ 140737488355328); simp [rowsLen] <;> omega) | (refine (?_ : _ ≤ 9223372036854775807); simp [rowsLen] <;> omega) | (refine (?_ : _ = rowsLen _); simp [rowsLen] <;> omega) | refine eqv_to _ (app_row rfl) (eqv_to _ app_len ?_) | refine eqv_to _ (app_first rfl) (eqv_to 1 rfl ?_) | refine idx_sl (at_map (by assumption)) (by omega) ?_ | refine idx_ms _ (by first | rfl | assumption) (by first | assumption | omega) ?_ | fail)
    all_goals exact congrArg vbool (pB_f fun h => by have := h.1; have := h.2.1; omega).symm



end Go.Proofs.YtbcacaodfpgflaaGreatDoor.Cw

/-
  Contracts: the week.
-/
namespace Go.Proofs.YtbcacaodfpgflaaGreatDoor.Cw
open Go.Cw Go.Proofs
set_option linter.unusedVariables false
set_option maxRecDepth 100000

def gridP (g : Grid) : Prop := 1 ≤ g.days ∧ g.days ≤ 7 ∧ 1 ≤ g.slots ∧ g.slots ≤ 24 ∧ 0 ≤ g.begin_ ∧ g.begin_ < 1440 ∧ 5 ≤ g.mins ∧ g.mins ≤ 120 ∧ g.begin_ + g.slots * g.mins ≤ 1440
noncomputable def gridE (g : Grid) : Int := if pB (gridP g) then 0 else 3
def weekP (g : Grid) (w : Int) : Prop := gridP g ∧ 1 ≤ w ∧ w ≤ 20
def setP (s n : Int) : Prop := 1 ≤ n ∧ n ≤ 20 ∧ 1 ≤ s ∧ s < 2 ^ n.toNat
def soundP (t : Time) : Prop := setP t.weeks 20 ∧ 0 ≤ t.day ∧ t.day < 7 ∧ 0 ≤ t.start ∧ t.start < 24 ∧ 1 ≤ t.len ∧ t.len ≤ 24 - t.start
def fitP (g : Grid) (w : Int) (t : Time) : Prop := soundP t ∧ setP t.weeks w ∧ t.day < g.days ∧ t.start + t.len ≤ g.slots
noncomputable def fitE (g : Grid) (w : Int) (t : Time) : Int := if pB (weekP g w) then (if pB (fitP g w t) then 0 else 14) else 1


theorem c_set (s n : Int) : PCall Tryz.prog 62 [vint .i64 s, vint .i64 n] (fun r => r = vbool (pB (setP s n))) := by
  refine acall_of tok mixed 21 rfl (fn := Tryz.f62) (c := Tryz.f62.body.getD .skip) (by kernel_rfl) (by kernel_rfl) (by kernel_rfl) rfl 0 rfl ?_
  repeat' (first | (refine eqv_shl (by omega) ?_) | refine o1 ?_ | refine o2 ?_ | refine k1 ?_ | refine k2 ?_ | refine k3 ?_ | refine k4 ?_ | refine k6 ?_ | refine k7 ?_ | refine k8 ?_ | refine And.intro ?_ ?_ | exact trivial | refine o3 ?_ | refine o4 ?_ | refine o5 ?_ | refine o6 ?_ | refine k5 ?_ | (intro h; first | exact Bool.noConfusion h | exact nz _ h | exact nl h | (simp at h; done) | (simp at h; first | (exfalso; omega) | skip) | skip) | (change retOk _ _ _ _; refine ret_pure rfl trivial ?_) | exact (rfl : allOne _ = true) | (refine (?_ : (0 : Int) ≤ _); omega) | (refine (?_ : _ ≠ _); omega) | (refine (?_ : srcLen _ = rowsLen _); rfl) | exact Nat.le_of_ble_eq_true rfl | exact (by kernel_rfl : drawOk _ _ = true) | refine eqv_len_map ?_ | refine eqv_size ?_ | refine eqv_put (eqv_ck ?_) | refine eqv_zero ?_ | refine eqv_wrap (by omega) (by omega) ?_ | refine eqv_u64 (by omega) (by omega) ?_ | refine eqv_u8 (by omega) (by omega) ?_ | refine eqv_to _ (set_map rfl rfl) ?_ | refine ⟨_, _, (by first | rfl | assumption), at_map (by assumption), ?_⟩ | refine ⟨_, _, (by first | rfl | assumption), (by assumption), ?_⟩ | refine ⟨_, at_map (by assumption), (by decide), ?_⟩ | refine ⟨_, at_map (by assumption), ?_⟩ | (refine (?_ : _ ≤ 140737488355328); simp [rowsLen] <;> omega) | (refine (?_ : _ ≤ 9223372036854775807); simp [rowsLen] <;> omega) | (refine (?_ : _ = rowsLen _); simp [rowsLen] <;> omega) | refine eqv_to _ (app_row rfl) (eqv_to _ app_len ?_) | refine eqv_to _ (app_first rfl) (eqv_to 1 rfl ?_) | refine idx_sl (at_map (by assumption)) (by omega) ?_ | refine idx_ms _ (by first | rfl | assumption) (by first | assumption | omega) ?_ | fail)
  all_goals first
    | (refine congrArg vbool (pB_f fun h => ?_).symm; obtain ⟨h1, h2, h3, h4⟩ := h; omega)
    | (refine congrArg vbool (pB_eq ?_); simp [setP, *]; done)
theorem c_rset (s n : Int) : PCall Tryz.prog 69 [vint .i64 s, vint .i64 n] (fun r => r = vbool (pB (setP s n))) := by
  refine acall_of tok mixed 22 rfl (fn := Tryz.f69) (c := Tryz.f69.body.getD .skip) (by kernel_rfl) (by kernel_rfl) (by kernel_rfl) rfl 0 rfl ?_
  repeat' (first | (refine eqv_shl (by omega) ?_) | refine o1 ?_ | refine o2 ?_ | refine k1 ?_ | refine k2 ?_ | refine k3 ?_ | refine k4 ?_ | refine k6 ?_ | refine k7 ?_ | refine k8 ?_ | refine And.intro ?_ ?_ | exact trivial | refine o3 ?_ | refine o4 ?_ | refine o5 ?_ | refine o6 ?_ | refine k5 ?_ | (intro h; first | exact Bool.noConfusion h | exact nz _ h | exact nl h | (simp at h; done) | (simp at h; first | (exfalso; omega) | skip) | skip) | (change retOk _ _ _ _; refine ret_pure rfl trivial ?_) | exact (rfl : allOne _ = true) | (refine (?_ : (0 : Int) ≤ _); omega) | (refine (?_ : _ ≠ _); omega) | (refine (?_ : srcLen _ = rowsLen _); rfl) | exact Nat.le_of_ble_eq_true rfl | exact (by kernel_rfl : drawOk _ _ = true) | refine eqv_len_map ?_ | refine eqv_size ?_ | refine eqv_put (eqv_ck ?_) | refine eqv_zero ?_ | refine eqv_wrap (by omega) (by omega) ?_ | refine eqv_u64 (by omega) (by omega) ?_ | refine eqv_u8 (by omega) (by omega) ?_ | refine eqv_to _ (set_map rfl rfl) ?_ | refine ⟨_, _, (by first | rfl | assumption), at_map (by assumption), ?_⟩ | refine ⟨_, _, (by first | rfl | assumption), (by assumption), ?_⟩ | refine ⟨_, at_map (by assumption), (by decide), ?_⟩ | refine ⟨_, at_map (by assumption), ?_⟩ | (refine (?_ : _ ≤ 140737488355328); simp [rowsLen] <;> omega) | (refine (?_ : _ ≤ 9223372036854775807); simp [rowsLen] <;> omega) | (refine (?_ : _ = rowsLen _); simp [rowsLen] <;> omega) | refine eqv_to _ (app_row rfl) (eqv_to _ app_len ?_) | refine eqv_to _ (app_first rfl) (eqv_to 1 rfl ?_) | refine idx_sl (at_map (by assumption)) (by omega) ?_ | refine idx_ms _ (by first | rfl | assumption) (by first | assumption | omega) ?_ | fail)
  all_goals first
    | (refine congrArg vbool (pB_f fun h => ?_).symm; obtain ⟨h1, h2, h3, h4⟩ := h; omega)
    | (refine congrArg vbool (pB_eq ?_); simp [setP, *]; done)

theorem c_sound (t : Time) : PCall Tryz.prog 61 [ag t.row] (fun r => r = vbool (pB (soundP t))) := by
  refine acall_of tok mixed 41 rfl (fn := Tryz.f61) (c := Tryz.f61.body.getD .skip) (by kernel_rfl) (by kernel_rfl) (by kernel_rfl) rfl 0 rfl ?_
  repeat' (first | refine o1 ?_ | refine o2 ?_ | refine k1 ?_ | refine k2 ?_ | refine k3 ?_ | refine k4 ?_ | refine k6 ?_ | refine k7 ?_ | refine k8 ?_ | refine And.intro ?_ ?_ | exact trivial | refine o3 ?_ | refine o4 ?_ | refine o5 ?_ | refine o6 ?_ | refine k5 ?_ | (intro h; first | exact Bool.noConfusion h | exact nz _ h | exact nl h | (simp at h; done) | (simp at h; first | (exfalso; omega) | skip) | skip) | (change retOk _ _ _ _; refine ret_pure rfl trivial ?_) | exact (rfl : allOne _ = true) | (refine (?_ : (0 : Int) ≤ _); omega) | (refine (?_ : _ ≠ _); omega) | (refine (?_ : srcLen _ = rowsLen _); rfl) | exact Nat.le_of_ble_eq_true rfl | exact (by kernel_rfl : drawOk _ _ = true) | refine eqv_len_map ?_ | refine eqv_size ?_ | refine eqv_put (eqv_ck ?_) | refine eqv_zero ?_ | refine eqv_wrap (by omega) (by omega) ?_ | refine eqv_u64 (by omega) (by omega) ?_ | refine eqv_u8 (by omega) (by omega) ?_ | refine eqv_to _ (set_map rfl rfl) ?_ | refine ⟨_, _, (by first | rfl | assumption), at_map (by assumption), ?_⟩ | refine ⟨_, _, (by first | rfl | assumption), (by assumption), ?_⟩ | refine ⟨_, at_map (by assumption), (by decide), ?_⟩ | refine ⟨_, at_map (by assumption), ?_⟩ | (refine (?_ : _ ≤ 140737488355328); simp [rowsLen] <;> omega) | (refine (?_ : _ ≤ 9223372036854775807); simp [rowsLen] <;> omega) | (refine (?_ : _ = rowsLen _); simp [rowsLen] <;> omega) | refine eqv_to _ (app_row rfl) (eqv_to _ app_len ?_) | refine eqv_to _ (app_first rfl) (eqv_to 1 rfl ?_) | refine idx_sl (at_map (by assumption)) (by omega) ?_ | refine idx_ms _ (by first | rfl | assumption) (by first | assumption | omega) ?_ | (change vcFun _ _ _ _ _; refine call_eq rfl (by repeat' (first | trivial | refine And.intro ?_ ?_ | (show 0 + _ ≤ List.length _; simp))) ALeL.refl (c_set t.weeks 20) rfl ?_) | fail)
  all_goals first
    | (refine congrArg vbool (pB_f fun h => ?_).symm; obtain ⟨h1, h2, h3, h4, h5, h6, h7⟩ := h; first | omega | exact absurd h1 (by assumption))
    | (refine congrArg vbool (pB_t ?_).symm; exact ⟨by assumption, by omega, by omega, by omega, by omega, by omega, by omega⟩)
    | (refine congrArg vbool (pB_eq ?_); unfold soundP; simp_all; try omega)
theorem c_rsound (t : Time) : PCall Tryz.prog 68 [ag t.row] (fun r => r = vbool (pB (soundP t))) := by
  refine acall_of tok mixed 44 rfl (fn := Tryz.f68) (c := Tryz.f68.body.getD .skip) (by kernel_rfl) (by kernel_rfl) (by kernel_rfl) rfl 0 rfl ?_
  repeat' (first | refine o1 ?_ | refine o2 ?_ | refine k1 ?_ | refine k2 ?_ | refine k3 ?_ | refine k4 ?_ | refine k6 ?_ | refine k7 ?_ | refine k8 ?_ | refine And.intro ?_ ?_ | exact trivial | refine o3 ?_ | refine o4 ?_ | refine o5 ?_ | refine o6 ?_ | refine k5 ?_ | (intro h; first | exact Bool.noConfusion h | exact nz _ h | exact nl h | (simp at h; done) | (simp at h; first | (exfalso; omega) | skip) | skip) | (change retOk _ _ _ _; refine ret_pure rfl trivial ?_) | exact (rfl : allOne _ = true) | (refine (?_ : (0 : Int) ≤ _); omega) | (refine (?_ : _ ≠ _); omega) | (refine (?_ : srcLen _ = rowsLen _); rfl) | exact Nat.le_of_ble_eq_true rfl | exact (by kernel_rfl : drawOk _ _ = true) | refine eqv_len_map ?_ | refine eqv_size ?_ | refine eqv_put (eqv_ck ?_) | refine eqv_zero ?_ | refine eqv_wrap (by omega) (by omega) ?_ | refine eqv_u64 (by omega) (by omega) ?_ | refine eqv_u8 (by omega) (by omega) ?_ | refine eqv_to _ (set_map rfl rfl) ?_ | refine ⟨_, _, (by first | rfl | assumption), at_map (by assumption), ?_⟩ | refine ⟨_, _, (by first | rfl | assumption), (by assumption), ?_⟩ | refine ⟨_, at_map (by assumption), (by decide), ?_⟩ | refine ⟨_, at_map (by assumption), ?_⟩ | (refine (?_ : _ ≤ 140737488355328); simp [rowsLen] <;> omega) | (refine (?_ : _ ≤ 9223372036854775807); simp [rowsLen] <;> omega) | (refine (?_ : _ = rowsLen _); simp [rowsLen] <;> omega) | refine eqv_to _ (app_row rfl) (eqv_to _ app_len ?_) | refine eqv_to _ (app_first rfl) (eqv_to 1 rfl ?_) | refine idx_sl (at_map (by assumption)) (by omega) ?_ | refine idx_ms _ (by first | rfl | assumption) (by first | assumption | omega) ?_ | (change vcFun _ _ _ _ _; refine call_eq rfl (by repeat' (first | trivial | refine And.intro ?_ ?_ | (show 0 + _ ≤ List.length _; simp))) ALeL.refl (c_rset t.weeks 20) rfl ?_) | fail)
  all_goals first
    | (refine congrArg vbool (pB_f fun h => ?_).symm; obtain ⟨h1, h2, h3, h4, h5, h6, h7⟩ := h; first | omega | exact absurd h1 (by assumption))
    | (refine congrArg vbool (pB_t ?_).symm; exact ⟨by assumption, by omega, by omega, by omega, by omega, by omega, by omega⟩)
    | (refine congrArg vbool (pB_eq ?_); unfold soundP; simp_all; try omega)

end Go.Proofs.YtbcacaodfpgflaaGreatDoor.Cw

/-
  Contracts: comparisons of numbers; sittings.
-/
namespace Go.Proofs.YtbcacaodfpgflaaGreatDoor.Cw
open Go.Cw Go.Proofs
set_option linter.unusedVariables false
set_option maxRecDepth 100000

def cmpI (a b : Int) : Int := if a < b then -1 else if a > b then 1 else 0
def orI : List Int → Int
  | [] => 0
  | x :: l => if x = 0 then orI l else x

theorem orI_at : ∀ {l : List Int} {i : Nat} {x : Int}, (∀ j, j < i → ∀ y, l[j]? = some y → y = 0) → l[i]? = some x → x ≠ 0 → orI l = x
  | [], i, x, _, h, _ => by simp at h
  | y :: l, 0, x, _, h, hx => by simp at h; subst h; simp [orI, hx]
  | y :: l, i + 1, x, h0, h, hx => by
    have := h0 0 (by omega) y rfl
    subst this
    simp only [orI, if_true]
    exact orI_at (i := i) (fun j hj z hz => h0 (j + 1) (by omega) z (by simpa using hz)) (by simpa using h) hx
theorem orI_zero : ∀ {l : List Int}, (∀ j, j < l.length → ∀ y, l[j]? = some y → y = 0) → orI l = 0
  | [], _ => rfl
  | y :: l, h0 => by
    have := h0 0 (by simp) y rfl
    subst this
    simp only [orI, if_true]
    exact orI_zero fun j hj z hz => h0 (j + 1) (by simpa using hj) z (by simpa using hz)

theorem c_isNaN (a : Int) : PCall Tryz.prog 78 [vint .i64 a] (fun r => r = vbool false) := by
  refine acall_of tok mixed 6 rfl (fn := Tryz.f78) (c := Tryz.f78.body.getD .skip) (by kernel_rfl) (by kernel_rfl) (by kernel_rfl) rfl 0 rfl ?_
  repeat' (first | refine o1 ?_ | refine o2 ?_ | refine k1 ?_ | refine k2 ?_ | refine k7 ?_ | (change retOk _ _ _ _; refine ret_pure rfl trivial ?_) | fail)
  exact congrArg vbool (by simp)

theorem c_cmp (a b : Int) : PCall Tryz.prog 65 [vint .i64 a, vint .i64 b] (fun r => r = vint .i64 (cmpI a b)) := by
  refine acall_of tok mixed 20 rfl (fn := Tryz.f65) (c := Tryz.f65.body.getD .skip) (by kernel_rfl) (by kernel_rfl) (by kernel_rfl) rfl 0 rfl ?_
  repeat' (first | refine o1 ?_ | refine o2 ?_ | refine k1 ?_ | refine k2 ?_ | refine k3 ?_ | refine k6 ?_ | refine k7 ?_ | refine And.intro ?_ ?_ | (intro h; first | exact Bool.noConfusion h | exact nz _ h | exact nl h | (simp at h; done) | (simp at h; first | (exfalso; omega) | skip) | skip) | (change retOk _ _ _ _; refine ret_pure rfl trivial ?_) | (change vcFun _ _ _ _ _; refine call_eq rfl (by repeat' (first | trivial | refine And.intro ?_ ?_ | (show 0 + _ ≤ List.length _; simp))) ALeL.refl (c_isNaN _) rfl ?_) | fail)
  all_goals exact congrArg (vint .i64) (by unfold cmpI; split <;> first | omega | (split <;> omega))

theorem c_or (l : List Int) (hl : l.length ≤ 1000) : PCall Tryz.prog 63 [.pv (encInts l)] (fun r => r = vint .i64 (orI l)) := by
  refine acall_of tok mixed 18 rfl (fn := Tryz.f63) (c := Tryz.f63.body.getD .skip) (by kernel_rfl) (by kernel_rfl) (by kernel_rfl) rfl 0 rfl ?_
  repeat' (first | refine o1 ?_ | refine o2 ?_ | refine k1 ?_ | refine k2 ?_ | refine k4 ?_ | refine eqv_len_map ?_ | fail)
  refine loop_at (fun i : Nat => [(8, vint .i64 i)]) (fun _ => []) (fun i => i ≤ l.length ∧ ∀ j, j < i → ∀ y, l[j]? = some y → y = 0) (fun i => l.length - i) 0 ⟨by omega, fun j hj => by omega⟩ (by repeat' (first | exact trivial | exact ⟨_, rfl, ALe.refl⟩ | refine And.intro ?_ ?_)) (by repeat' (first | exact trivial)) ?_
  intro i ⟨hi, hall⟩
  rcases Nat.lt_or_ge i l.length with hlt | hge
  · obtain ⟨x, hx⟩ := getE hlt
    repeat' (first | refine o1 ?_ | refine o2 ?_ | refine k1 ?_ | refine k2 ?_ | refine k3 ?_ | refine k4 ?_ | refine k6 ?_ | refine k7 ?_ | refine And.intro ?_ ?_ | (intro h; first | exact Bool.noConfusion h | exact nz _ h | exact nl h | (simp at h; done) | (simp at h; first | (exfalso; omega) | skip) | skip) | (change retOk _ _ _ _; refine ret_pure rfl trivial ?_) | refine eqv_wrap (by omega) (by omega) ?_ | refine ⟨_, _, (by first | rfl | assumption), at_map (by assumption), ?_⟩ | fail)
    all_goals first
      | exact ⟨i + 1, ⟨by omega, all_lt_succ hall fun y hy => by rw [hx] at hy; cases hy; assumption⟩, by omega, back [] rfl rfl trivial (by repeat' (first | exact trivial | exact rfl | refine And.intro ?_ ?_))⟩
      | exact congrArg (vint .i64) (orI_at hall hx (by assumption)).symm
  · repeat' (first | refine o1 ?_ | refine o2 ?_ | refine k1 ?_ | refine k2 ?_ | refine k3 ?_ | refine k7 ?_ | refine k8 ?_ | refine And.intro ?_ ?_ | (intro h; first | exact Bool.noConfusion h | exact nz _ h | exact nl h | (simp at h; done) | (simp at h; first | (exfalso; omega) | skip) | skip) | (change retOk _ _ _ _; refine ret_pure rfl trivial ?_) | fail)
    exact congrArg (vint .i64) (orI_zero fun j hj => hall j (by omega)).symm
end Go.Proofs.YtbcacaodfpgflaaGreatDoor.Cw

/-
  Slices that grow; results that are read.
-/
namespace Go.Proofs.YtbcacaodfpgflaaGreatDoor.Cw
open Go.Cw Go.Proofs
set_option linter.unusedVariables false
def nilA : AV := .pv (.val (.slice none 0 0))
/-- A slice of pure rows that grows by append: nil, or the whole of an object. -/
def slP (id z : Nat) : List (List PV) → AV
  | [] => nilA
  | r :: l => .ms id z 0 (r :: l).length
def obP (ty z : Nat) : List (List PV) → Option AObj
  | [] => none
  | r :: l => some ⟨ty, z, false, .p (r :: l)⟩
/-- ALe, not looked into. -/
structure Leq (r x : AV) : Prop where
  le : ALe r x
end Go.Proofs.YtbcacaodfpgflaaGreatDoor.Cw

/-
  Slices that grow by append, nil or not: they need no cases.
-/
namespace Go.Proofs.YtbcacaodfpgflaaGreatDoor.Cw
open Go Go.Cw Go.Proofs
set_option linter.unusedVariables false
theorem map_snoc {α β : Type} {f : α → β} {l : List α} {x : α} : (l ++ [x]).map f = l.map f ++ [f x] := by simp
section
variable {P : Program} {T : Tab} {id z ty : Nat} {rows : List (List PV)} {r : List PV}
theorem fv_sl {K : AV → Prop} (h : K (slP id z rows)) : forceV (slP id z rows) K := by
  cases rows <;> exact h
theorem fh_ob {l : Heap} {K : Heap → Prop} (h : forceH l fun l' => K (obP ty z rows :: l')) : forceH (obP ty z rows :: l) K := by
  rw [forceH_eq] at *
  exact h
theorem knOut_mono : ∀ (dc : Known) {d : Nat} (A B : Known → Prop), (∀ d2, A d2 → B d2) → knOut dc d A → knOut dc d B
  | [], d, A, B, hab, ha => hab _ ha
  | (k, bb) :: dc, d, A, B, hab, ha => by
    simp only [knOut] at ha ⊢
    split
    · rename_i hk; rw [hk] at ha; exact knOut_mono dc A B hab ha
    · rename_i hk; rw [hk] at ha; exact knOut_mono dc _ _ (fun d2 h2 => hab _ h2) ha
theorem sl_app (a : List (List PV)) (x : List PV) : slP id z (a ++ [x]) = .ms id z 0 (a.length + 1) := by
  cases a with
  | nil => rfl
  | cons b l => simp [slP]
theorem ob_app (a : List (List PV)) (x : List PV) : obP ty z (a ++ [x]) = some ⟨ty, z, false, .p (a ++ [x])⟩ := by
  cases a <;> rfl
theorem app_none {H : Heap} {i site : Nat} {o : Option AObj} (h : H[i]? = some none) : app H [(i, none), (site, o)] = app H [(site, o)] := by
  have : H.set i none = H := by
    apply List.ext_getElem?
    intro k
    rw [List.getElem?_set]
    by_cases e : i = k
    · subst e
      obtain ⟨h1, h2⟩ := List.getElem?_eq_some_iff.1 h
      rw [if_pos rfl, if_pos h1, h]
    · simp [e]
  simp only [app, this]
/-- One row is appended. -/
theorem st_app {site idx b size bytes : Nat} {agg eagg fz : Bool} {zero ezero : List PV} {etk : TK} {s x : Operand} {t : TypeId} {d : Tmp} {Γ : Slots} {H : Heap} {K : Slots → Heap → Prop} (hs : ev Γ s = some (slP id z rows)) (hx : ev Γ x = some (.ms idx z 0 1)) (hl : Cw.look T t = some ⟨size, bytes, agg, .slice ty, zero⟩) (he : Cw.look T ty = some ⟨z, b, eagg, etk, ezero⟩) (hz : Nat.blt 0 z = true)
    (hi : H[idx]? = some (some ⟨ty, z, fz, .p [r]⟩)) (ho : H[id]? = some (obP ty z rows)) (hb : (rows.length + 1) * b ≤ 140737488355328) (hn : rows.length + 1 ≤ 9223372036854775807)
    (h : forceH (app H [(id, none), (site, some ⟨ty, z, false, .p (rows ++ [r])⟩)]) fun H2 => K ((d, .ms site z 0 (rows.length + 1)) :: Γ) H2) :
    vcStep P T site (some d) (.call { callee := .builtin .append, args := #[s, x], argTypes := #[t, t] }) Γ H K := by
  have hbq : Nat.beq t t = true := Nat.beq_refl t
  have hzz : Nat.beq z z = true := Nat.beq_refl z
  have hty : Nat.beq ty ty = true := Nat.beq_refl ty
  rw [forceH_eq] at h
  cases rows with
  | nil =>
    rw [app_none ho] at h
    simp only [vcStep, vcOp, hbq, hs, hx, vcAppend, hl, he, srcOk, hzz, hz, srcRows, hi, Bool.and_self, Bool.true_and, slP, nilA, eqv_eq, putK, forceV, appK, forceH_eq]
    refine ⟨rfl, by simpa [rowsLen] using hb, by simp [rowsLen], fun _ => ?_, fun e => by simp [rowsLen] at e⟩
    exact h
  | cons a l =>
    simp only [vcStep, vcOp, hbq, hs, hx, vcAppend, hl, he, srcOk, hzz, hz, srcRows, hi, ho, obP, Bool.and_self, Bool.true_and, slP, eqv_eq, putK, forceV, appK, forceH_eq, Bool.not_false, hty, dropR, catRows, List.drop_zero]
    refine ⟨by simp [rowsLen], rfl, by simpa [rowsLen] using hb, by simpa [rowsLen] using hn, ?_⟩
    have e : rowsLen (.p (a :: l ++ List.take 1 [r])) = (a :: l).length + 1 := by simp [rowsLen]
    rw [e]
    exact h
/-- The operation that appends one row. -/
theorem o_app {n site idx b size bytes : Nat} {agg eagg fz : Bool} {zero ezero : List PV} {etk : TK} {s x : Operand} {t : TypeId} {d : Tmp} {Γ : Slots} {H : Heap} {K : Slots → Heap → Prop} {o : Oper} {all l : List Oper} {dc : Known}
    (hop : o.op = .call { callee := .builtin .append, args := #[s, x], argTypes := #[t, t] }) (hg : o.guard = none) (hd : o.dst = some d) (hdn : Nat.blt d n = true) (hs : ev Γ s = some (slP id z rows)) (hx : ev Γ x = some (.ms idx z 0 1)) (hl : Cw.look T t = some ⟨size, bytes, agg, .slice ty, zero⟩) (he : Cw.look T ty = some ⟨z, b, eagg, etk, ezero⟩) (hz : Nat.blt 0 z = true)
    (hi : H[idx]? = some (some ⟨ty, z, fz, .p [r]⟩)) (ho : H[id]? = some (obP ty z rows)) (hb : (rows.length + 1) * b ≤ 140737488355328) (hn : rows.length + 1 ≤ 9223372036854775807)
    (h : knOut dc d fun d2 => forceH (app H [(id, none), (site, some ⟨ty, z, false, .p (rows ++ [r])⟩)]) fun H2 => xOps P T n all l (site + 1) K d2 ((d, .ms site z 0 (rows.length + 1)) :: Γ) H2) :
    xOps P T n all (o :: l) site K dc Γ H := by
  refine ops_cons ?_
  have e1 : dstOk n o = true := by unfold dstOk; rw [hd]; exact hdn
  have e2 : isAlloc o.op = true := by rw [hop]; rfl
  rw [e1, e2]
  show vcGuard all Γ dc o.guard _ _
  rw [hg]
  simp only [vcGuard, knPut, hd, hop, knRes, simpOp]
  have key : ∀ d2, (forceH (app H [(id, none), (site, some ⟨ty, z, false, .p (rows ++ [r])⟩)]) fun H2 => xOps P T n all l (site + 1) K d2 ((d, .ms site z 0 (rows.length + 1)) :: Γ) H2) → vcStep P T site (some d) (.call { callee := .builtin .append, args := #[s, x], argTypes := #[t, t] }) Γ H (xOps P T n all l (site + 1) K d2) := fun d2 hh =>
    st_app hs hx hl he hz hi ho hb hn hh
  have mono : ∀ (dc : Known) (A B : Known → Prop), (∀ d2, A d2 → B d2) → knOut dc d A → knOut dc d B := by
    intro dc
    induction dc with
    | nil => intro A B hab ha; exact hab _ ha
    | cons q dc ih =>
      obtain ⟨k, bb⟩ := q
      intro A B hab ha
      simp only [knOut] at ha ⊢
      split
      · rename_i hk; rw [hk] at ha; exact ih A B hab ha
      · rename_i hk; rw [hk] at ha; exact ih _ _ (fun d2 h2 => hab _ h2) ha
  exact mono dc _ _ key h
theorem st_appD {site idx b size bytes : Nat} {agg eagg fz : Bool} {zero ezero : List PV} {etk : TK} {s x : Operand} {t : TypeId} {d : Tmp} {Γ : Slots} {H : Heap} {K : Slots → Heap → List Nat × List Nat → Prop} (hs : ev Γ s = some (slP id z rows)) (hx : ev Γ x = some (.ms idx z 0 1)) (hl : Cw.look T t = some ⟨size, bytes, agg, .slice ty, zero⟩) (he : Cw.look T ty = some ⟨z, b, eagg, etk, ezero⟩) (hz : Nat.blt 0 z = true)
    (hi : H[idx]? = some (some ⟨ty, z, fz, .p [r]⟩)) (ho : H[id]? = some (obP ty z rows)) (hb : (rows.length + 1) * b ≤ 140737488355328) (hn : rows.length + 1 ≤ 9223372036854775807)
    (h : (forceH (app H [(id, none), (site, some ⟨ty, z, false, .p (rows ++ [r])⟩)]) fun H2 => K ((d, .ms site z 0 (rows.length + 1)) :: Γ) H2 ([idx], [site])) ∧ forceH (app H [(id, none), (site, some ⟨ty, z, false, .p (rows ++ [r])⟩)]) fun H2 => K ((d, .ms site z 0 (rows.length + 1)) :: Γ) H2 ([id, idx], [id, site])) :
    vcStepD P T site (some d) (.call { callee := .builtin .append, args := #[s, x], argTypes := #[t, t] }) Γ H K := by
  have hbq : Nat.beq t t = true := Nat.beq_refl t
  have hzz : Nat.beq z z = true := Nat.beq_refl z
  have hty : Nat.beq ty ty = true := Nat.beq_refl ty
  simp only [forceH_eq] at h
  obtain ⟨h1, h2⟩ := h
  cases rows with
  | nil =>
    rw [app_none ho] at h1
    simp only [vcStepD, vcOp, hbq, hs, hx, vcAppend, hl, he, srcOk, hzz, hz, srcRows, hi, Bool.and_self, Bool.true_and, slP, nilA, eqv_eq, putK, forceV, appK, forceH_eq]
    refine ⟨rfl, by simpa [rowsLen] using hb, by simp [rowsLen], fun _ => ?_, fun e => by simp [rowsLen] at e⟩
    exact h1
  | cons a l =>
    simp only [vcStepD, vcOp, hbq, hs, hx, vcAppend, hl, he, srcOk, hzz, hz, srcRows, hi, ho, obP, Bool.and_self, Bool.true_and, slP, eqv_eq, putK, forceV, appK, forceH_eq, Bool.not_false, hty, dropR, catRows, List.drop_zero]
    refine ⟨by simp [rowsLen], rfl, by simpa [rowsLen] using hb, by simpa [rowsLen] using hn, ?_⟩
    have e : rowsLen (.p (a :: l ++ List.take 1 [r])) = (a :: l).length + 1 := by simp [rowsLen]
    rw [e]
    exact h2
/-- The same in a statement that draws its order. -/
theorem o_appD {n site idx b size bytes : Nat} {agg eagg fz : Bool} {zero ezero : List PV} {etk : TK} {s x : Operand} {t : TypeId} {d : Tmp} {Γ : Slots} {H : Heap} {KD : List (List Nat × List Nat) → Slots → Heap → Prop} {fs : List (List Nat × List Nat)} {o : Oper} {all l : List Oper} {dc : Known}
    (hop : o.op = .call { callee := .builtin .append, args := #[s, x], argTypes := #[t, t] }) (hg : o.guard = none) (hd : o.dst = some d) (hdn : Nat.blt d n = true) (hs : ev Γ s = some (slP id z rows)) (hx : ev Γ x = some (.ms idx z 0 1)) (hl : Cw.look T t = some ⟨size, bytes, agg, .slice ty, zero⟩) (he : Cw.look T ty = some ⟨z, b, eagg, etk, ezero⟩) (hz : Nat.blt 0 z = true)
    (hi : H[idx]? = some (some ⟨ty, z, fz, .p [r]⟩)) (ho : H[id]? = some (obP ty z rows)) (hb : (rows.length + 1) * b ≤ 140737488355328) (hn : rows.length + 1 ≤ 9223372036854775807)
    (h : knOut dc d fun d2 => (forceH (app H [(id, none), (site, some ⟨ty, z, false, .p (rows ++ [r])⟩)]) fun H2 => xOpsD P T n all l (site + 1) KD (([idx], [site]) :: fs) d2 ((d, .ms site z 0 (rows.length + 1)) :: Γ) H2) ∧ forceH (app H [(id, none), (site, some ⟨ty, z, false, .p (rows ++ [r])⟩)]) fun H2 => xOpsD P T n all l (site + 1) KD (([id, idx], [id, site]) :: fs) d2 ((d, .ms site z 0 (rows.length + 1)) :: Γ) H2) :
    xOpsD P T n all (o :: l) site KD fs dc Γ H := by
  refine opsD_cons ?_
  have e1 : dstOk n o = true := by unfold dstOk; rw [hd]; exact hdn
  have e2 : isAlloc o.op = true := by rw [hop]; rfl
  rw [e1, e2]
  show vcGuard all Γ dc o.guard _ _
  rw [hg]
  simp only [vcGuard, knPut, hd, hop, knRes, simpOp]
  exact knOut_mono dc _ _ (fun d2 hh => st_appD hs hx hl he hz hi ho hb hn hh) h
theorem ren_sl {d : Nat} {rn : List Nat} : renC d rn (slP id z rows) = slP (rn.getD id d) z rows := by
  cases rows <;> simp [slP, nilA, renC]
theorem ren_get {d : Nat} {rn : List Nat} {Γ : Slots} {s : Nat} (h : get Γ s = some (slP (rn.getD id d) z rows)) : get Γ s = some (renC d rn (slP id z rows)) := by rw [ren_sl]; exact h
theorem kept_ob {H Hc : Heap} {d i : Nat} {rn l : List Nat} (h : H[i]? = some (obP ty z rows)) (hk : kept H d rn l Hc) : kept H d rn (i :: l) (obP ty z rows :: Hc) := by
  cases rows with
  | nil => exact hk
  | cons a l' => exact ⟨h, hk⟩
/-- A loop of which only the named slots are kept. -/
theorem loop_for {n nh : Nat} {a : Code} {Q : Exit → Slots → Heap → Prop} {Γ : Slots} {H : Heap} {X : Type} (g : X → Slots) (hp : X → Heap) (cond : X → Prop) (μ : X → Nat) (x0 : X) (h0 : cond x0) (he : Ghost n nh Γ H (g x0) (hp x0))
    (hb : ∀ x, cond x → forceH (hp x) fun H1 => xCode P T n nh a (thenQ (fun Γ' H' => ∃ x', cond x' ∧ μ x' < μ x ∧ Ghost n nh Γ' H' (g x') (hp x')) Q) (g x) H1) : xCode P T n nh (.loop a) Q Γ H := by
  refine code_loop (fun x => ⟨g x, hp x⟩) cond μ ⟨x0, h0, he⟩ fun x hx => ?_
  have := hb x hx
  rw [forceH_eq] at this
  exact this
/-- What a slice that grows hands back. -/
theorem conv_sl {H : Heap} (ho : H[id]? = some (obP ty z rows)) : ∃ r0, conv H (slP id z rows) = some r0 ∧ ok1 H (slP id z rows) ∧ ALe r0 (.pv (.sl z rows)) := by
  cases rows with
  | nil => exact ⟨_, rfl, trivial, ALe.pv PLe.nil⟩
  | cons a l =>
    refine ⟨.pv (.sl z (a :: l)), ?_, ?_, ALe.refl⟩
    · simp only [slP, conv, conv1, convC, ho, obP]
      simp
    · simp only [slP, ok1, ok0, okC, ho, obP]
      simp
/-- A slice in a slot that grows no more. -/
theorem ids_sl {H : Heap} (ho : H[id]? = some (obP ty z rows)) : ∀ i : Nat, i ≠ id → (app H (frz H (ids1 H (slP id z rows))))[i]? = H[i]? := fun i hne => by
  cases rows with
  | nil => rfl
  | cons a l =>
    have hi : ids1 H (slP id z (a :: l)) = [id] := by
      show idsC H 5 (.ms id z 0 (a :: l).length) = _
      simp only [idsC, ho, obP]; rfl
    rw [hi]
    simp only [frz, ho, obP, app]
    rw [List.getElem?_set, if_neg (fun e => hne e.symm)]
theorem subH_refl : ∀ H : Heap, subH H H
  | [] => trivial
  | none :: l => subH_refl l
  | some o :: l => ⟨rfl, subH_refl l⟩
theorem Ghost.sl {n nh s : Nat} {Γ Γ2 : Slots} {H H2 : Heap} (h : get Γ s = some (slP id z rows)) (ho : H[id]? = some (obP ty z rows))
    (k : ∀ H' : Heap, H'.length = H.length → (∀ i : Nat, i ≠ id → H'[i]? = H[i]?) → Ghost n nh ((s, .pv (.sl z rows)) :: Γ) H' Γ2 H2) : Ghost n nh Γ H Γ2 H2 := by
  obtain ⟨r0, h1, h2, h3⟩ := conv_sl ho
  have g1 := Ghost.freeze (n := n) (nh := nh) h h1 h2
  have g2 := Ghost.weak (n := n) (nh := nh) (Γ := (s, r0) :: Γ) (H := app H (frz H (ids1 H (slP id z rows)))) (s := s) (x := r0) (y := .pv (.sl z rows)) (by rw [get_cons, if_pos rfl]) h3
  have g3 : Ghost n nh ((s, .pv (.sl z rows)) :: (s, r0) :: Γ) (app H (frz H (ids1 H (slP id z rows)))) ((s, .pv (.sl z rows)) :: Γ) (app H (frz H (ids1 H (slP id z rows)))) := Ghost.le (fun t y hy => by
    rw [get_cons] at hy
    split at hy
    · rename_i e
      exact ⟨y, by rw [get_cons, if_pos e]; exact hy, ALe.refl⟩
    · rename_i e
      exact ⟨y, by rw [get_cons, if_neg e, get_cons, if_neg e]; exact hy, ALe.refl⟩) (subH_refl _)
  exact ((g1.trans g2).trans g3).trans (k _ (by rw [app_length]) (ids_sl ho))
theorem ret_sl {H : Heap} {Post : AV → Prop} (ho : H[id]? = some (obP ty z rows)) (h : Post (.pv (.sl z rows))) (hp : ∀ r r', ALe r r' → Post r' → Post r) : retOk 0 (slP id z rows) H (fun r H' => H' = [] ∧ Post r) := by
  obtain ⟨r0, h1, h2, h3⟩ := conv_sl ho
  exact ret_pure h1 h2 (hp _ _ h3 h)
/-- The same beside a plain value. -/
theorem ret_sl2 {H : Heap} {q : PV} {x : AV} (ho : H[id]? = some (obP ty z rows)) (h : x = .tup [.pv (.sl z rows), .pv q]) : retOk 0 (.tup [slP id z rows, .pv q]) H (fun r H' => H' = [] ∧ Leq r x) := by
  subst h
  cases rows with
  | nil => exact ret_pure (r0 := .tup [.pv (.val (.slice none 0 0)), .pv q]) rfl (by repeat' (first | exact trivial)) ⟨ALe.tup ⟨ALe.pv PLe.nil, ALe.refl, trivial⟩⟩
  | cons a l =>
    refine ret_pure (r0 := .tup [.pv (.sl z (a :: l)), .pv q]) ?_ ?_ ⟨ALe.refl⟩
    · simp only [slP, conv, mapO, conv1, convC, ho, obP]
      simp
    · simp only [slP, ok1, andL, ok0, okC, ho, obP]
      simp
theorem leq_down {x : AV} : ∀ r r', ALe r r' → Leq r' x → Leq r x := fun r r' h k => ⟨fun I β w v hv => k.le I β w v (h I β w v hv)⟩
end
end Go.Proofs.YtbcacaodfpgflaaGreatDoor.Cw

/-
  Chapter 34: sessions and changes; which lists are valid, and their normal form.
-/
namespace Go.Proofs.YtbcacaodfpgflaaGreatDoor.Cw
open Go Go.Cw Go.Proofs
set_option linter.unusedVariables false

structure Sess where
  cls : Str
  time : Time
  room : Str
def Sess.row (s : Sess) : List PV := [es s.cls, ei s.time.weeks, ei s.time.day, ei s.time.start, ei s.time.len, es s.room]
structure Chg where
  cls : Str
  bef : List Sess
  aft : List Sess
def encSess (l : List Sess) : PV := .sl 6 (l.map Sess.row)
def Chg.row (c : Chg) : List PV := [es c.cls, encSess c.bef, encSess c.aft]
def encChgs (l : List Chg) : PV := .sl 3 (l.map Chg.row)
def emp : Str := ⟨#[]⟩
def zeroS : Sess := ⟨emp, ⟨0, 0, 0, 0⟩, emp⟩
theorem sess_eq {a b : Sess} (h1 : a.cls = b.cls) (h2 : a.time.weeks = b.time.weeks) (h3 : a.time.day = b.time.day) (h4 : a.time.start = b.time.start) (h5 : a.time.len = b.time.len) (h6 : a.room = b.room) : a = b := by
  obtain ⟨c, ⟨w, d, s, l⟩, r⟩ := a
  obtain ⟨c2, ⟨w2, d2, s2, l2⟩, r2⟩ := b
  simp only at h1 h2 h3 h4 h5 h6
  subst h1; subst h2; subst h3; subst h4; subst h5; subst h6; rfl

def timeP (s : Sess) (w : Int) : Prop := soundP s.time ∧ setP s.time.weeks w
def roomQ (s : Sess) : Prop := s.room = emp ∨ codeP s.room
noncomputable def sessE (s : Sess) (w : Int) : Int := if pB (codeP s.cls) then (if pB (timeP s w) then (if pB (roomQ s) then 0 else 10) else 14) else 10
/-- The number of the least week, less one. -/
def lowI (x : Int) : Nat := Go.Lib.ctz 64 x.toNat
def befP (a b : Sess) : Prop := sLt a.cls b.cls = true ∨ (a.cls = b.cls ∧ lowI a.time.weeks < lowI b.time.weeks)
def alikeP (a b : Sess) : Prop := a.cls = b.cls ∧ a.time.day = b.time.day ∧ a.time.start = b.time.start ∧ a.time.len = b.time.len ∧ a.room = b.room
def meetP34 (a b : Sess) : Prop := a.cls = b.cls ∧ bits .and .i64 a.time.weeks b.time.weeks ≠ 0
noncomputable def sessAt (l : List Sess) (w : Int) (i : Nat) : Int := match l[i]? with
  | some s => sessE s w
  | none => 0
def risesP (l : List Sess) : Prop := ∀ (i : Nat) (a b : Sess), l[i]? = some a → l[i + 1]? = some b → befP a b
def clashP (a b : Sess) : Prop := meetP34 a b ∨ alikeP a b
def apartQ (p : Sess → Sess → Prop) (l : List Sess) : Prop := ∀ (i k : Nat) (a b : Sess), k < i → l[i]? = some a → l[k]? = some b → ¬ p a b
noncomputable def singE (l : List Sess) (w : Int) : Int := firstE (sessAt l w) l.length
noncomputable def validE (l : List Sess) (w : Int) : Int :=
  if w < 1 ∨ 20 < w then 3 else if 96 < l.length then 2 else if singE l w ≠ 0 then singE l w else if pB (risesP l) then (if pB (apartQ clashP l) then 0 else 11) else 63

def orW (t s : Sess) : Sess := ⟨t.cls, ⟨bits .or .i64 t.time.weeks s.time.weeks, t.time.day, t.time.start, t.time.len⟩, t.room⟩
noncomputable def joinOne : List Sess → Sess → List Sess
  | [], s => [s]
  | t :: l, s => if pB (alikeP t s) then orW t s :: l else t :: joinOne l s
noncomputable def joinedV (l : List Sess) : List Sess := l.foldl joinOne []
noncomputable def insK (x : Sess) (out : List Sess) : Nat → Nat
  | 0 => 0
  | k + 1 => if pB (∃ y, out[k]? = some y ∧ befP x y) then insK x out k else k + 1
noncomputable def insV (out : List Sess) (x : Sess) : List Sess := out.take (insK x out out.length) ++ [x] ++ out.drop (insK x out out.length)
noncomputable def ordV (l : List Sess) : List Sess := l.foldl insV []
noncomputable def normE (l : List Sess) (w : Int) : Int :=
  if w < 1 ∨ 20 < w then 3 else if singE l w ≠ 0 then singE l w else if pB (apartQ meetP34 (joinedV l)) then (if 96 < (joinedV l).length then 2 else 0) else 11
noncomputable def normV (l : List Sess) (w : Int) : List Sess := if normE l w = 0 then ordV (joinedV l) else []
def bitB (x : Int) (i : Nat) : Bool := bits .and .i64 (x.fdiv (2 ^ i)) 1 == 1
noncomputable def atO (l : List Sess) (c : Str) (w : Int) : Option Sess := if 1 ≤ w ∧ w ≤ 20 then l.find? fun s => pB (s.cls = c ∧ bitB s.time.weeks (w - 1).toNat = true) else none

end Go.Proofs.YtbcacaodfpgflaaGreatDoor.Cw

/-
  Contracts: the least week of a session; the order of sessions.
-/
namespace Go.Proofs.YtbcacaodfpgflaaGreatDoor.Cw
open Go Go.Cw Go.Proofs
set_option linter.unusedVariables false
set_option maxRecDepth 100000
set_option maxHeartbeats 4000000

theorem tz_key (x a : Nat) (hx : x < 18446744073709551616) (hx0 : x ≠ 0) (hlow : x &&& (18446744073709551616 - x) = a) :
    (IntKind.u64.wrap (bits BinOp.and IntKind.u64 (x : Int) (IntKind.u64.wrap (0 - (x : Int))) * 285870213051353865)) = ((a * 285870213051353865 % 18446744073709551616 : Nat) : Int) := by
  have e0 : ∀ n : Int, IntKind.u64.wrap n = n % 18446744073709551616 := fun n => by simp [IntKind.wrap, IntKind.signed, IntKind.bits]
  have e1 : IntKind.u64.wrap (0 - (x : Int)) = ((18446744073709551616 - x : Nat) : Int) := by rw [e0]; omega
  rw [e1, bits_and_u64_nat x _ hx (by omega), hlow, e0]
  omega
theorem lt64 {x : Nat} (hn : x < 2 ^ 20) : x < 18446744073709551616 := by omega
theorem low64 {x : Nat} (h0 : x ≠ 0) (hn : x < 18446744073709551616) : x &&& (18446744073709551616 - x) = 2 ^ Go.Lib.ctz 64 x ∧ Go.Lib.ctz 64 x < 64 := Go.Lib.lowest_bit 64 x h0 hn
theorem lowI_nat {x : Nat} : lowI (x : Int) = Go.Lib.ctz 64 x := by unfold lowI; rw [Int.toNat_natCast]
theorem shr58 : (2 : Int) ^ min (58 : Int).toNat IntKind.u64.bits = ((288230376151711744 : Nat) : Int) := by decide
theorem tab_at {m k : Nat} (hi : m < 64) (htab : Go.Lib.deBruijn64tab.getD m 0 = k) : Go.Lib.deBruijn64tab[m]? = some k := by
  have h1 : Go.Lib.deBruijn64tab[m]? = some (Go.Lib.deBruijn64tab.getD m 0) := by
    rw [List.getD_eq_getElem?_getD, List.getElem?_eq_getElem (show _ < Go.Lib.deBruijn64tab.length from hi)]; rfl
  rw [htab] at h1
  exact h1
theorem tz_at {x : Nat} (h0 : x ≠ 0) (hn : x < 2 ^ 20) : ∃ i, i < 64 ∧ (IntKind.u64.wrap (bits BinOp.and IntKind.u64 (x : Int) (IntKind.u64.wrap (0 - (x : Int))) * 285870213051353865)).fdiv (2 ^ min (58 : Int).toNat IntKind.u64.bits) = ((i : Nat) : Int) ∧ Go.Lib.deBruijn64tab[i]? = some (lowI (x : Int)) ∧ lowI (x : Int) < 64 := by
  obtain ⟨hlow, hk⟩ := low64 h0 (lt64 hn)
  obtain ⟨hi, htab⟩ := Go.Lib.deBruijn64_at _ hk
  rw [lowI_nat]
  refine ⟨_, hi, ?_, tab_at hi htab, hk⟩
  rw [tz_key x _ (lt64 hn) h0 hlow, shr58, Int.fdiv_eq_ediv_of_nonneg _ (Int.natCast_nonneg _), ← Int.natCast_ediv]
def tabC : List PV := Go.Lib.deBruijn64tab.map fun n : Nat => .val (.int .u8 (n : Int))
theorem take_tab {i k : Nat} {K : AV → Prop} (h : Go.Lib.deBruijn64tab[i]? = some k) (hK : K (vint .u8 k)) : vcTake 1 false (pvs (List.drop (i * 1) tabC)) K := by
  have h2 : tabC[i]? = some (.val (.int .u8 k)) := by unfold tabC; rw [List.getElem?_map, h]; rfl
  obtain ⟨h3, h4⟩ := List.getElem?_eq_some_iff.1 h2
  rw [Nat.mul_one, List.drop_eq_getElem_cons h3, h4]
  exact hK
theorem c_tz64 (n : Nat) (h0 : n ≠ 0) (hn : n < 2 ^ 20) : PCall Tryz.prog 80 [vint .u64 n] (fun r => r = vint .i64 (lowI n)) := by
  obtain ⟨i, hi, e1, e2, e3⟩ := tz_at h0 hn
  refine acall_of tok mixed 14 rfl (fn := Tryz.f80) (c := Tryz.f80.body.getD .skip) (by kernel_rfl) (by kernel_rfl) (by kernel_rfl) rfl 0 rfl ?_
  repeat' (first | (refine (eqv_rfl ?_ : eqv (IntKind.u64.wrap _) _)) | (refine (eqv_rfl ?_ : eqv (bits _ _ _ _) _)) | (refine eqv_to _ e1 ?_) | (refine ⟨i, rfl, hi, (show i * 1 ≤ tabC.length by show i * 1 ≤ 64; omega), ?_⟩) | (refine take_tab e2 ?_) | refine o1 ?_ | refine o2 ?_ | refine k1 ?_ | refine k2 ?_ | refine k3 ?_ | refine k4 ?_ | refine k6 ?_ | refine k7 ?_ | refine k8 ?_ | refine And.intro ?_ ?_ | exact trivial | refine o3 ?_ | refine o4 ?_ | refine o5 ?_ | refine o6 ?_ | refine k5 ?_ | (intro h; first | exact Bool.noConfusion h | exact nz _ h | exact nl h | (simp at h; done) | (simp at h; first | (exfalso; omega) | skip) | skip) | (change retOk _ _ _ _; refine ret_pure rfl trivial ?_) | exact (rfl : allOne _ = true) | (refine (?_ : (0 : Int) ≤ _); omega) | (refine (?_ : _ ≠ _); omega) | (refine (?_ : srcLen _ = rowsLen _); rfl) | exact Nat.le_of_ble_eq_true rfl | exact (by kernel_rfl : drawOk _ _ = true) | refine eqv_len_map ?_ | refine eqv_size ?_ | refine eqv_put (eqv_ck ?_) | refine eqv_zero ?_ | refine eqv_wrap (by omega) (by omega) ?_ | refine eqv_u64 (by omega) (by omega) ?_ | refine eqv_u8 (by omega) (by omega) ?_ | refine eqv_to _ (set_map rfl rfl) ?_ | refine ⟨_, _, (by first | rfl | assumption), at_map (by assumption), ?_⟩ | refine ⟨_, _, (by first | rfl | assumption), (by assumption), ?_⟩ | refine ⟨_, at_map (by assumption), (by decide), ?_⟩ | refine ⟨_, at_map (by assumption), ?_⟩ | (refine (?_ : _ ≤ 140737488355328); simp [rowsLen] <;> omega) | (refine (?_ : _ ≤ 9223372036854775807); simp [rowsLen] <;> omega) | (refine (?_ : _ = rowsLen _); simp [rowsLen] <;> omega) | refine eqv_to _ (app_row rfl) (eqv_to _ app_len ?_) | refine eqv_to _ (app_first rfl) (eqv_to 1 rfl ?_) | refine idx_sl (at_map (by assumption)) (by omega) ?_ | refine idx_ms _ (by first | rfl | assumption) (by first | assumption | omega) ?_ | fail)
  rfl
theorem c_tz (n : Nat) (h0 : n ≠ 0) (hn : n < 2 ^ 20) : PCall Tryz.prog 66 [vint .u64 n] (fun r => r = vint .i64 (lowI n)) := by
  refine acall_of tok mixed 8 rfl (fn := Tryz.f66) (c := Tryz.f66.body.getD .skip) (by kernel_rfl) (by kernel_rfl) (by kernel_rfl) rfl 0 rfl ?_
  repeat' (first | (refine eqv_u64 (by omega) (by omega) ?_) | refine o1 ?_ | refine o2 ?_ | refine k1 ?_ | refine k2 ?_ | refine k3 ?_ | refine k4 ?_ | refine k6 ?_ | refine k7 ?_ | refine k8 ?_ | refine And.intro ?_ ?_ | exact trivial | refine o3 ?_ | refine o4 ?_ | refine o5 ?_ | refine o6 ?_ | refine k5 ?_ | (intro h; first | exact Bool.noConfusion h | exact nz _ h | exact nl h | (simp at h; done) | (simp at h; first | (exfalso; omega) | skip) | skip) | (change retOk _ _ _ _; refine ret_pure rfl trivial ?_) | exact (rfl : allOne _ = true) | (refine (?_ : (0 : Int) ≤ _); omega) | (refine (?_ : _ ≠ _); omega) | (refine (?_ : srcLen _ = rowsLen _); rfl) | exact Nat.le_of_ble_eq_true rfl | exact (by kernel_rfl : drawOk _ _ = true) | refine eqv_len_map ?_ | refine eqv_size ?_ | refine eqv_put (eqv_ck ?_) | refine eqv_zero ?_ | refine eqv_wrap (by omega) (by omega) ?_ | refine eqv_u64 (by omega) (by omega) ?_ | refine eqv_u8 (by omega) (by omega) ?_ | refine eqv_to _ (set_map rfl rfl) ?_ | refine ⟨_, _, (by first | rfl | assumption), at_map (by assumption), ?_⟩ | refine ⟨_, _, (by first | rfl | assumption), (by assumption), ?_⟩ | refine ⟨_, at_map (by assumption), (by decide), ?_⟩ | refine ⟨_, at_map (by assumption), ?_⟩ | (refine (?_ : _ ≤ 140737488355328); simp [rowsLen] <;> omega) | (refine (?_ : _ ≤ 9223372036854775807); simp [rowsLen] <;> omega) | (refine (?_ : _ = rowsLen _); simp [rowsLen] <;> omega) | refine eqv_to _ (app_row rfl) (eqv_to _ app_len ?_) | refine eqv_to _ (app_first rfl) (eqv_to 1 rfl ?_) | refine idx_sl (at_map (by assumption)) (by omega) ?_ | refine idx_ms _ (by first | rfl | assumption) (by first | assumption | omega) ?_ | (change vcFun _ _ _ _ _; refine call_eq rfl (by repeat' (first | trivial | refine And.intro ?_ ?_ | (show 0 + _ ≤ List.length _; simp))) ALeL.refl (c_tz64 n h0 hn) rfl ?_) | fail)
  rfl
theorem set_pos {x w : Int} (h : setP x w) : ∃ n : Nat, x = (n : Int) ∧ n ≠ 0 ∧ n < 2 ^ 20 := by
  obtain ⟨h1, h2, h3, h4⟩ := h
  obtain ⟨n, rfl⟩ := Int.eq_ofNat_of_zero_le (show 0 ≤ x by omega)
  have h5 : n < 2 ^ w.toNat := by exact_mod_cast h4
  have h6 : 2 ^ w.toNat ≤ 2 ^ 20 := Nat.pow_le_pow_right (by decide) (by omega)
  exact ⟨n, rfl, by omega, by omega⟩
theorem u64_nat {n : Nat} (hn : n < 2 ^ 20) : IntKind.u64.wrap (n : Int) = (n : Int) := by
  obtain ⟨b, h1, h2⟩ := eqv_u64 (x := (n : Int)) (K := fun b => b = (n : Int)) (by omega) (by omega) rfl
  rw [h1, h2]
def datedR (s : Sess) : List PV := s.row ++ [ei (lowI s.time.weeks + 1)]
theorem c_date (s : Sess) (w : Int) (h : setP s.time.weeks w) : PCall Tryz.prog 42 [ag s.row] (fun r => r = ag (datedR s)) := by
  obtain ⟨n, e, h0, hn⟩ := set_pos h
  have h1 := c_tz n h0 hn
  have h2 : lowI n < 64 := by obtain ⟨-, -, -, -, h⟩ := tz_at h0 hn; exact h
  unfold datedR
  rw [e]
  obtain ⟨c, ⟨w', d, st_, l⟩, r⟩ := s
  subst e
  refine acall_of tok mixed 11 rfl (fn := Tryz.f42) (c := Tryz.f42.body.getD .skip) (by kernel_rfl) (by kernel_rfl) (by kernel_rfl) rfl 0 rfl ?_
  repeat' (first | (refine eqv_to _ (u64_nat hn) ?_) | refine o1 ?_ | refine o2 ?_ | refine k1 ?_ | refine k2 ?_ | refine k3 ?_ | refine k4 ?_ | refine k6 ?_ | refine k7 ?_ | refine k8 ?_ | refine And.intro ?_ ?_ | exact trivial | refine o3 ?_ | refine o4 ?_ | refine o5 ?_ | refine o6 ?_ | refine k5 ?_ | (intro h; first | exact Bool.noConfusion h | exact nz _ h | exact nl h | (simp at h; done) | (simp at h; first | (exfalso; omega) | skip) | skip) | (change retOk _ _ _ _; refine ret_pure rfl trivial ?_) | exact (rfl : allOne _ = true) | (refine (?_ : (0 : Int) ≤ _); omega) | (refine (?_ : _ ≠ _); omega) | (refine (?_ : srcLen _ = rowsLen _); rfl) | exact Nat.le_of_ble_eq_true rfl | exact (by kernel_rfl : drawOk _ _ = true) | refine eqv_len_map ?_ | refine eqv_size ?_ | refine eqv_put (eqv_ck ?_) | refine eqv_zero ?_ | refine eqv_wrap (by omega) (by omega) ?_ | refine eqv_u64 (by omega) (by omega) ?_ | refine eqv_u8 (by omega) (by omega) ?_ | refine eqv_to _ (set_map rfl rfl) ?_ | refine ⟨_, _, (by first | rfl | assumption), at_map (by assumption), ?_⟩ | refine ⟨_, _, (by first | rfl | assumption), (by assumption), ?_⟩ | refine ⟨_, at_map (by assumption), (by decide), ?_⟩ | refine ⟨_, at_map (by assumption), ?_⟩ | (refine (?_ : _ ≤ 140737488355328); simp [rowsLen] <;> omega) | (refine (?_ : _ ≤ 9223372036854775807); simp [rowsLen] <;> omega) | (refine (?_ : _ = rowsLen _); simp [rowsLen] <;> omega) | refine eqv_to _ (app_row rfl) (eqv_to _ app_len ?_) | refine eqv_to _ (app_first rfl) (eqv_to 1 rfl ?_) | refine idx_sl (at_map (by assumption)) (by omega) ?_ | refine idx_ms _ (by first | rfl | assumption) (by first | assumption | omega) ?_ | (change vcFunD _ _ _ _ _; refine callD_eq rfl (by repeat' (first | trivial | refine And.intro ?_ ?_ | (show 0 + _ ≤ List.length _; simp))) ALeL.refl (h1) rfl ?_) | fail)
  rfl
end Go.Proofs.YtbcacaodfpgflaaGreatDoor.Cw

/-
  Contracts: the order of sessions; sessions that are alike, that meet; a session by itself.
-/
namespace Go.Proofs.YtbcacaodfpgflaaGreatDoor.Cw
open Go Go.Cw Go.Proofs
set_option linter.unusedVariables false
set_option maxRecDepth 100000
set_option maxHeartbeats 4000000

def cmpS (a b : Str) : Int := if sLt a b = true then -1 else if sLt b a = true then 1 else 0
def ordI (a b : Sess) : Int := orI [cmpS a.cls b.cls, cmpI (lowI a.time.weeks + 1) (lowI b.time.weeks + 1)]
theorem bl_tot : ∀ {x y : List UInt8}, Op.bytesLess x y = false → (x == y) = false → Op.bytesLess y x = true
  | [], [], _, h => by simp at h
  | [], _ :: _, h, _ => by simp [Op.bytesLess] at h
  | _ :: _, [], _, _ => by simp [Op.bytesLess]
  | a :: x, b :: y, h1, h2 => by
    simp only [Op.bytesLess, Bool.or_eq_false_iff, decide_eq_false_iff_not, Bool.and_eq_false_iff] at h1
    simp only [Op.bytesLess, Bool.or_eq_true, decide_eq_true_eq, Bool.and_eq_true, beq_iff_eq]
    by_cases e : a = b
    · subst e
      right
      refine ⟨rfl, bl_tot ?_ ?_⟩
      · rcases h1.2 with h | h
        · simp at h
        · exact h
      · simpa using h2
    · left
      have h3 := h1.1
      have h4 : a.toNat ≠ b.toNat := fun h => e (UInt8.toNat_inj.1 h)
      simp only [UInt8.lt_iff_toNat_lt] at h3 ⊢
      omega
theorem bl_irr' : ∀ {x : List UInt8}, Op.bytesLess x x = false
  | [] => rfl
  | a :: x => by simp [Op.bytesLess, bl_irr' (x := x), UInt8.lt_irrefl]
theorem sLt_self (a : Str) : sLt a a = false := bl_irr'
theorem sLe_f {a b : Str} (h : sLe a b = false) : sLt b a = true := by
  unfold sLe at h
  simp only [Bool.or_eq_false_iff] at h
  exact bl_tot h.1 h.2
theorem bl_asym : ∀ {x y : List UInt8}, Op.bytesLess x y = true → Op.bytesLess y x = false
  | _, [], h => by cases ‹List UInt8› <;> simp [Op.bytesLess] at h
  | [], _ :: _, _ => by simp [Op.bytesLess]
  | a :: x, b :: y, h => by
    simp only [Op.bytesLess, Bool.or_eq_true, decide_eq_true_eq, Bool.and_eq_true, beq_iff_eq] at h
    simp only [Op.bytesLess, Bool.or_eq_false_iff, decide_eq_false_iff_not, Bool.and_eq_false_iff]
    rcases h with h | ⟨rfl, h⟩
    · refine ⟨fun k => UInt8.lt_irrefl _ (UInt8.lt_trans h k), .inl ?_⟩
      cases hq : (b == a)
      · rfl
      · rw [beq_iff_eq] at hq; subst hq; exact absurd h (UInt8.lt_irrefl _)
    · exact ⟨UInt8.lt_irrefl _, .inr (bl_asym h)⟩
theorem sLt_asym {a b : Str} (h : sLt a b = true) : sLt b a = false := bl_asym h
theorem sLe_t {a b : Str} (h : sLe a b = true) : sLt b a = false := by
  unfold sLe at h
  rw [Bool.or_eq_true] at h
  rcases h with h | h
  · exact sLt_asym h
  · obtain rfl := sEq_iff.1 h; exact sLt_self _
theorem sEq_self (a : Str) : sEq a a = true := sEq_iff.2 rfl
theorem c_isNaNS (a : Str) : PCall Tryz.prog 77 [.pv (es a)] (fun r => r = vbool false) := by
  refine acall_of tok mixed 6 rfl (fn := Tryz.f77) (c := Tryz.f77.body.getD .skip) (by kernel_rfl) (by kernel_rfl) (by kernel_rfl) rfl 0 rfl ?_
  repeat' (first | refine o1 ?_ | refine o2 ?_ | refine k1 ?_ | refine k2 ?_ | refine k3 ?_ | refine k4 ?_ | refine k6 ?_ | refine k7 ?_ | refine k8 ?_ | refine And.intro ?_ ?_ | exact trivial | refine o3 ?_ | refine o4 ?_ | refine o5 ?_ | refine o6 ?_ | refine k5 ?_ | (intro h; first | exact Bool.noConfusion h | exact nz _ h | exact nl h | (simp at h; done) | (simp at h; first | (exfalso; omega) | skip) | skip) | (change retOk _ _ _ _; refine ret_pure rfl trivial ?_) | exact (rfl : allOne _ = true) | (refine (?_ : (0 : Int) ≤ _); omega) | (refine (?_ : _ ≠ _); omega) | (refine (?_ : srcLen _ = rowsLen _); rfl) | exact Nat.le_of_ble_eq_true rfl | exact (by kernel_rfl : drawOk _ _ = true) | refine eqv_len_map ?_ | refine eqv_size ?_ | refine eqv_put (eqv_ck ?_) | refine eqv_zero ?_ | refine eqv_wrap (by omega) (by omega) ?_ | refine eqv_u64 (by omega) (by omega) ?_ | refine eqv_u8 (by omega) (by omega) ?_ | refine eqv_to _ (set_map rfl rfl) ?_ | refine ⟨_, _, (by first | rfl | assumption), at_map (by assumption), ?_⟩ | refine ⟨_, _, (by first | rfl | assumption), (by assumption), ?_⟩ | refine ⟨_, at_map (by assumption), (by decide), ?_⟩ | refine ⟨_, at_map (by assumption), ?_⟩ | (refine (?_ : _ ≤ 140737488355328); simp [rowsLen] <;> omega) | (refine (?_ : _ ≤ 9223372036854775807); simp [rowsLen] <;> omega) | (refine (?_ : _ = rowsLen _); simp [rowsLen] <;> omega) | refine eqv_to _ (app_row rfl) (eqv_to _ app_len ?_) | refine eqv_to _ (app_first rfl) (eqv_to 1 rfl ?_) | refine idx_sl (at_map (by assumption)) (by omega) ?_ | refine idx_ms _ (by first | rfl | assumption) (by first | assumption | omega) ?_ | fail)
  exact congrArg vbool (by rw [sEq_self]; rfl)
theorem c_cmpS (a b : Str) : PCall Tryz.prog 64 [.pv (es a), .pv (es b)] (fun r => r = vint .i64 (cmpS a b)) := by
  refine acall_of tok mixed 20 rfl (fn := Tryz.f64) (c := Tryz.f64.body.getD .skip) (by kernel_rfl) (by kernel_rfl) (by kernel_rfl) rfl 0 rfl ?_
  repeat' (first | refine o1 ?_ | refine o2 ?_ | refine k1 ?_ | refine k2 ?_ | refine k3 ?_ | refine k4 ?_ | refine k6 ?_ | refine k7 ?_ | refine k8 ?_ | refine And.intro ?_ ?_ | exact trivial | refine o3 ?_ | refine o4 ?_ | refine o5 ?_ | refine o6 ?_ | refine k5 ?_ | (intro h; first | exact Bool.noConfusion h | exact nz _ h | exact nl h | (simp at h; done) | (simp at h; first | (exfalso; omega) | skip) | skip) | (change retOk _ _ _ _; refine ret_pure rfl trivial ?_) | exact (rfl : allOne _ = true) | (refine (?_ : (0 : Int) ≤ _); omega) | (refine (?_ : _ ≠ _); omega) | (refine (?_ : srcLen _ = rowsLen _); rfl) | exact Nat.le_of_ble_eq_true rfl | exact (by kernel_rfl : drawOk _ _ = true) | refine eqv_len_map ?_ | refine eqv_size ?_ | refine eqv_put (eqv_ck ?_) | refine eqv_zero ?_ | refine eqv_wrap (by omega) (by omega) ?_ | refine eqv_u64 (by omega) (by omega) ?_ | refine eqv_u8 (by omega) (by omega) ?_ | refine eqv_to _ (set_map rfl rfl) ?_ | refine ⟨_, _, (by first | rfl | assumption), at_map (by assumption), ?_⟩ | refine ⟨_, _, (by first | rfl | assumption), (by assumption), ?_⟩ | refine ⟨_, at_map (by assumption), (by decide), ?_⟩ | refine ⟨_, at_map (by assumption), ?_⟩ | (refine (?_ : _ ≤ 140737488355328); simp [rowsLen] <;> omega) | (refine (?_ : _ ≤ 9223372036854775807); simp [rowsLen] <;> omega) | (refine (?_ : _ = rowsLen _); simp [rowsLen] <;> omega) | refine eqv_to _ (app_row rfl) (eqv_to _ app_len ?_) | refine eqv_to _ (app_first rfl) (eqv_to 1 rfl ?_) | refine idx_sl (at_map (by assumption)) (by omega) ?_ | refine idx_ms _ (by first | rfl | assumption) (by first | assumption | omega) ?_ | (change vcFun _ _ _ _ _; refine call_eq rfl (by repeat' (first | trivial | refine And.intro ?_ ?_ | (show 0 + _ ≤ List.length _; simp))) ALeL.refl (c_isNaNS a) rfl ?_) | (change vcFun _ _ _ _ _; refine call_eq rfl (by repeat' (first | trivial | refine And.intro ?_ ?_ | (show 0 + _ ≤ List.length _; simp))) ALeL.refl (c_isNaNS b) rfl ?_) | (change vcFunD _ _ _ _ _; refine callD_eq rfl (by repeat' (first | trivial | refine And.intro ?_ ?_ | (show 0 + _ ≤ List.length _; simp))) ALeL.refl (c_isNaNS a) rfl ?_) | (change vcFunD _ _ _ _ _; refine callD_eq rfl (by repeat' (first | trivial | refine And.intro ?_ ?_ | (show 0 + _ ≤ List.length _; simp))) ALeL.refl (c_isNaNS b) rfl ?_) | fail)
  · exact congrArg (vint .i64) (by unfold cmpS; rw [if_pos (by assumption)])
  · have h2 := sLe_f (by assumption : sLe a b = false)
    have h1 : sLt a b = false := by assumption
    exact congrArg (vint .i64) (by unfold cmpS; rw [if_neg (by simp [h1]), if_pos h2])
  · have h2 := sLe_t (by assumption : sLe a b = true)
    have h1 : sLt a b = false := by assumption
    exact congrArg (vint .i64) (by unfold cmpS; rw [if_neg (by simp [h1]), if_neg (by simp [h2])])
theorem c_order (a b : Sess) : PCall Tryz.prog 41 [ag (datedR a), ag (datedR b)] (fun r => r = vint .i64 (ordI a b)) := by
  refine acall_of tok mixed 19 rfl (fn := Tryz.f41) (c := Tryz.f41.body.getD .skip) (by kernel_rfl) (by kernel_rfl) (by kernel_rfl) rfl 0 rfl ?_
  repeat' (first | refine o1 ?_ | refine o2 ?_ | refine k1 ?_ | refine k2 ?_ | refine k3 ?_ | refine k4 ?_ | refine k6 ?_ | refine k7 ?_ | refine k8 ?_ | refine And.intro ?_ ?_ | exact trivial | refine o3 ?_ | refine o4 ?_ | refine o5 ?_ | refine o6 ?_ | refine k5 ?_ | (intro h; first | exact Bool.noConfusion h | exact nz _ h | exact nl h | (simp at h; done) | (simp at h; first | (exfalso; omega) | skip) | skip) | (change retOk _ _ _ _; refine ret_pure rfl trivial ?_) | exact (rfl : allOne _ = true) | (refine (?_ : (0 : Int) ≤ _); omega) | (refine (?_ : _ ≠ _); omega) | (refine (?_ : srcLen _ = rowsLen _); rfl) | exact Nat.le_of_ble_eq_true rfl | exact (by kernel_rfl : drawOk _ _ = true) | refine eqv_len_map ?_ | refine eqv_size ?_ | refine eqv_put (eqv_ck ?_) | refine eqv_zero ?_ | refine eqv_wrap (by omega) (by omega) ?_ | refine eqv_u64 (by omega) (by omega) ?_ | refine eqv_u8 (by omega) (by omega) ?_ | refine eqv_to _ (set_map rfl rfl) ?_ | refine ⟨_, _, (by first | rfl | assumption), at_map (by assumption), ?_⟩ | refine ⟨_, _, (by first | rfl | assumption), (by assumption), ?_⟩ | refine ⟨_, at_map (by assumption), (by decide), ?_⟩ | refine ⟨_, at_map (by assumption), ?_⟩ | (refine (?_ : _ ≤ 140737488355328); simp [rowsLen] <;> omega) | (refine (?_ : _ ≤ 9223372036854775807); simp [rowsLen] <;> omega) | (refine (?_ : _ = rowsLen _); simp [rowsLen] <;> omega) | refine eqv_to _ (app_row rfl) (eqv_to _ app_len ?_) | refine eqv_to _ (app_first rfl) (eqv_to 1 rfl ?_) | refine idx_sl (at_map (by assumption)) (by omega) ?_ | refine idx_ms _ (by first | rfl | assumption) (by first | assumption | omega) ?_ | (change vcFunD _ _ _ _ _; refine callD_eq rfl (by repeat' (first | trivial | refine And.intro ?_ ?_ | (show 0 + _ ≤ List.length _; simp))) ALeL.refl (c_cmpS a.cls b.cls) rfl ?_) | (change vcFunD _ _ _ _ _; refine callD_eq rfl (by repeat' (first | trivial | refine And.intro ?_ ?_ | (show 0 + _ ≤ List.length _; simp))) ALeL.refl (c_cmp (lowI a.time.weeks + 1) (lowI b.time.weeks + 1)) rfl ?_) | (change vcFunD _ _ _ _ _; refine callD_eq rfl (by repeat' (first | trivial | refine And.intro ?_ ?_ | (show 0 + _ ≤ List.length _; simp))) ALeL.refl (c_or [cmpS a.cls b.cls, cmpI (lowI a.time.weeks + 1) (lowI b.time.weeks + 1)] (Nat.le_of_ble_eq_true rfl)) rfl ?_) | fail)
  rfl
theorem cmpS_cases (a b : Str) : (cmpS a b = -1 ∧ sLt a b = true) ∨ (cmpS a b = 1 ∧ sLt b a = true ∧ sLt a b = false) ∨ (cmpS a b = 0 ∧ a = b) := by
  unfold cmpS
  by_cases h1 : sLt a b = true
  · exact .inl ⟨if_pos h1, h1⟩
  · by_cases h2 : sLt b a = true
    · exact .inr (.inl ⟨by rw [if_neg h1, if_pos h2], h2, by simpa using h1⟩)
    · refine .inr (.inr ⟨by rw [if_neg h1, if_neg h2], ?_⟩)
      have h1 : sLt a b = false := by simpa using h1
      cases h3 : sEq a b
      · exact absurd (bl_tot h1 h3) h2
      · exact sEq_iff.1 h3
theorem ord_bef {a b : Sess} : ordI a b < 0 ↔ befP a b := by
  unfold ordI befP
  have hs : sLt a.cls a.cls = false := sLt_self _
  rcases cmpS_cases a.cls b.cls with ⟨h, k⟩ | ⟨h, k, k2⟩ | ⟨h, k⟩
  · rw [h]; simp [orI, k]
  · rw [h]
    have hne : a.cls ≠ b.cls := fun e => by rw [e, sLt_self] at k; cases k
    simp [orI, k2, hne]
  · rw [h, ← k]
    simp only [orI, cmpI, hs]
    grind
theorem alike_b {a b : Sess} {w : Int} : (sEq a.cls b.cls && (w == w && (a.time.day == b.time.day && (a.time.start == b.time.start && (a.time.len == b.time.len && true))) && (sEq a.room b.room && true))) = pB (alikeP a b) := by
  refine pB_eq ?_
  unfold alikeP
  simp [sEq_iff, and_assoc]
theorem c_alike (a b : Sess) : PCall Tryz.prog 44 [ag a.row, ag b.row] (fun r => r = vbool (pB (alikeP a b))) := by
  refine acall_of tok mixed 13 rfl (fn := Tryz.f44) (c := Tryz.f44.body.getD .skip) (by kernel_rfl) (by kernel_rfl) (by kernel_rfl) rfl 0 rfl ?_
  repeat' (first | refine o1 ?_ | refine o2 ?_ | refine k1 ?_ | refine k2 ?_ | refine k3 ?_ | refine k4 ?_ | refine k6 ?_ | refine k7 ?_ | refine k8 ?_ | refine And.intro ?_ ?_ | exact trivial | refine o3 ?_ | refine o4 ?_ | refine o5 ?_ | refine o6 ?_ | refine k5 ?_ | (intro h; first | exact Bool.noConfusion h | exact nz _ h | exact nl h | (simp at h; done) | (simp at h; first | (exfalso; omega) | skip) | skip) | (change retOk _ _ _ _; refine ret_pure rfl trivial ?_) | exact (rfl : allOne _ = true) | (refine (?_ : (0 : Int) ≤ _); omega) | (refine (?_ : _ ≠ _); omega) | (refine (?_ : srcLen _ = rowsLen _); rfl) | exact Nat.le_of_ble_eq_true rfl | exact (by kernel_rfl : drawOk _ _ = true) | refine eqv_len_map ?_ | refine eqv_size ?_ | refine eqv_put (eqv_ck ?_) | refine eqv_zero ?_ | refine eqv_wrap (by omega) (by omega) ?_ | refine eqv_u64 (by omega) (by omega) ?_ | refine eqv_u8 (by omega) (by omega) ?_ | refine eqv_to _ (set_map rfl rfl) ?_ | refine ⟨_, _, (by first | rfl | assumption), at_map (by assumption), ?_⟩ | refine ⟨_, _, (by first | rfl | assumption), (by assumption), ?_⟩ | refine ⟨_, at_map (by assumption), (by decide), ?_⟩ | refine ⟨_, at_map (by assumption), ?_⟩ | (refine (?_ : _ ≤ 140737488355328); simp [rowsLen] <;> omega) | (refine (?_ : _ ≤ 9223372036854775807); simp [rowsLen] <;> omega) | (refine (?_ : _ = rowsLen _); simp [rowsLen] <;> omega) | refine eqv_to _ (app_row rfl) (eqv_to _ app_len ?_) | refine eqv_to _ (app_first rfl) (eqv_to 1 rfl ?_) | refine idx_sl (at_map (by assumption)) (by omega) ?_ | refine idx_ms _ (by first | rfl | assumption) (by first | assumption | omega) ?_ | fail)
  exact congrArg vbool alike_b
theorem c_meet (a b : Sess) : PCall Tryz.prog 43 [ag a.row, ag b.row] (fun r => r = vbool (pB (meetP34 a b))) := by
  refine acall_of tok mixed 20 rfl (fn := Tryz.f43) (c := Tryz.f43.body.getD .skip) (by kernel_rfl) (by kernel_rfl) (by kernel_rfl) rfl 0 rfl ?_
  repeat' (first | (refine (eqv_rfl ?_ : eqv (bits _ _ _ _) _)) | refine o1 ?_ | refine o2 ?_ | refine k1 ?_ | refine k2 ?_ | refine k3 ?_ | refine k4 ?_ | refine k6 ?_ | refine k7 ?_ | refine k8 ?_ | refine And.intro ?_ ?_ | exact trivial | refine o3 ?_ | refine o4 ?_ | refine o5 ?_ | refine o6 ?_ | refine k5 ?_ | (intro h; first | exact Bool.noConfusion h | exact nz _ h | exact nl h | (simp at h; done) | (simp at h; first | (exfalso; omega) | skip) | skip) | (change retOk _ _ _ _; refine ret_pure rfl trivial ?_) | exact (rfl : allOne _ = true) | (refine (?_ : (0 : Int) ≤ _); omega) | (refine (?_ : _ ≠ _); omega) | (refine (?_ : srcLen _ = rowsLen _); rfl) | exact Nat.le_of_ble_eq_true rfl | exact (by kernel_rfl : drawOk _ _ = true) | refine eqv_len_map ?_ | refine eqv_size ?_ | refine eqv_put (eqv_ck ?_) | refine eqv_zero ?_ | refine eqv_wrap (by omega) (by omega) ?_ | refine eqv_u64 (by omega) (by omega) ?_ | refine eqv_u8 (by omega) (by omega) ?_ | refine eqv_to _ (set_map rfl rfl) ?_ | refine ⟨_, _, (by first | rfl | assumption), at_map (by assumption), ?_⟩ | refine ⟨_, _, (by first | rfl | assumption), (by assumption), ?_⟩ | refine ⟨_, at_map (by assumption), (by decide), ?_⟩ | refine ⟨_, at_map (by assumption), ?_⟩ | (refine (?_ : _ ≤ 140737488355328); simp [rowsLen] <;> omega) | (refine (?_ : _ ≤ 9223372036854775807); simp [rowsLen] <;> omega) | (refine (?_ : _ = rowsLen _); simp [rowsLen] <;> omega) | refine eqv_to _ (app_row rfl) (eqv_to _ app_len ?_) | refine eqv_to _ (app_first rfl) (eqv_to 1 rfl ?_) | refine idx_sl (at_map (by assumption)) (by omega) ?_ | refine idx_ms _ (by first | rfl | assumption) (by first | assumption | omega) ?_ | fail)
  · have h : sEq a.cls b.cls = true := by assumption
    refine congrArg vbool (pB_eq ?_)
    unfold meetP34
    rw [sEq_iff] at h
    simp [h]
  · have h : sEq a.cls b.cls = false := by assumption
    rw [sEq_f] at h
    exact congrArg vbool (pB_f fun k => h k.1).symm
theorem c_chk (s : Sess) (w : Int) : PCall Tryz.prog 40 [ag s.row, vint .i64 w] (fun r => r = vint .i64 (sessE s w)) := by
  have room : ∀ {b : Bool}, sEq s.room emp = b → (b = true → s.room = emp) ∧ (b = false → ¬ s.room = emp) := fun h => ⟨fun e => sEq_iff.1 (h.trans e), fun e => sEq_f.1 (h.trans e)⟩
  refine acall_of tok mixed 33 rfl (fn := Tryz.f40) (c := Tryz.f40.body.getD .skip) (by kernel_rfl) (by kernel_rfl) (by kernel_rfl) rfl 0 rfl ?_
  repeat' (first | refine o1 ?_ | refine o2 ?_ | refine k1 ?_ | refine k2 ?_ | refine k3 ?_ | refine k4 ?_ | refine k6 ?_ | refine k7 ?_ | refine k8 ?_ | refine And.intro ?_ ?_ | exact trivial | refine o3 ?_ | refine o4 ?_ | refine o5 ?_ | refine o6 ?_ | refine k5 ?_ | (intro h; first | exact Bool.noConfusion h | exact nz _ h | exact nl h | (simp at h; done) | (simp at h; first | (exfalso; omega) | skip) | skip) | (change retOk _ _ _ _; refine ret_pure rfl trivial ?_) | exact (rfl : allOne _ = true) | (refine (?_ : (0 : Int) ≤ _); omega) | (refine (?_ : _ ≠ _); omega) | (refine (?_ : srcLen _ = rowsLen _); rfl) | exact Nat.le_of_ble_eq_true rfl | exact (by kernel_rfl : drawOk _ _ = true) | refine eqv_len_map ?_ | refine eqv_size ?_ | refine eqv_put (eqv_ck ?_) | refine eqv_zero ?_ | refine eqv_wrap (by omega) (by omega) ?_ | refine eqv_u64 (by omega) (by omega) ?_ | refine eqv_u8 (by omega) (by omega) ?_ | refine eqv_to _ (set_map rfl rfl) ?_ | refine ⟨_, _, (by first | rfl | assumption), at_map (by assumption), ?_⟩ | refine ⟨_, _, (by first | rfl | assumption), (by assumption), ?_⟩ | refine ⟨_, at_map (by assumption), (by decide), ?_⟩ | refine ⟨_, at_map (by assumption), ?_⟩ | (refine (?_ : _ ≤ 140737488355328); simp [rowsLen] <;> omega) | (refine (?_ : _ ≤ 9223372036854775807); simp [rowsLen] <;> omega) | (refine (?_ : _ = rowsLen _); simp [rowsLen] <;> omega) | refine eqv_to _ (app_row rfl) (eqv_to _ app_len ?_) | refine eqv_to _ (app_first rfl) (eqv_to 1 rfl ?_) | refine idx_sl (at_map (by assumption)) (by omega) ?_ | refine idx_ms _ (by first | rfl | assumption) (by first | assumption | omega) ?_ | (change vcFun _ _ _ _ _; refine call_eq rfl (by repeat' (first | trivial | refine And.intro ?_ ?_ | (show 0 + _ ≤ List.length _; simp))) ALeL.refl (c_code s.cls) rfl ?_) | (change vcFun _ _ _ _ _; refine call_eq rfl (by repeat' (first | trivial | refine And.intro ?_ ?_ | (show 0 + _ ≤ List.length _; simp))) ALeL.refl (c_code s.room) rfl ?_) | (change vcFun _ _ _ _ _; refine call_eq rfl (by repeat' (first | trivial | refine And.intro ?_ ?_ | (show 0 + _ ≤ List.length _; simp))) ALeL.refl (c_sound s.time) rfl ?_) | (change vcFun _ _ _ _ _; refine call_eq rfl (by repeat' (first | trivial | refine And.intro ?_ ?_ | (show 0 + _ ≤ List.length _; simp))) ALeL.refl (c_set s.time.weeks w) rfl ?_) | (change vcFunD _ _ _ _ _; refine callD_eq rfl (by repeat' (first | trivial | refine And.intro ?_ ?_ | (show 0 + _ ≤ List.length _; simp))) ALeL.refl (c_code s.cls) rfl ?_) | (change vcFunD _ _ _ _ _; refine callD_eq rfl (by repeat' (first | trivial | refine And.intro ?_ ?_ | (show 0 + _ ≤ List.length _; simp))) ALeL.refl (c_code s.room) rfl ?_) | fail)
  · exact congrArg (vint .i64) (by unfold sessE; rw [if_neg (by rw [pB_f h]; simp)])
  · rename_i h1 h2
    exact congrArg (vint .i64) (by unfold sessE; rw [if_pos (pB_t h1), if_neg (by rw [pB_f fun k => h k.2]; simp)])
  · rename_i h1 h2 h3 h4
    exact congrArg (vint .i64) (by unfold sessE; rw [if_pos (pB_t h1), if_pos (pB_t ⟨h2, h3⟩), if_neg (by rw [pB_f fun k => k.elim ((room h4).2 rfl) h]; simp)])
  · rename_i h1 h2 h3 h4
    exact congrArg (vint .i64) (by unfold sessE; rw [if_pos (pB_t h1), if_pos (pB_t ⟨h2, h3⟩), if_pos (pB_t (.inr h))])
  · rename_i h1 h2 h3 h4
    exact congrArg (vint .i64) (by unfold sessE; rw [if_pos (pB_t h1), if_pos (pB_t ⟨h2, h3⟩), if_pos (pB_t (.inl ((room h4).1 rfl)))])
  · rename_i h1 h2
    exact congrArg (vint .i64) (by unfold sessE; rw [if_pos (pB_t h1), if_neg (by rw [pB_f fun k => h2 k.1]; simp)])
end Go.Proofs.YtbcacaodfpgflaaGreatDoor.Cw

/-
  Plain laws of chapter 34: the order of sessions.
-/
namespace Go.Proofs.YtbcacaodfpgflaaGreatDoor.Cw
open Go Go.Cw Go.Proofs
set_option linter.unusedVariables false

theorem sLt_irr (a : Str) : sLt a a = false := sLt_self a
theorem bl_tra : ∀ {x y z : List UInt8}, Op.bytesLess x y = true → Op.bytesLess y z = true → Op.bytesLess x z = true
  | _, _, [], _, h => by cases ‹List UInt8› <;> simp [Op.bytesLess] at h
  | [], _, _ :: _, _, _ => by simp [Op.bytesLess]
  | _ :: _, [], _ :: _, h, _ => by simp [Op.bytesLess] at h
  | a :: x, b :: y, c :: z, h1, h2 => by
    simp only [Op.bytesLess, Bool.or_eq_true, decide_eq_true_eq, Bool.and_eq_true, beq_iff_eq] at h1 h2 ⊢
    rcases h1 with h1 | ⟨rfl, h1⟩
    · rcases h2 with h2 | ⟨rfl, h2⟩
      · exact .inl (UInt8.lt_trans h1 h2)
      · exact .inl h1
    · rcases h2 with h2 | ⟨rfl, h2⟩
      · exact .inl h2
      · exact .inr ⟨rfl, bl_tra h1 h2⟩
theorem sLt_trans {a b c : Str} (h : sLt a b = true) (k : sLt b c = true) : sLt a c = true := bl_tra h k
theorem sLt_conn {a b : Str} (h1 : sLt a b = false) (h2 : sLt b a = false) : a = b := by
  cases h3 : sEq a b
  · have := bl_tot h1 h3
    have h2 : Op.bytesLess (bts b) (bts a) = false := h2
    rw [h2] at this; cases this
  · exact sEq_iff.1 h3
/-- One more of a list. -/
theorem take_snoc {α : Type} {l : List α} {k : Nat} {x : α} (h : l[k]? = some x) : l.take (k + 1) = l.take k ++ [x] := by
  rw [List.take_add_one, h]; rfl
theorem alike_comm {a b : Sess} : alikeP a b ↔ alikeP b a := ⟨fun ⟨h1, h2, h3, h4, h5⟩ => ⟨h1.symm, h2.symm, h3.symm, h4.symm, h5.symm⟩, fun ⟨h1, h2, h3, h4, h5⟩ => ⟨h1.symm, h2.symm, h3.symm, h4.symm, h5.symm⟩⟩
theorem bits_comm34 (a b : Int) : bits .and .i64 a b = bits .and .i64 b a := by
  simp only [bits, BitVec.and_comm]
theorem meet_comm {a b : Sess} : meetP34 a b ↔ meetP34 b a := by
  unfold meetP34; rw [bits_comm34]; exact ⟨fun h => ⟨h.1.symm, h.2⟩, fun h => ⟨h.1.symm, h.2⟩⟩
theorem bef_irr (a : Sess) : ¬ befP a a := fun h => by
  rcases h with h | h
  · rw [sLt_irr] at h; cases h
  · omega
theorem bef_trans {a b c : Sess} (h : befP a b) (k : befP b c) : befP a c := by
  rcases h with h | ⟨h, h2⟩
  · rcases k with k | ⟨k, k2⟩
    · exact .inl (sLt_trans h k)
    · exact .inl (k ▸ h)
  · rcases k with k | ⟨k, k2⟩
    · exact .inl (h ▸ k)
    · exact .inr ⟨h.trans k, by omega⟩
theorem bef_asym {a b : Sess} (h : befP a b) : ¬ befP b a := fun k => bef_irr a (bef_trans h k)
/-- Two sorted lists with the same content are equal. -/
theorem sorted_unique : ∀ {a b : List Sess}, a.Perm b → a.Pairwise befP → b.Pairwise befP → a = b
  | [], b, hp, _, _ => (List.Perm.nil_eq hp.symm.symm)
  | x :: a, [], hp, _, _ => absurd hp.length_eq (by simp)
  | x :: a, y :: b, hp, ha, hb => by
    rw [List.pairwise_cons] at ha hb
    have e : x = y := by
      have hx : x ∈ y :: b := hp.subset (by simp)
      have hy : y ∈ x :: a := hp.symm.subset (by simp)
      rcases List.mem_cons.1 hx with e | hx
      · exact e
      · rcases List.mem_cons.1 hy with e | hy
        · exact e.symm
        · exact absurd (ha.1 y hy) (bef_asym (hb.1 x hx))
    subst e
    rw [sorted_unique (List.Perm.cons_inv hp) ha.2 hb.2]
theorem rises_sorted {l : List Sess} (h : risesP l) : l.Pairwise befP := by
  induction l with
  | nil => exact List.Pairwise.nil
  | cons x l ih =>
    have hl : risesP l := fun i a b h1 h2 => h (i + 1) a b (by simpa using h1) (by simpa using h2)
    have ih := ih hl
    refine List.pairwise_cons.2 ⟨fun y hy => ?_, ih⟩
    cases l with
    | nil => cases hy
    | cons z l =>
      have h1 := h 0 x z rfl rfl
      rcases List.mem_cons.1 hy with e | hy
      · subst e; exact h1
      · exact bef_trans h1 ((List.pairwise_cons.1 ih).1 y hy)
theorem apart_pair {p : Sess → Sess → Prop} (hs : ∀ a b, p a b → p b a) {l : List Sess} : apartQ p l ↔ l.Pairwise fun a b => ¬ p a b := by
  rw [List.pairwise_iff_getElem]
  constructor
  · intro h i j hi hj hij k
    exact h j i _ _ hij (List.getElem?_eq_getElem hj) (List.getElem?_eq_getElem hi) (hs _ _ k)
  · intro h i k a b hk ha hb hp
    obtain ⟨hi, rfl⟩ := List.getElem?_eq_some_iff.1 ha
    obtain ⟨hj, rfl⟩ := List.getElem?_eq_some_iff.1 hb
    exact h k i hj hi hk (hs _ _ hp)
theorem apart_perm {p : Sess → Sess → Prop} (hs : ∀ a b, p a b → p b a) {l m : List Sess} (hp : l.Perm m) (h : apartQ p l) : apartQ p m := by
  rw [apart_pair hs] at *
  exact hp.pairwise h fun h k => h (hs _ _ k)

theorem ins_perm {out : List Sess} {x : Sess} : (insV out x).Perm (x :: out) := by
  unfold insV
  rw [List.append_assoc]
  refine (List.perm_append_comm_assoc _ [x] _).trans ?_
  rw [List.take_append_drop]
  exact List.Perm.refl _
theorem ord_perm0 : ∀ {l out : List Sess}, (l.foldl insV out).Perm (out ++ l)
  | [], out => by simp
  | x :: l, out => by
    rw [List.foldl_cons]
    refine ord_perm0.trans ?_
    refine (List.Perm.append_right l ins_perm).trans ?_
    exact (List.perm_middle (a := x) (l₁ := out) (l₂ := l)).symm
theorem ord_perm {l : List Sess} : (ordV l).Perm l := by
  have h := ord_perm0 (l := l) (out := [])
  rw [List.nil_append] at h
  exact h
theorem ord_len {l : List Sess} : (ordV l).length = l.length := ord_perm.length_eq
end Go.Proofs.YtbcacaodfpgflaaGreatDoor.Cw

/-
  Plain laws of chapter 34: sets of weeks; joined lists; a normal form is valid.
-/
namespace Go.Proofs.YtbcacaodfpgflaaGreatDoor.Cw
open Go Go.Cw Go.Proofs
set_option linter.unusedVariables false

theorem wrap62 (n : Int) (h0 : 0 ≤ n) (h1 : n < 2 ^ 62) : IntKind.i64.wrap n = n := wrap64 (by omega) (by omega)
theorem bits_natI (a b : Nat) (ha : a < 2 ^ 62) (hb : b < 2 ^ 62) : bits .and .i64 (a : Int) (b : Int) = ((a &&& b : Nat) : Int) ∧ bits .or .i64 (a : Int) (b : Int) = ((a ||| b : Nat) : Int) :=
  bits_nat .i64 62 (by decide) wrap62 a b ha hb
theorem set_nat {x w : Int} (h : setP x w) : ∃ n : Nat, x = (n : Int) ∧ n ≠ 0 ∧ n < 2 ^ w.toNat ∧ n < 2 ^ 20 ∧ n < 2 ^ 62 := by
  obtain ⟨h1, h2, h3, h4⟩ := h
  obtain ⟨n, rfl⟩ := Int.eq_ofNat_of_zero_le (show 0 ≤ x by omega)
  have h5 : n < 2 ^ w.toNat := by exact_mod_cast h4
  have h6 : 2 ^ w.toNat ≤ 2 ^ 20 := Nat.pow_le_pow_right (by decide) (by omega)
  have h7 : (2 : Nat) ^ 20 ≤ 2 ^ 62 := by decide
  exact ⟨n, rfl, by omega, h5, by omega, by omega⟩
theorem bit_nat {n i : Nat} (hn : n < 2 ^ 62) : bitB (n : Int) i = n.testBit i := by
  unfold bitB
  have e : ((n : Int).fdiv (2 ^ i)) = ((n / 2 ^ i : Nat) : Int) := by
    rw [Int.fdiv_eq_ediv_of_nonneg _ (by exact_mod_cast Nat.zero_le _)]
    simp
  have hlt : n / 2 ^ i < 2 ^ 62 := Nat.lt_of_le_of_lt (Nat.div_le_self _ _) hn
  rw [e, show (1 : Int) = ((1 : Nat) : Int) from rfl, (bits_natI _ 1 hlt (by decide)).1, Nat.testBit_eq_decide_div_mod_eq, Nat.and_one_is_mod]
  by_cases h : n / 2 ^ i % 2 = 1
  · simp [h]
  · have : n / 2 ^ i % 2 = 0 := by omega
    simp [this]
theorem low_nat {n : Nat} (h0 : n ≠ 0) (hn : n < 2 ^ 62) : n.testBit (lowI (n : Int)) = true ∧ lowI (n : Int) < 64 ∧ ∀ i, i < lowI (n : Int) → n.testBit i = false := by
  have h64 : n < 2 ^ 64 := Nat.lt_trans hn (by decide)
  obtain ⟨m, h1, h2⟩ := Go.Lib.ctzFrom_spec 64 n (by omega) h64
  have e : lowI (n : Int) = Go.Lib.ctzFrom 64 n := by
    unfold lowI Go.Lib.ctz
    rw [Int.toNat_natCast, if_neg h0]
  rw [e]
  generalize Go.Lib.ctzFrom 64 n = k at *
  subst h1
  refine ⟨?_, h2, fun i hi => ?_⟩
  · rw [Nat.testBit_two_pow_mul]
    simp
  · rw [Nat.testBit_two_pow_mul]
    simp; omega
theorem low_lt20 {n : Nat} (h0 : n ≠ 0) (hn : n < 2 ^ 20) : lowI (n : Int) < 20 := by
  obtain ⟨h1, h2, h3⟩ := low_nat h0 (Nat.lt_trans hn (by decide))
  rcases Nat.lt_or_ge (lowI (n : Int)) 20 with h | h
  · exact h
  · have : n < 2 ^ lowI (n : Int) := Nat.lt_of_lt_of_le hn (Nat.pow_le_pow_right (by decide) h)
    rw [Nat.testBit_lt_two_pow this] at h1; cases h1
theorem sess_ok {s : Sess} {w : Int} (h : sessE s w = 0) : codeP s.cls ∧ timeP s w ∧ roomQ s := by
  unfold sessE at h
  split at h
  · split at h
    · split at h
      · simp_all
      · cases h
    · cases h
  · cases h
theorem sess_of {s : Sess} {w : Int} (h1 : codeP s.cls) (h2 : timeP s w) (h3 : roomQ s) : sessE s w = 0 := by
  unfold sessE; rw [if_pos (pB_t h1), if_pos (pB_t h2), if_pos (pB_t h3)]
theorem sing_zero {l : List Sess} {w : Int} : singE l w = 0 ↔ ∀ s ∈ l, sessE s w = 0 := by
  unfold singE
  rw [firstE_zero_iff]
  constructor
  · intro h s hs
    obtain ⟨i, hi⟩ := List.getElem?_of_mem hs
    have := h i (List.getElem?_eq_some_iff.1 hi).1
    unfold sessAt at this; rw [hi] at this; exact this
  · intro h i hi
    obtain ⟨s, hs⟩ := getE hi
    unfold sessAt; rw [hs]; exact h s (List.mem_of_getElem? hs)
theorem or_ok {s t : Sess} {w : Int} (hs : sessE s w = 0) (ht : sessE t w = 0) : sessE (orW t s) w = 0 := by
  obtain ⟨a1, ⟨a2, a3⟩, a4⟩ := sess_ok hs
  obtain ⟨b1, ⟨b2, b3⟩, b4⟩ := sess_ok ht
  obtain ⟨n, e1, n0, n1, n2, n3⟩ := set_nat a3
  obtain ⟨m, e2, m0, m1, m2, m3⟩ := set_nat b3
  have e : bits .or .i64 t.time.weeks s.time.weeks = ((m ||| n : Nat) : Int) := by rw [e1, e2]; exact (bits_natI m n m3 n3).2
  have h1 : m ||| n < 2 ^ w.toNat := Nat.or_lt_two_pow m1 n1
  have h2 : m ||| n < 2 ^ 20 := Nat.or_lt_two_pow m2 n2
  have h0 : m ≤ m ||| n := Nat.left_le_or
  have hw : setP (bits .or .i64 t.time.weeks s.time.weeks) w := by
    rw [e]
    exact ⟨b3.1, b3.2.1, by omega, by exact_mod_cast h1⟩
  have hw2 : setP (bits .or .i64 t.time.weeks s.time.weeks) 20 := by
    rw [e]
    exact ⟨by decide, by decide, by omega, by exact_mod_cast h2⟩
  exact sess_of b1 ⟨⟨hw2, b2.2⟩, hw⟩ b4
theorem join_all {p : Sess → Prop} (ho : ∀ t s, p t → p s → p (orW t s)) : ∀ {out : List Sess} {s : Sess}, (∀ t ∈ out, p t) → p s → ∀ t ∈ joinOne out s, p t
  | [], s, h, hs, t, ht => by
    simp [joinOne] at ht; subst ht; exact hs
  | u :: l, s, h, hs, t, ht => by
    unfold joinOne at ht
    split at ht
    · rcases List.mem_cons.1 ht with rfl | ht
      · exact ho _ _ (h u (by simp)) hs
      · exact h t (by simp [ht])
    · rcases List.mem_cons.1 ht with rfl | ht
      · exact h _ (by simp)
      · exact join_all ho (fun t ht => h t (by simp [ht])) hs t ht
theorem joined_all0 {p : Sess → Prop} (ho : ∀ t s, p t → p s → p (orW t s)) : ∀ {l out : List Sess}, (∀ t ∈ out, p t) → (∀ t ∈ l, p t) → ∀ t ∈ l.foldl joinOne out, p t
  | [], out, h, _ => h
  | s :: l, out, h, hl => by
    rw [List.foldl_cons]
    exact joined_all0 ho (join_all ho h (hl s (by simp))) fun t ht => hl t (by simp [ht])
theorem joined_all {p : Sess → Prop} (ho : ∀ t s, p t → p s → p (orW t s)) {l : List Sess} (hl : ∀ t ∈ l, p t) : ∀ t ∈ joinedV l, p t := joined_all0 ho (fun t ht => by cases ht) hl
theorem norm_parts {l : List Sess} {w : Int} (h : normE l w = 0) : (1 ≤ w ∧ w ≤ 20) ∧ singE l w = 0 ∧ apartQ meetP34 (joinedV l) ∧ (joinedV l).length ≤ 96 := by
  unfold normE at h
  split at h
  · cases h
  · split at h
    · contradiction
    · split at h
      · split at h
        · cases h
        · rename_i h1 h2 h3 h4
          exact ⟨by omega, by omega, by simpa using h3, by omega⟩
      · cases h
theorem joined_ok {l : List Sess} {w : Int} (h : singE l w = 0) : ∀ s ∈ joinedV l, sessE s w = 0 :=
  joined_all (fun t s ht hs => or_ok hs ht) (sing_zero.1 h)
theorem valid_of {l : List Sess} {w : Int} (h1 : 1 ≤ w ∧ w ≤ 20) (h2 : l.length ≤ 96) (h3 : ∀ s ∈ l, sessE s w = 0) (h4 : risesP l) (h5 : apartQ clashP l) : validE l w = 0 := by
  unfold validE
  rw [if_neg (by omega), if_neg (by omega), if_neg (by rw [sing_zero.2 h3]; simp), if_pos (pB_t h4), if_pos (pB_t h5)]
theorem valid_parts {l : List Sess} {w : Int} (h : validE l w = 0) : (1 ≤ w ∧ w ≤ 20) ∧ l.length ≤ 96 ∧ (∀ s ∈ l, sessE s w = 0) ∧ l.Pairwise befP ∧ apartQ clashP l := by
  unfold validE at h
  split at h
  · cases h
  · split at h
    · cases h
    · split at h
      · contradiction
      · split at h
        · split at h
          · rename_i h1 h2 h3 h4 h5
            exact ⟨by omega, by omega, sing_zero.1 (by omega), rises_sorted (by simpa using h4), by simpa using h5⟩
          · cases h
        · cases h
end Go.Proofs.YtbcacaodfpgflaaGreatDoor.Cw

/-
  Contracts: the least week, by the reference; its order of sessions.
-/
namespace Go.Proofs.YtbcacaodfpgflaaGreatDoor.Cw
open Go Go.Cw Go.Proofs
set_option linter.unusedVariables false
set_option maxRecDepth 100000
set_option maxHeartbeats 4000000

def wkL (x : Int) : Nat → List (List PV)
  | 0 => []
  | i + 1 => if bitB x i = true then wkL x i ++ [[ei (i + 1)]] else wkL x i
theorem wkL_len {x : Int} : ∀ {i : Nat}, (wkL x i).length ≤ i
  | 0 => Nat.le_refl _
  | i + 1 => by
    have := wkL_len (x := x) (i := i)
    unfold wkL; split
    · rw [List.length_append]; simp; omega
    · omega
theorem wkL_low {n : Nat} (h0 : n ≠ 0) (hn : n < 2 ^ 20) : ∀ {i : Nat}, (i ≤ lowI n → wkL n i = []) ∧ (lowI n < i → ∃ r, wkL n i = [ei (lowI n + 1)] :: r)
  | 0 => ⟨fun _ => rfl, fun h => by omega⟩
  | i + 1 => by
    have h62 : n < 2 ^ 62 := Nat.lt_trans hn (by decide)
    obtain ⟨h1, h2⟩ := wkL_low h0 hn (i := i)
    obtain ⟨b1, -, b2⟩ := low_nat h0 h62
    constructor
    · intro h
      unfold wkL
      rw [if_neg (by rw [bit_nat h62, b2 i (by omega)]; simp)]
      exact h1 (by omega)
    · intro h
      unfold wkL
      rcases Nat.lt_or_ge (lowI n) i with k | k
      · obtain ⟨r, hr⟩ := h2 k
        split
        · exact ⟨r ++ [[ei (i + 1)]], by rw [hr]; rfl⟩
        · exact ⟨r, hr⟩
      · have e : i = lowI n := by omega
        rw [if_pos (by rw [bit_nat h62, e]; exact b1), h1 k, ← e]
        exact ⟨[], rfl⟩
theorem shr_i (x : Int) (i : Nat) (hi : i ≤ 64) : x.fdiv (2 ^ min ((i : Int)).toNat IntKind.i64.bits) = x.fdiv (2 ^ i) := by
  have : min ((i : Int)).toNat IntKind.i64.bits = i := by
    have : IntKind.i64.bits = 64 := rfl
    rw [this, Int.toNat_natCast]; omega
  rw [this]
theorem c_weeks0 (x : Int) (h : setP x 20) : PCall Tryz.prog 94 [vint .i64 x] (fun r => Leq r (.pv (.sl 1 (wkL x 20)))) := by
  have hr := c_rset x 20
  rw [pB_t h] at hr
  refine acall_of tok mixed 24 rfl (fn := Tryz.f94) (c := Tryz.f94.body.getD .skip) (by kernel_rfl) (by kernel_rfl) (by kernel_rfl) rfl 0 rfl ?_
  repeat' (first | refine o1 ?_ | refine o2 ?_ | refine k1 ?_ | refine k2 ?_ | refine k3 ?_ | refine k4 ?_ | refine k6 ?_ | refine k7 ?_ | refine k8 ?_ | refine And.intro ?_ ?_ | exact trivial | refine o3 ?_ | refine o4 ?_ | refine o5 ?_ | refine o6 ?_ | refine k5 ?_ | (intro h; first | exact Bool.noConfusion h | exact nz _ h | exact nl h | (simp at h; done) | (simp at h; first | (exfalso; omega) | skip) | skip) | (change retOk _ _ _ _; refine ret_pure rfl trivial ?_) | exact (rfl : allOne _ = true) | (refine (?_ : (0 : Int) ≤ _); omega) | (refine (?_ : _ ≠ _); omega) | (refine (?_ : srcLen _ = rowsLen _); rfl) | exact Nat.le_of_ble_eq_true rfl | exact (by kernel_rfl : drawOk _ _ = true) | refine eqv_len_map ?_ | refine eqv_size ?_ | refine eqv_put (eqv_ck ?_) | refine eqv_zero ?_ | refine eqv_wrap (by omega) (by omega) ?_ | refine eqv_u64 (by omega) (by omega) ?_ | refine eqv_u8 (by omega) (by omega) ?_ | refine eqv_to _ (set_map rfl rfl) ?_ | refine ⟨_, _, (by first | rfl | assumption), at_map (by assumption), ?_⟩ | refine ⟨_, _, (by first | rfl | assumption), (by assumption), ?_⟩ | refine ⟨_, at_map (by assumption), (by decide), ?_⟩ | refine ⟨_, at_map (by assumption), ?_⟩ | (refine (?_ : _ ≤ 140737488355328); simp [rowsLen] <;> omega) | (refine (?_ : _ ≤ 9223372036854775807); simp [rowsLen] <;> omega) | (refine (?_ : _ = rowsLen _); simp [rowsLen] <;> omega) | refine eqv_to _ (app_row rfl) (eqv_to _ app_len ?_) | refine eqv_to _ (app_first rfl) (eqv_to 1 rfl ?_) | refine idx_sl (at_map (by assumption)) (by omega) ?_ | refine idx_ms _ (by first | rfl | assumption) (by first | assumption | omega) ?_ | (change vcFun _ _ _ _ _; refine call_eq rfl (by repeat' (first | trivial | refine And.intro ?_ ?_ | (show 0 + _ ≤ List.length _; simp))) ALeL.refl (hr) rfl ?_) | fail)
  refine loop_for (fun i : Nat => [(0, vint .i64 x), (3, slP 0 1 (wkL x i)), (4, vint .i64 (i + 1))]) (fun i => [obP 3 1 (wkL x i)]) (fun i => i ≤ 20) (fun i => 20 - i) 0 (Nat.zero_le _) ?_ ?_
  · exact back [0] rfl rfl (by repeat' (first | exact trivial | exact rfl | exact ren_get rfl | refine kept_ob rfl ?_ | exact ⟨_, rfl, ALe.refl⟩ | refine And.intro ?_ ?_)) (by repeat' (first | exact trivial | exact rfl | exact ren_get rfl | refine kept_ob rfl ?_ | exact ⟨_, rfl, ALe.refl⟩ | refine And.intro ?_ ?_))
  intro i hi
  have hl := wkL_len (x := x) (i := i)
  have hs : wkL x (i + 1) = if bitB x i = true then wkL x i ++ [[ei (i + 1)]] else wkL x i := rfl
  have e1 : IntKind.u64.wrap ((i : Int) + 1 - 1) = (i : Int) := by
    obtain ⟨b, h1, h2⟩ := eqv_u64 (x := (i : Int) + 1 - 1) (K := fun b => b = (i : Int)) (by omega) (by omega) (by omega)
    rw [h1, h2]
  have e2 := shr_i x i (by omega)
  generalize hL : wkL x i = L at *
  repeat' (first | (refine fv_sl ?_) | (refine fh_ob ?_) | (refine eqv_to _ e1 ?_) | (refine eqv_to _ e2 ?_) | (refine (eqv_rfl ?_ : eqv (bits _ _ _ _) _)) | ((refine o_app rfl rfl rfl rfl rfl rfl rfl rfl rfl rfl rfl (by omega) (by omega) ?_)) | refine o1 ?_ | refine o2 ?_ | refine k1 ?_ | refine k2 ?_ | refine k3 ?_ | refine k4 ?_ | refine k6 ?_ | refine k7 ?_ | refine k8 ?_ | refine And.intro ?_ ?_ | exact trivial | refine o3 ?_ | refine o4 ?_ | refine o5 ?_ | refine o6 ?_ | refine k5 ?_ | (intro h; first | exact Bool.noConfusion h | exact nz _ h | exact nl h | (simp at h; done) | (simp at h; first | (exfalso; omega) | skip) | skip) | (change retOk _ _ _ _; refine ret_pure rfl trivial ?_) | exact (rfl : allOne _ = true) | (refine (?_ : (0 : Int) ≤ _); omega) | (refine (?_ : _ ≠ _); omega) | (refine (?_ : srcLen _ = rowsLen _); rfl) | exact Nat.le_of_ble_eq_true rfl | exact (by kernel_rfl : drawOk _ _ = true) | refine eqv_len_map ?_ | refine eqv_size ?_ | refine eqv_put (eqv_ck ?_) | refine eqv_zero ?_ | refine eqv_wrap (by omega) (by omega) ?_ | refine eqv_u64 (by omega) (by omega) ?_ | refine eqv_u8 (by omega) (by omega) ?_ | refine eqv_to _ (set_map rfl rfl) ?_ | refine ⟨_, _, (by first | rfl | assumption), at_map (by assumption), ?_⟩ | refine ⟨_, _, (by first | rfl | assumption), (by assumption), ?_⟩ | refine ⟨_, at_map (by assumption), (by decide), ?_⟩ | refine ⟨_, at_map (by assumption), ?_⟩ | (refine (?_ : _ ≤ 140737488355328); simp [rowsLen] <;> omega) | (refine (?_ : _ ≤ 9223372036854775807); simp [rowsLen] <;> omega) | (refine (?_ : _ = rowsLen _); simp [rowsLen] <;> omega) | refine eqv_to _ (app_row rfl) (eqv_to _ app_len ?_) | refine eqv_to _ (app_first rfl) (eqv_to 1 rfl ?_) | refine idx_sl (at_map (by assumption)) (by omega) ?_ | refine idx_ms _ (by first | rfl | assumption) (by first | assumption | omega) ?_ | fail)
  · rename_i h2
    refine ⟨i + 1, by omega, by omega, ?_⟩
    rw [hs, if_pos (by unfold bitB; rw [h]; rfl), sl_app, ob_app]
    exact back [2] rfl rfl (by repeat' (first | exact trivial | exact rfl | exact ren_get rfl | refine kept_ob rfl ?_ | exact ⟨_, rfl, ALe.refl⟩ | refine And.intro ?_ ?_)) (by repeat' (first | exact trivial | exact rfl | exact ren_get rfl | refine kept_ob rfl ?_ | exact ⟨_, rfl, ALe.refl⟩ | refine And.intro ?_ ?_))
  · refine ⟨i + 1, by omega, by omega, ?_⟩
    rw [hs, if_neg (by unfold bitB; simpa using h)]
    exact back [0] rfl rfl (by repeat' (first | exact trivial | exact rfl | exact ren_get rfl | refine kept_ob rfl ?_ | exact ⟨_, rfl, ALe.refl⟩ | refine And.intro ?_ ?_)) (by repeat' (first | exact trivial | exact rfl | exact ren_get rfl | refine kept_ob rfl ?_ | exact ⟨_, rfl, ALe.refl⟩ | refine And.intro ?_ ?_))
  · have : i = 20 := by omega
    subst this
    subst hL
    exact ret_sl rfl ⟨ALe.refl⟩ leq_down
theorem c_weeks (x : Int) (h : setP x 20) : PCall Tryz.prog 94 [vint .i64 x] (fun r => r = .pv (.sl 1 (wkL x 20))) := (c_weeks0 x h).weak fun r k => ⟨_, k.le, rfl⟩
theorem c_low (x : Int) (h : setP x 20) : PCall Tryz.prog 72 [vint .i64 x] (fun r => r = vint .i64 (lowI x + 1)) := by
  have hw := c_weeks x h
  obtain ⟨n, rfl, h0, hn⟩ := set_pos h
  obtain ⟨r, hr⟩ := (wkL_low h0 hn (i := 20)).2 (low_lt20 h0 hn)
  rw [hr] at hw
  refine acall_of tok mixed 7 rfl (fn := Tryz.f72) (c := Tryz.f72.body.getD .skip) (by kernel_rfl) (by kernel_rfl) (by kernel_rfl) rfl 0 rfl ?_
  repeat' (first | ((change vcFun _ _ _ _ _; refine call_frz rfl (by repeat' (first | trivial | refine And.intro ?_ ?_ | (show 0 + _ ≤ List.length _; simp))) ALeL.refl hw ?_; rintro _ rfl)) | (refine idx_sl (k := 0) rfl rfl ?_) | refine o1 ?_ | refine o2 ?_ | refine k1 ?_ | refine k2 ?_ | refine k3 ?_ | refine k4 ?_ | refine k6 ?_ | refine k7 ?_ | refine k8 ?_ | refine And.intro ?_ ?_ | exact trivial | refine o3 ?_ | refine o4 ?_ | refine o5 ?_ | refine o6 ?_ | refine k5 ?_ | (intro h; first | exact Bool.noConfusion h | exact nz _ h | exact nl h | (simp at h; done) | (simp at h; first | (exfalso; omega) | skip) | skip) | (change retOk _ _ _ _; refine ret_pure rfl trivial ?_) | exact (rfl : allOne _ = true) | (refine (?_ : (0 : Int) ≤ _); omega) | (refine (?_ : _ ≠ _); omega) | (refine (?_ : srcLen _ = rowsLen _); rfl) | exact Nat.le_of_ble_eq_true rfl | exact (by kernel_rfl : drawOk _ _ = true) | refine eqv_len_map ?_ | refine eqv_size ?_ | refine eqv_put (eqv_ck ?_) | refine eqv_zero ?_ | refine eqv_wrap (by omega) (by omega) ?_ | refine eqv_u64 (by omega) (by omega) ?_ | refine eqv_u8 (by omega) (by omega) ?_ | refine eqv_to _ (set_map rfl rfl) ?_ | refine ⟨_, _, (by first | rfl | assumption), at_map (by assumption), ?_⟩ | refine ⟨_, _, (by first | rfl | assumption), (by assumption), ?_⟩ | refine ⟨_, at_map (by assumption), (by decide), ?_⟩ | refine ⟨_, at_map (by assumption), ?_⟩ | (refine (?_ : _ ≤ 140737488355328); simp [rowsLen] <;> omega) | (refine (?_ : _ ≤ 9223372036854775807); simp [rowsLen] <;> omega) | (refine (?_ : _ = rowsLen _); simp [rowsLen] <;> omega) | refine eqv_to _ (app_row rfl) (eqv_to _ app_len ?_) | refine eqv_to _ (app_first rfl) (eqv_to 1 rfl ?_) | refine idx_sl (at_map (by assumption)) (by omega) ?_ | refine idx_ms _ (by first | rfl | assumption) (by first | assumption | omega) ?_ | fail)
  rfl
theorem c_single (s : Sess) (w : Int) : PCall Tryz.prog 47 [ag s.row, vint .i64 w] (fun r => r = vint .i64 (sessE s w)) := by
  have room : ∀ {b : Bool}, sEq s.room emp = b → (b = true → s.room = emp) ∧ (b = false → ¬ s.room = emp) := fun h => ⟨fun e => sEq_iff.1 (h.trans e), fun e => sEq_f.1 (h.trans e)⟩
  refine acall_of tok mixed 30 rfl (fn := Tryz.f47) (c := Tryz.f47.body.getD .skip) (by kernel_rfl) (by kernel_rfl) (by kernel_rfl) rfl 0 rfl ?_
  repeat' (first | refine o1 ?_ | refine o2 ?_ | refine k1 ?_ | refine k2 ?_ | refine k3 ?_ | refine k4 ?_ | refine k6 ?_ | refine k7 ?_ | refine k8 ?_ | refine And.intro ?_ ?_ | exact trivial | refine o3 ?_ | refine o4 ?_ | refine o5 ?_ | refine o6 ?_ | refine k5 ?_ | (intro h; first | exact Bool.noConfusion h | exact nz _ h | exact nl h | (simp at h; done) | (simp at h; first | (exfalso; omega) | skip) | skip) | (change retOk _ _ _ _; refine ret_pure rfl trivial ?_) | exact (rfl : allOne _ = true) | (refine (?_ : (0 : Int) ≤ _); omega) | (refine (?_ : _ ≠ _); omega) | (refine (?_ : srcLen _ = rowsLen _); rfl) | exact Nat.le_of_ble_eq_true rfl | exact (by kernel_rfl : drawOk _ _ = true) | refine eqv_len_map ?_ | refine eqv_size ?_ | refine eqv_put (eqv_ck ?_) | refine eqv_zero ?_ | refine eqv_wrap (by omega) (by omega) ?_ | refine eqv_u64 (by omega) (by omega) ?_ | refine eqv_u8 (by omega) (by omega) ?_ | refine eqv_to _ (set_map rfl rfl) ?_ | refine ⟨_, _, (by first | rfl | assumption), at_map (by assumption), ?_⟩ | refine ⟨_, _, (by first | rfl | assumption), (by assumption), ?_⟩ | refine ⟨_, at_map (by assumption), (by decide), ?_⟩ | refine ⟨_, at_map (by assumption), ?_⟩ | (refine (?_ : _ ≤ 140737488355328); simp [rowsLen] <;> omega) | (refine (?_ : _ ≤ 9223372036854775807); simp [rowsLen] <;> omega) | (refine (?_ : _ = rowsLen _); simp [rowsLen] <;> omega) | refine eqv_to _ (app_row rfl) (eqv_to _ app_len ?_) | refine eqv_to _ (app_first rfl) (eqv_to 1 rfl ?_) | refine idx_sl (at_map (by assumption)) (by omega) ?_ | refine idx_ms _ (by first | rfl | assumption) (by first | assumption | omega) ?_ | (change vcFun _ _ _ _ _; refine call_eq rfl (by repeat' (first | trivial | refine And.intro ?_ ?_ | (show 0 + _ ≤ List.length _; simp))) ALeL.refl (c_rcode s.cls) rfl ?_) | (change vcFun _ _ _ _ _; refine call_eq rfl (by repeat' (first | trivial | refine And.intro ?_ ?_ | (show 0 + _ ≤ List.length _; simp))) ALeL.refl (c_rcode s.room) rfl ?_) | (change vcFun _ _ _ _ _; refine call_eq rfl (by repeat' (first | trivial | refine And.intro ?_ ?_ | (show 0 + _ ≤ List.length _; simp))) ALeL.refl (c_rsound s.time) rfl ?_) | (change vcFun _ _ _ _ _; refine call_eq rfl (by repeat' (first | trivial | refine And.intro ?_ ?_ | (show 0 + _ ≤ List.length _; simp))) ALeL.refl (c_rset s.time.weeks w) rfl ?_) | (change vcFunD _ _ _ _ _; refine callD_eq rfl (by repeat' (first | trivial | refine And.intro ?_ ?_ | (show 0 + _ ≤ List.length _; simp))) ALeL.refl (c_rcode s.cls) rfl ?_) | (change vcFunD _ _ _ _ _; refine callD_eq rfl (by repeat' (first | trivial | refine And.intro ?_ ?_ | (show 0 + _ ≤ List.length _; simp))) ALeL.refl (c_rcode s.room) rfl ?_) | fail)
  · exact congrArg (vint .i64) (by unfold sessE; rw [if_neg (by rw [pB_f h]; simp)])
  · rename_i h1 h2
    exact congrArg (vint .i64) (by unfold sessE; rw [if_pos (pB_t h1), if_neg (by rw [pB_f fun k => h k.2]; simp)])
  · rename_i h1 h2 h3 h4
    exact congrArg (vint .i64) (by unfold sessE; rw [if_pos (pB_t h1), if_pos (pB_t ⟨h2, h3⟩), if_neg (by rw [pB_f fun k => k.elim ((room h4).2 rfl) h]; simp)])
  · rename_i h1 h2 h3 h4
    exact congrArg (vint .i64) (by unfold sessE; rw [if_pos (pB_t h1), if_pos (pB_t ⟨h2, h3⟩), if_pos (pB_t (.inr h))])
  · rename_i h1 h2 h3 h4
    exact congrArg (vint .i64) (by unfold sessE; rw [if_pos (pB_t h1), if_pos (pB_t ⟨h2, h3⟩), if_pos (pB_t (.inl ((room h4).1 rfl)))])
  · rename_i h1 h2
    exact congrArg (vint .i64) (by unfold sessE; rw [if_pos (pB_t h1), if_neg (by rw [pB_f fun k => h2 k.1]; simp)])
theorem c_ralike (a b : Sess) : PCall Tryz.prog 54 [ag a.row, ag b.row] (fun r => r = vbool (pB (alikeP a b))) := by
  refine acall_of tok mixed 12 rfl (fn := Tryz.f54) (c := Tryz.f54.body.getD .skip) (by kernel_rfl) (by kernel_rfl) (by kernel_rfl) rfl 0 rfl ?_
  repeat' (first | refine o1 ?_ | refine o2 ?_ | refine k1 ?_ | refine k2 ?_ | refine k3 ?_ | refine k4 ?_ | refine k6 ?_ | refine k7 ?_ | refine k8 ?_ | refine And.intro ?_ ?_ | exact trivial | refine o3 ?_ | refine o4 ?_ | refine o5 ?_ | refine o6 ?_ | refine k5 ?_ | (intro h; first | exact Bool.noConfusion h | exact nz _ h | exact nl h | (simp at h; done) | (simp at h; first | (exfalso; omega) | skip) | skip) | (change retOk _ _ _ _; refine ret_pure rfl trivial ?_) | exact (rfl : allOne _ = true) | (refine (?_ : (0 : Int) ≤ _); omega) | (refine (?_ : _ ≠ _); omega) | (refine (?_ : srcLen _ = rowsLen _); rfl) | exact Nat.le_of_ble_eq_true rfl | exact (by kernel_rfl : drawOk _ _ = true) | refine eqv_len_map ?_ | refine eqv_size ?_ | refine eqv_put (eqv_ck ?_) | refine eqv_zero ?_ | refine eqv_wrap (by omega) (by omega) ?_ | refine eqv_u64 (by omega) (by omega) ?_ | refine eqv_u8 (by omega) (by omega) ?_ | refine eqv_to _ (set_map rfl rfl) ?_ | refine ⟨_, _, (by first | rfl | assumption), at_map (by assumption), ?_⟩ | refine ⟨_, _, (by first | rfl | assumption), (by assumption), ?_⟩ | refine ⟨_, at_map (by assumption), (by decide), ?_⟩ | refine ⟨_, at_map (by assumption), ?_⟩ | (refine (?_ : _ ≤ 140737488355328); simp [rowsLen] <;> omega) | (refine (?_ : _ ≤ 9223372036854775807); simp [rowsLen] <;> omega) | (refine (?_ : _ = rowsLen _); simp [rowsLen] <;> omega) | refine eqv_to _ (app_row rfl) (eqv_to _ app_len ?_) | refine eqv_to _ (app_first rfl) (eqv_to 1 rfl ?_) | refine idx_sl (at_map (by assumption)) (by omega) ?_ | refine idx_ms _ (by first | rfl | assumption) (by first | assumption | omega) ?_ | fail)
  exact congrArg vbool alike_b
theorem c_before (a b : Sess) (ha : setP a.time.weeks 20) (hb : setP b.time.weeks 20) : PCall Tryz.prog 53 [ag a.row, ag b.row] (fun r => r = vbool (pB (befP a b))) := by
  have h1 := c_low _ ha
  have h2 := c_low _ hb
  refine acall_of tok mixed 28 rfl (fn := Tryz.f53) (c := Tryz.f53.body.getD .skip) (by kernel_rfl) (by kernel_rfl) (by kernel_rfl) rfl 0 rfl ?_
  repeat' (first | refine o1 ?_ | refine o2 ?_ | refine k1 ?_ | refine k2 ?_ | refine k3 ?_ | refine k4 ?_ | refine k6 ?_ | refine k7 ?_ | refine k8 ?_ | refine And.intro ?_ ?_ | exact trivial | refine o3 ?_ | refine o4 ?_ | refine o5 ?_ | refine o6 ?_ | refine k5 ?_ | (intro h; first | exact Bool.noConfusion h | exact nz _ h | exact nl h | (simp at h; done) | (simp at h; first | (exfalso; omega) | skip) | skip) | (change retOk _ _ _ _; refine ret_pure rfl trivial ?_) | exact (rfl : allOne _ = true) | (refine (?_ : (0 : Int) ≤ _); omega) | (refine (?_ : _ ≠ _); omega) | (refine (?_ : srcLen _ = rowsLen _); rfl) | exact Nat.le_of_ble_eq_true rfl | exact (by kernel_rfl : drawOk _ _ = true) | refine eqv_len_map ?_ | refine eqv_size ?_ | refine eqv_put (eqv_ck ?_) | refine eqv_zero ?_ | refine eqv_wrap (by omega) (by omega) ?_ | refine eqv_u64 (by omega) (by omega) ?_ | refine eqv_u8 (by omega) (by omega) ?_ | refine eqv_to _ (set_map rfl rfl) ?_ | refine ⟨_, _, (by first | rfl | assumption), at_map (by assumption), ?_⟩ | refine ⟨_, _, (by first | rfl | assumption), (by assumption), ?_⟩ | refine ⟨_, at_map (by assumption), (by decide), ?_⟩ | refine ⟨_, at_map (by assumption), ?_⟩ | (refine (?_ : _ ≤ 140737488355328); simp [rowsLen] <;> omega) | (refine (?_ : _ ≤ 9223372036854775807); simp [rowsLen] <;> omega) | (refine (?_ : _ = rowsLen _); simp [rowsLen] <;> omega) | refine eqv_to _ (app_row rfl) (eqv_to _ app_len ?_) | refine eqv_to _ (app_first rfl) (eqv_to 1 rfl ?_) | refine idx_sl (at_map (by assumption)) (by omega) ?_ | refine idx_ms _ (by first | rfl | assumption) (by first | assumption | omega) ?_ | (change vcFunD _ _ _ _ _; refine callD_eq rfl (by repeat' (first | trivial | refine And.intro ?_ ?_ | (show 0 + _ ≤ List.length _; simp))) ALeL.refl (h1) rfl ?_) | (change vcFunD _ _ _ _ _; refine callD_eq rfl (by repeat' (first | trivial | refine And.intro ?_ ?_ | (show 0 + _ ≤ List.length _; simp))) ALeL.refl (h2) rfl ?_) | fail)
  · rename_i h3
    obtain he := sEq_iff.1 h
    refine congrArg vbool (pB_eq ?_)
    unfold befP
    rw [h3]
    simp [he]
  · rename_i h3
    exact congrArg vbool (pB_f fun k => k.elim (fun k => by rw [h3] at k; cases k) fun k => sEq_f.1 h k.1).symm
  · exact congrArg vbool (pB_t (.inl h)).symm
end Go.Proofs.YtbcacaodfpgflaaGreatDoor.Cw

/-
  Contracts: which lists are valid.
-/
namespace Go.Proofs.YtbcacaodfpgflaaGreatDoor.Cw
open Go Go.Cw Go.Proofs
set_option linter.unusedVariables false
set_option maxRecDepth 100000
set_option maxHeartbeats 4000000

theorem slice_to {α : Type} {i : Nat} {f : α → List PV} {xs : List α} {K : List (List PV) → Prop} (hi : i ≤ xs.length) (hk : K ((xs.take i).map f)) :
    ∃ (l h : Nat), loIs none l ∧ hiIs (some (vint .i64 i)) (xs.map f).length h ∧ l ≤ h ∧ h ≤ (xs.map f).length ∧ eqv (((xs.map f).take h).drop l) K := by
  refine ⟨0, i, rfl, rfl, Nat.zero_le _, by rw [List.length_map]; exact hi, ⟨_, rfl, ?_⟩⟩
  rw [List.drop_zero, ← List.map_take]; exact hk
theorem vl3 {l : List Sess} {w : Int} (h : w < 1 ∨ 20 < w) : validE l w = 3 := if_pos h
section
variable {l : List Sess} {w : Int} (hw : 1 ≤ w ∧ w ≤ 20)
include hw
theorem vl2 (h : 96 < l.length) : validE l w = 2 := by unfold validE; rw [if_neg (by omega), if_pos h]
variable (hn : l.length ≤ 96)
include hn
theorem vl_s {i : Nat} (h0 : ∀ j, j < i → sessAt l w j = 0) (hi : i < l.length) (h : sessAt l w i ≠ 0) : validE l w = sessAt l w i := by
  have e : singE l w = sessAt l w i := firstE_at h0 h hi
  unfold validE; rw [if_neg (by omega), if_neg (by omega), if_pos (by rw [e]; exact h), e]
variable (hs : singE l w = 0)
include hs
theorem vl_o (h : ¬ risesP l) : validE l w = 63 := by unfold validE; rw [if_neg (by omega), if_neg (by omega), if_neg (by simp [hs]), if_neg (by rw [pB_f h]; simp)]
theorem vl_d (h : risesP l) (k : ¬ apartQ clashP l) : validE l w = 11 := by unfold validE; rw [if_neg (by omega), if_neg (by omega), if_neg (by simp [hs]), if_pos (pB_t h), if_neg (by rw [pB_f k]; simp)]
theorem vl_0 (h : risesP l) (k : apartQ clashP l) : validE l w = 0 := by unfold validE; rw [if_neg (by omega), if_neg (by omega), if_neg (by simp [hs]), if_pos (pB_t h), if_pos (pB_t k)]
end
theorem sessAt_at {l : List Sess} {w : Int} {i : Nat} {s : Sess} (h : l[i]? = some s) : sessAt l w i = sessE s w := by unfold sessAt; rw [h]
theorem sing_all {l : List Sess} {w : Int} (h : ∀ j, j < l.length → sessAt l w j = 0) : singE l w = 0 := firstE_zero h

theorem c_valid (l : List Sess) (w : Int) (hl : l.length ≤ 2199023255552) : PCall Tryz.prog 21 [.pv (encSess l), vint .i64 w] (fun r => r = vint .i64 (validE l w)) := by
  refine acall_of tok mixed 79 rfl (fn := Tryz.f21) (c := Tryz.f21.body.getD .skip) (by kernel_rfl) (by kernel_rfl) (by kernel_rfl) rfl 0 rfl ?_
  repeat' (first | refine o1 ?_ | refine o2 ?_ | refine k1 ?_ | refine k2 ?_ | refine k3 ?_ | refine k4 ?_ | refine k6 ?_ | refine k7 ?_ | refine k8 ?_ | refine And.intro ?_ ?_ | exact trivial | refine o3 ?_ | refine o4 ?_ | refine o5 ?_ | refine o6 ?_ | refine k5 ?_ | (intro h; first | exact Bool.noConfusion h | exact nz _ h | exact nl h | (simp at h; done) | (simp at h; first | (exfalso; omega) | skip) | skip) | (change retOk _ _ _ _; refine ret_pure rfl trivial ?_) | exact (rfl : allOne _ = true) | (refine (?_ : (0 : Int) ≤ _); omega) | (refine (?_ : _ ≠ _); omega) | (refine (?_ : srcLen _ = rowsLen _); rfl) | exact Nat.le_of_ble_eq_true rfl | exact (by kernel_rfl : drawOk _ _ = true) | refine eqv_len_map ?_ | refine eqv_size ?_ | refine eqv_put (eqv_ck ?_) | refine eqv_zero ?_ | refine eqv_wrap (by omega) (by omega) ?_ | refine eqv_u64 (by omega) (by omega) ?_ | refine eqv_u8 (by omega) (by omega) ?_ | refine eqv_to _ (set_map rfl rfl) ?_ | refine ⟨_, _, (by first | rfl | assumption), at_map (by assumption), ?_⟩ | refine ⟨_, _, (by first | rfl | assumption), (by assumption), ?_⟩ | refine ⟨_, at_map (by assumption), (by decide), ?_⟩ | refine ⟨_, at_map (by assumption), ?_⟩ | (refine (?_ : _ ≤ 140737488355328); simp [rowsLen] <;> omega) | (refine (?_ : _ ≤ 9223372036854775807); simp [rowsLen] <;> omega) | (refine (?_ : _ = rowsLen _); simp [rowsLen] <;> omega) | refine eqv_to _ (app_row rfl) (eqv_to _ app_len ?_) | refine eqv_to _ (app_first rfl) (eqv_to 1 rfl ?_) | refine idx_sl (at_map (by assumption)) (by omega) ?_ | refine idx_ms _ (by first | rfl | assumption) (by first | assumption | omega) ?_ | fail)
  · exact congrArg (vint .i64) (vl3 (by omega)).symm
  · exact congrArg (vint .i64) (vl2 (by omega) (by omega)).symm
  · have hw : 1 ≤ w ∧ w ≤ 20 := by omega
    have hn : l.length ≤ 96 := by omega
    refine loop_at (fun i : Nat => [(24, vint .i64 i)]) (fun _ => []) (fun i => i ≤ l.length ∧ ∀ j, j < i → sessAt l w j = 0) (fun i => l.length - i) 0 ⟨Nat.zero_le _, fun j hj => by omega⟩ (by repeat' (first | exact trivial | exact rfl | exact ⟨_, rfl, ALe.refl⟩ | refine And.intro ?_ ?_)) (by repeat' (first | exact trivial | exact rfl | exact ⟨_, rfl, ALe.refl⟩ | refine And.intro ?_ ?_)) ?_
    intro i ⟨hi, hall⟩
    rcases Nat.lt_or_ge i l.length with hlt | hge
    · obtain ⟨s, hs⟩ := getE hlt
      have hc := c_chk s w
      have hsa := sessAt_at (w := w) hs
      generalize sessE s w = E at *
      repeat' (first | refine o1 ?_ | refine o2 ?_ | refine k1 ?_ | refine k2 ?_ | refine k3 ?_ | refine k4 ?_ | refine k6 ?_ | refine k7 ?_ | refine k8 ?_ | refine And.intro ?_ ?_ | exact trivial | refine o3 ?_ | refine o4 ?_ | refine o5 ?_ | refine o6 ?_ | refine k5 ?_ | (intro h; first | exact Bool.noConfusion h | exact nz _ h | exact nl h | (simp at h; done) | (simp at h; first | (exfalso; omega) | skip) | skip) | (change retOk _ _ _ _; refine ret_pure rfl trivial ?_) | exact (rfl : allOne _ = true) | (refine (?_ : (0 : Int) ≤ _); omega) | (refine (?_ : _ ≠ _); omega) | (refine (?_ : srcLen _ = rowsLen _); rfl) | exact Nat.le_of_ble_eq_true rfl | exact (by kernel_rfl : drawOk _ _ = true) | refine eqv_len_map ?_ | refine eqv_size ?_ | refine eqv_put (eqv_ck ?_) | refine eqv_zero ?_ | refine eqv_wrap (by omega) (by omega) ?_ | refine eqv_u64 (by omega) (by omega) ?_ | refine eqv_u8 (by omega) (by omega) ?_ | refine eqv_to _ (set_map rfl rfl) ?_ | refine ⟨_, _, (by first | rfl | assumption), at_map (by assumption), ?_⟩ | refine ⟨_, _, (by first | rfl | assumption), (by assumption), ?_⟩ | refine ⟨_, at_map (by assumption), (by decide), ?_⟩ | refine ⟨_, at_map (by assumption), ?_⟩ | (refine (?_ : _ ≤ 140737488355328); simp [rowsLen] <;> omega) | (refine (?_ : _ ≤ 9223372036854775807); simp [rowsLen] <;> omega) | (refine (?_ : _ = rowsLen _); simp [rowsLen] <;> omega) | refine eqv_to _ (app_row rfl) (eqv_to _ app_len ?_) | refine eqv_to _ (app_first rfl) (eqv_to 1 rfl ?_) | refine idx_sl (at_map (by assumption)) (by omega) ?_ | refine idx_ms _ (by first | rfl | assumption) (by first | assumption | omega) ?_ | (change vcFun _ _ _ _ _; refine call_eq rfl (by repeat' (first | trivial | refine And.intro ?_ ?_ | (show 0 + _ ≤ List.length _; simp))) ALeL.refl (hc) rfl ?_) | fail)
      · exact congrArg (vint .i64) ((vl_s hw hn hall hlt (by rw [hsa]; assumption)).trans hsa).symm
      · exact ⟨i + 1, ⟨by omega, all_lt_succ hall (by rw [hsa]; assumption)⟩, by omega, back [] rfl rfl trivial (by repeat' (first | exact trivial | exact rfl | exact ⟨_, rfl, ALe.refl⟩ | refine And.intro ?_ ?_))⟩
    · obtain rfl : i = l.length := by omega
      have hs0 := sing_all hall
      have hsi := sing_zero.1 hs0
      repeat' (first | refine o1 ?_ | refine o2 ?_ | refine k1 ?_ | refine k2 ?_ | refine k3 ?_ | refine k4 ?_ | refine k6 ?_ | refine k7 ?_ | refine k8 ?_ | refine And.intro ?_ ?_ | exact trivial | refine o3 ?_ | refine o4 ?_ | refine o5 ?_ | refine o6 ?_ | refine k5 ?_ | (intro h; first | exact Bool.noConfusion h | exact nz _ h | exact nl h | (simp at h; done) | (simp at h; first | (exfalso; omega) | skip) | skip) | (change retOk _ _ _ _; refine ret_pure rfl trivial ?_) | exact (rfl : allOne _ = true) | (refine (?_ : (0 : Int) ≤ _); omega) | (refine (?_ : _ ≠ _); omega) | (refine (?_ : srcLen _ = rowsLen _); rfl) | exact Nat.le_of_ble_eq_true rfl | exact (by kernel_rfl : drawOk _ _ = true) | refine eqv_len_map ?_ | refine eqv_size ?_ | refine eqv_put (eqv_ck ?_) | refine eqv_zero ?_ | refine eqv_wrap (by omega) (by omega) ?_ | refine eqv_u64 (by omega) (by omega) ?_ | refine eqv_u8 (by omega) (by omega) ?_ | refine eqv_to _ (set_map rfl rfl) ?_ | refine ⟨_, _, (by first | rfl | assumption), at_map (by assumption), ?_⟩ | refine ⟨_, _, (by first | rfl | assumption), (by assumption), ?_⟩ | refine ⟨_, at_map (by assumption), (by decide), ?_⟩ | refine ⟨_, at_map (by assumption), ?_⟩ | (refine (?_ : _ ≤ 140737488355328); simp [rowsLen] <;> omega) | (refine (?_ : _ ≤ 9223372036854775807); simp [rowsLen] <;> omega) | (refine (?_ : _ = rowsLen _); simp [rowsLen] <;> omega) | refine eqv_to _ (app_row rfl) (eqv_to _ app_len ?_) | refine eqv_to _ (app_first rfl) (eqv_to 1 rfl ?_) | refine idx_sl (at_map (by assumption)) (by omega) ?_ | refine idx_ms _ (by first | rfl | assumption) (by first | assumption | omega) ?_ | fail)
      refine loop_at (fun k : Nat => [(8, vint .i64 (k + 1))]) (fun _ => []) (fun k => (k = 0 ∨ k + 1 ≤ l.length) ∧ ∀ j, j < k → ∀ a b, l[j]? = some a → l[j + 1]? = some b → befP a b) (fun k => l.length - k) 0 ⟨.inl rfl, fun j hj => by omega⟩ (by repeat' (first | exact trivial | exact rfl | exact ⟨_, rfl, ALe.refl⟩ | refine And.intro ?_ ?_)) (by repeat' (first | exact trivial | exact rfl | exact ⟨_, rfl, ALe.refl⟩ | refine And.intro ?_ ?_)) ?_
      intro k ⟨hk, hall2⟩
      rcases Nat.lt_or_ge (k + 1) l.length with hlt | hge
      · obtain ⟨a, ha⟩ := getE (show k < l.length by omega)
        obtain ⟨b, hb⟩ := getE hlt
        have h1 := c_date a w (sess_ok (hsi a (List.mem_of_getElem? ha))).2.1.2
        have h2 := c_date b w (sess_ok (hsi b (List.mem_of_getElem? hb))).2.1.2
        have h3 := c_order a b
        have h4 := ord_bef (a := a) (b := b)
        generalize ordI a b = O at *
        repeat' (first | (refine idx_sl (k := k) (at_map ha) (by omega) ?_) | (refine idx_sl (k := k + 1) (at_map hb) (by omega) ?_) | refine o1 ?_ | refine o2 ?_ | refine k1 ?_ | refine k2 ?_ | refine k3 ?_ | refine k4 ?_ | refine k6 ?_ | refine k7 ?_ | refine k8 ?_ | refine And.intro ?_ ?_ | exact trivial | refine o3 ?_ | refine o4 ?_ | refine o5 ?_ | refine o6 ?_ | refine k5 ?_ | (intro h; first | exact Bool.noConfusion h | exact nz _ h | exact nl h | (simp at h; done) | (simp at h; first | (exfalso; omega) | skip) | skip) | (change retOk _ _ _ _; refine ret_pure rfl trivial ?_) | exact (rfl : allOne _ = true) | (refine (?_ : (0 : Int) ≤ _); omega) | (refine (?_ : _ ≠ _); omega) | (refine (?_ : srcLen _ = rowsLen _); rfl) | exact Nat.le_of_ble_eq_true rfl | exact (by kernel_rfl : drawOk _ _ = true) | refine eqv_len_map ?_ | refine eqv_size ?_ | refine eqv_put (eqv_ck ?_) | refine eqv_zero ?_ | refine eqv_wrap (by omega) (by omega) ?_ | refine eqv_u64 (by omega) (by omega) ?_ | refine eqv_u8 (by omega) (by omega) ?_ | refine eqv_to _ (set_map rfl rfl) ?_ | refine ⟨_, _, (by first | rfl | assumption), at_map (by assumption), ?_⟩ | refine ⟨_, _, (by first | rfl | assumption), (by assumption), ?_⟩ | refine ⟨_, at_map (by assumption), (by decide), ?_⟩ | refine ⟨_, at_map (by assumption), ?_⟩ | (refine (?_ : _ ≤ 140737488355328); simp [rowsLen] <;> omega) | (refine (?_ : _ ≤ 9223372036854775807); simp [rowsLen] <;> omega) | (refine (?_ : _ = rowsLen _); simp [rowsLen] <;> omega) | refine eqv_to _ (app_row rfl) (eqv_to _ app_len ?_) | refine eqv_to _ (app_first rfl) (eqv_to 1 rfl ?_) | refine idx_sl (at_map (by assumption)) (by omega) ?_ | refine idx_ms _ (by first | rfl | assumption) (by first | assumption | omega) ?_ | (change vcFunD _ _ _ _ _; refine callD_eq rfl (by repeat' (first | trivial | refine And.intro ?_ ?_ | (show 0 + _ ≤ List.length _; simp))) ALeL.refl (h1) rfl ?_) | (change vcFunD _ _ _ _ _; refine callD_eq rfl (by repeat' (first | trivial | refine And.intro ?_ ?_ | (show 0 + _ ≤ List.length _; simp))) ALeL.refl (h2) rfl ?_) | (change vcFunD _ _ _ _ _; refine callD_eq rfl (by repeat' (first | trivial | refine And.intro ?_ ?_ | (show 0 + _ ≤ List.length _; simp))) ALeL.refl (h3) rfl ?_) | fail)
        · exact congrArg (vint .i64) (vl_o hw hn hs0 fun hr => by have := h4.2 (hr k a b ha hb); omega).symm
        · exact ⟨k + 1, ⟨.inr (by omega), all_lt_succ hall2 fun a' b' q1 q2 => by rw [ha] at q1; cases q1; rw [hb] at q2; cases q2; exact h4.1 h⟩, by omega, back [] rfl rfl trivial (by repeat' (first | exact trivial | exact rfl | exact ⟨_, rfl, ALe.refl⟩ | refine And.intro ?_ ?_))⟩
      · have hr : risesP l := fun j a b q1 q2 => hall2 j (by have := (List.getElem?_eq_some_iff.1 q2).1; omega) a b q1 q2
        repeat' (first | refine o1 ?_ | refine o2 ?_ | refine k1 ?_ | refine k2 ?_ | refine k3 ?_ | refine k4 ?_ | refine k6 ?_ | refine k7 ?_ | refine k8 ?_ | refine And.intro ?_ ?_ | exact trivial | refine o3 ?_ | refine o4 ?_ | refine o5 ?_ | refine o6 ?_ | refine k5 ?_ | (intro h; first | exact Bool.noConfusion h | exact nz _ h | exact nl h | (simp at h; done) | (simp at h; first | (exfalso; omega) | skip) | skip) | (change retOk _ _ _ _; refine ret_pure rfl trivial ?_) | exact (rfl : allOne _ = true) | (refine (?_ : (0 : Int) ≤ _); omega) | (refine (?_ : _ ≠ _); omega) | (refine (?_ : srcLen _ = rowsLen _); rfl) | exact Nat.le_of_ble_eq_true rfl | exact (by kernel_rfl : drawOk _ _ = true) | refine eqv_len_map ?_ | refine eqv_size ?_ | refine eqv_put (eqv_ck ?_) | refine eqv_zero ?_ | refine eqv_wrap (by omega) (by omega) ?_ | refine eqv_u64 (by omega) (by omega) ?_ | refine eqv_u8 (by omega) (by omega) ?_ | refine eqv_to _ (set_map rfl rfl) ?_ | refine ⟨_, _, (by first | rfl | assumption), at_map (by assumption), ?_⟩ | refine ⟨_, _, (by first | rfl | assumption), (by assumption), ?_⟩ | refine ⟨_, at_map (by assumption), (by decide), ?_⟩ | refine ⟨_, at_map (by assumption), ?_⟩ | (refine (?_ : _ ≤ 140737488355328); simp [rowsLen] <;> omega) | (refine (?_ : _ ≤ 9223372036854775807); simp [rowsLen] <;> omega) | (refine (?_ : _ = rowsLen _); simp [rowsLen] <;> omega) | refine eqv_to _ (app_row rfl) (eqv_to _ app_len ?_) | refine eqv_to _ (app_first rfl) (eqv_to 1 rfl ?_) | refine idx_sl (at_map (by assumption)) (by omega) ?_ | refine idx_ms _ (by first | rfl | assumption) (by first | assumption | omega) ?_ | fail)
        refine loop_at (fun i : Nat => [(56, vint .i64 i)]) (fun _ => []) (fun i => i ≤ l.length ∧ ∀ p, p < i → ∀ q a b, q < p → l[p]? = some a → l[q]? = some b → ¬ clashP a b) (fun i => l.length - i) 0 ⟨Nat.zero_le _, fun j hj => by omega⟩ (by repeat' (first | exact trivial | exact rfl | exact ⟨_, rfl, ALe.refl⟩ | refine And.intro ?_ ?_)) (by repeat' (first | exact trivial | exact rfl | exact ⟨_, rfl, ALe.refl⟩ | refine And.intro ?_ ?_)) ?_
        intro i ⟨hi, hall3⟩
        rcases Nat.lt_or_ge i l.length with hlt | hge2
        · obtain ⟨s, hs⟩ := getE hlt
          repeat' (first | (refine slice_to (by omega) ?_) | refine o1 ?_ | refine o2 ?_ | refine k1 ?_ | refine k2 ?_ | refine k3 ?_ | refine k4 ?_ | refine k6 ?_ | refine k7 ?_ | refine k8 ?_ | refine And.intro ?_ ?_ | exact trivial | refine o3 ?_ | refine o4 ?_ | refine o5 ?_ | refine o6 ?_ | refine k5 ?_ | (intro h; first | exact Bool.noConfusion h | exact nz _ h | exact nl h | (simp at h; done) | (simp at h; first | (exfalso; omega) | skip) | skip) | (change retOk _ _ _ _; refine ret_pure rfl trivial ?_) | exact (rfl : allOne _ = true) | (refine (?_ : (0 : Int) ≤ _); omega) | (refine (?_ : _ ≠ _); omega) | (refine (?_ : srcLen _ = rowsLen _); rfl) | exact Nat.le_of_ble_eq_true rfl | exact (by kernel_rfl : drawOk _ _ = true) | refine eqv_len_map ?_ | refine eqv_size ?_ | refine eqv_put (eqv_ck ?_) | refine eqv_zero ?_ | refine eqv_wrap (by omega) (by omega) ?_ | refine eqv_u64 (by omega) (by omega) ?_ | refine eqv_u8 (by omega) (by omega) ?_ | refine eqv_to _ (set_map rfl rfl) ?_ | refine ⟨_, _, (by first | rfl | assumption), at_map (by assumption), ?_⟩ | refine ⟨_, _, (by first | rfl | assumption), (by assumption), ?_⟩ | refine ⟨_, at_map (by assumption), (by decide), ?_⟩ | refine ⟨_, at_map (by assumption), ?_⟩ | (refine (?_ : _ ≤ 140737488355328); simp [rowsLen] <;> omega) | (refine (?_ : _ ≤ 9223372036854775807); simp [rowsLen] <;> omega) | (refine (?_ : _ = rowsLen _); simp [rowsLen] <;> omega) | refine eqv_to _ (app_row rfl) (eqv_to _ app_len ?_) | refine eqv_to _ (app_first rfl) (eqv_to 1 rfl ?_) | refine idx_sl (at_map (by assumption)) (by omega) ?_ | refine idx_ms _ (by first | rfl | assumption) (by first | assumption | omega) ?_ | fail)
          refine loop_at (fun k : Nat => [(65, vint .i64 k)]) (fun _ => []) (fun k => k ≤ i ∧ ∀ q, q < k → ∀ b, l[q]? = some b → ¬ clashP s b) (fun k => i - k) 0 ⟨Nat.zero_le _, fun j hj => by omega⟩ (by repeat' (first | exact trivial | exact rfl | exact ⟨_, rfl, ALe.refl⟩ | refine And.intro ?_ ?_)) (by repeat' (first | exact trivial | exact rfl | exact ⟨_, rfl, ALe.refl⟩ | refine And.intro ?_ ?_)) ?_
          intro k ⟨hk3, hall4⟩
          have htl : (l.take i).length = i := by rw [List.length_take]; omega
          rcases Nat.lt_or_ge k i with hlt2 | hge3
          · obtain ⟨t, ht⟩ := getE (show k < l.length by omega)
            have ht2 : (l.take i)[k]? = some t := by rw [List.getElem?_take_of_lt hlt2]; exact ht
            repeat' (first | refine o1 ?_ | refine o2 ?_ | refine k1 ?_ | refine k2 ?_ | refine k3 ?_ | refine k4 ?_ | refine k6 ?_ | refine k7 ?_ | refine k8 ?_ | refine And.intro ?_ ?_ | exact trivial | refine o3 ?_ | refine o4 ?_ | refine o5 ?_ | refine o6 ?_ | refine k5 ?_ | (intro h; first | exact Bool.noConfusion h | exact nz _ h | exact nl h | (simp at h; done) | (simp at h; first | (exfalso; omega) | skip) | skip) | (change retOk _ _ _ _; refine ret_pure rfl trivial ?_) | exact (rfl : allOne _ = true) | (refine (?_ : (0 : Int) ≤ _); omega) | (refine (?_ : _ ≠ _); omega) | (refine (?_ : srcLen _ = rowsLen _); rfl) | exact Nat.le_of_ble_eq_true rfl | exact (by kernel_rfl : drawOk _ _ = true) | refine eqv_len_map ?_ | refine eqv_size ?_ | refine eqv_put (eqv_ck ?_) | refine eqv_zero ?_ | refine eqv_wrap (by omega) (by omega) ?_ | refine eqv_u64 (by omega) (by omega) ?_ | refine eqv_u8 (by omega) (by omega) ?_ | refine eqv_to _ (set_map rfl rfl) ?_ | refine ⟨_, _, (by first | rfl | assumption), at_map (by assumption), ?_⟩ | refine ⟨_, _, (by first | rfl | assumption), (by assumption), ?_⟩ | refine ⟨_, at_map (by assumption), (by decide), ?_⟩ | refine ⟨_, at_map (by assumption), ?_⟩ | (refine (?_ : _ ≤ 140737488355328); simp [rowsLen] <;> omega) | (refine (?_ : _ ≤ 9223372036854775807); simp [rowsLen] <;> omega) | (refine (?_ : _ = rowsLen _); simp [rowsLen] <;> omega) | refine eqv_to _ (app_row rfl) (eqv_to _ app_len ?_) | refine eqv_to _ (app_first rfl) (eqv_to 1 rfl ?_) | refine idx_sl (at_map (by assumption)) (by omega) ?_ | refine idx_ms _ (by first | rfl | assumption) (by first | assumption | omega) ?_ | (change vcFun _ _ _ _ _; refine call_eq rfl (by repeat' (first | trivial | refine And.intro ?_ ?_ | (show 0 + _ ≤ List.length _; simp))) ALeL.refl (c_meet s t) rfl ?_) | (change vcFun _ _ _ _ _; refine call_eq rfl (by repeat' (first | trivial | refine And.intro ?_ ?_ | (show 0 + _ ≤ List.length _; simp))) ALeL.refl (c_alike s t) rfl ?_) | fail)
            · exact congrArg (vint .i64) (vl_d hw hn hs0 hr fun q => q i k s t hlt2 hs ht (.inr (by assumption))).symm
            · exact ⟨k + 1, ⟨by omega, all_lt_succ hall4 fun b hb => by rw [ht] at hb; cases hb; exact fun c => c.elim (by assumption) (by assumption)⟩, by omega, back [0] rfl rfl ⟨rfl, trivial⟩ (by repeat' (first | exact trivial | exact rfl | exact ⟨_, rfl, ALe.refl⟩ | refine And.intro ?_ ?_))⟩
            · exact congrArg (vint .i64) (vl_d hw hn hs0 hr fun q => q i k s t hlt2 hs ht (.inl (by assumption))).symm
          · repeat' (first | refine o1 ?_ | refine o2 ?_ | refine k1 ?_ | refine k2 ?_ | refine k3 ?_ | refine k4 ?_ | refine k6 ?_ | refine k7 ?_ | refine k8 ?_ | refine And.intro ?_ ?_ | exact trivial | refine o3 ?_ | refine o4 ?_ | refine o5 ?_ | refine o6 ?_ | refine k5 ?_ | (intro h; first | exact Bool.noConfusion h | exact nz _ h | exact nl h | (simp at h; done) | (simp at h; first | (exfalso; omega) | skip) | skip) | (change retOk _ _ _ _; refine ret_pure rfl trivial ?_) | exact (rfl : allOne _ = true) | (refine (?_ : (0 : Int) ≤ _); omega) | (refine (?_ : _ ≠ _); omega) | (refine (?_ : srcLen _ = rowsLen _); rfl) | exact Nat.le_of_ble_eq_true rfl | exact (by kernel_rfl : drawOk _ _ = true) | refine eqv_len_map ?_ | refine eqv_size ?_ | refine eqv_put (eqv_ck ?_) | refine eqv_zero ?_ | refine eqv_wrap (by omega) (by omega) ?_ | refine eqv_u64 (by omega) (by omega) ?_ | refine eqv_u8 (by omega) (by omega) ?_ | refine eqv_to _ (set_map rfl rfl) ?_ | refine ⟨_, _, (by first | rfl | assumption), at_map (by assumption), ?_⟩ | refine ⟨_, _, (by first | rfl | assumption), (by assumption), ?_⟩ | refine ⟨_, at_map (by assumption), (by decide), ?_⟩ | refine ⟨_, at_map (by assumption), ?_⟩ | (refine (?_ : _ ≤ 140737488355328); simp [rowsLen] <;> omega) | (refine (?_ : _ ≤ 9223372036854775807); simp [rowsLen] <;> omega) | (refine (?_ : _ = rowsLen _); simp [rowsLen] <;> omega) | refine eqv_to _ (app_row rfl) (eqv_to _ app_len ?_) | refine eqv_to _ (app_first rfl) (eqv_to 1 rfl ?_) | refine idx_sl (at_map (by assumption)) (by omega) ?_ | refine idx_ms _ (by first | rfl | assumption) (by first | assumption | omega) ?_ | fail)
            exact ⟨i + 1, ⟨by omega, all_lt_succ hall3 fun q a b hq ha hb => by rw [hs] at ha; cases ha; exact hall4 q (by omega) b hb⟩, by omega, back [] rfl rfl trivial (by repeat' (first | exact trivial | exact rfl | exact ⟨_, rfl, ALe.refl⟩ | refine And.intro ?_ ?_))⟩
        · repeat' (first | refine o1 ?_ | refine o2 ?_ | refine k1 ?_ | refine k2 ?_ | refine k3 ?_ | refine k4 ?_ | refine k6 ?_ | refine k7 ?_ | refine k8 ?_ | refine And.intro ?_ ?_ | exact trivial | refine o3 ?_ | refine o4 ?_ | refine o5 ?_ | refine o6 ?_ | refine k5 ?_ | (intro h; first | exact Bool.noConfusion h | exact nz _ h | exact nl h | (simp at h; done) | (simp at h; first | (exfalso; omega) | skip) | skip) | (change retOk _ _ _ _; refine ret_pure rfl trivial ?_) | exact (rfl : allOne _ = true) | (refine (?_ : (0 : Int) ≤ _); omega) | (refine (?_ : _ ≠ _); omega) | (refine (?_ : srcLen _ = rowsLen _); rfl) | exact Nat.le_of_ble_eq_true rfl | exact (by kernel_rfl : drawOk _ _ = true) | refine eqv_len_map ?_ | refine eqv_size ?_ | refine eqv_put (eqv_ck ?_) | refine eqv_zero ?_ | refine eqv_wrap (by omega) (by omega) ?_ | refine eqv_u64 (by omega) (by omega) ?_ | refine eqv_u8 (by omega) (by omega) ?_ | refine eqv_to _ (set_map rfl rfl) ?_ | refine ⟨_, _, (by first | rfl | assumption), at_map (by assumption), ?_⟩ | refine ⟨_, _, (by first | rfl | assumption), (by assumption), ?_⟩ | refine ⟨_, at_map (by assumption), (by decide), ?_⟩ | refine ⟨_, at_map (by assumption), ?_⟩ | (refine (?_ : _ ≤ 140737488355328); simp [rowsLen] <;> omega) | (refine (?_ : _ ≤ 9223372036854775807); simp [rowsLen] <;> omega) | (refine (?_ : _ = rowsLen _); simp [rowsLen] <;> omega) | refine eqv_to _ (app_row rfl) (eqv_to _ app_len ?_) | refine eqv_to _ (app_first rfl) (eqv_to 1 rfl ?_) | refine idx_sl (at_map (by assumption)) (by omega) ?_ | refine idx_ms _ (by first | rfl | assumption) (by first | assumption | omega) ?_ | fail)
          exact congrArg (vint .i64) (vl_0 hw hn hs0 hr fun p q a b hq ha hb => hall3 p (by have := (List.getElem?_eq_some_iff.1 ha).1; omega) q a b hq ha hb).symm
  · exact congrArg (vint .i64) (vl3 (by omega)).symm
theorem c_rvalid (l : List Sess) (w : Int) (hl : l.length ≤ 2199023255552) : PCall Tryz.prog 31 [.pv (encSess l), vint .i64 w] (fun r => r = vint .i64 (validE l w)) := by
  refine acall_of tok mixed 100 rfl (fn := Tryz.f31) (c := Tryz.f31.body.getD .skip) (by kernel_rfl) (by kernel_rfl) (by kernel_rfl) rfl 0 rfl ?_
  repeat' (first | refine o1 ?_ | refine o2 ?_ | refine k1 ?_ | refine k2 ?_ | refine k3 ?_ | refine k4 ?_ | refine k6 ?_ | refine k7 ?_ | refine k8 ?_ | refine And.intro ?_ ?_ | exact trivial | refine o3 ?_ | refine o4 ?_ | refine o5 ?_ | refine o6 ?_ | refine k5 ?_ | (intro h; first | exact Bool.noConfusion h | exact nz _ h | exact nl h | (simp at h; done) | (simp at h; first | (exfalso; omega) | skip) | skip) | (change retOk _ _ _ _; refine ret_pure rfl trivial ?_) | exact (rfl : allOne _ = true) | (refine (?_ : (0 : Int) ≤ _); omega) | (refine (?_ : _ ≠ _); omega) | (refine (?_ : srcLen _ = rowsLen _); rfl) | exact Nat.le_of_ble_eq_true rfl | exact (by kernel_rfl : drawOk _ _ = true) | refine eqv_len_map ?_ | refine eqv_size ?_ | refine eqv_put (eqv_ck ?_) | refine eqv_zero ?_ | refine eqv_wrap (by omega) (by omega) ?_ | refine eqv_u64 (by omega) (by omega) ?_ | refine eqv_u8 (by omega) (by omega) ?_ | refine eqv_to _ (set_map rfl rfl) ?_ | refine ⟨_, _, (by first | rfl | assumption), at_map (by assumption), ?_⟩ | refine ⟨_, _, (by first | rfl | assumption), (by assumption), ?_⟩ | refine ⟨_, at_map (by assumption), (by decide), ?_⟩ | refine ⟨_, at_map (by assumption), ?_⟩ | (refine (?_ : _ ≤ 140737488355328); simp [rowsLen] <;> omega) | (refine (?_ : _ ≤ 9223372036854775807); simp [rowsLen] <;> omega) | (refine (?_ : _ = rowsLen _); simp [rowsLen] <;> omega) | refine eqv_to _ (app_row rfl) (eqv_to _ app_len ?_) | refine eqv_to _ (app_first rfl) (eqv_to 1 rfl ?_) | refine idx_sl (at_map (by assumption)) (by omega) ?_ | refine idx_ms _ (by first | rfl | assumption) (by first | assumption | omega) ?_ | fail)
  · exact congrArg (vint .i64) (vl3 (by omega)).symm
  · exact congrArg (vint .i64) (vl2 (by omega) (by omega)).symm
  · have hw : 1 ≤ w ∧ w ≤ 20 := by omega
    have hn : l.length ≤ 96 := by omega
    refine loop_at (fun i : Nat => [(5, vint .i64 i)]) (fun _ => []) (fun i => i ≤ l.length ∧ ∀ j, j < i → sessAt l w j = 0) (fun i => l.length - i) 0 ⟨Nat.zero_le _, fun j hj => by omega⟩ (by repeat' (first | exact trivial | exact rfl | exact ⟨_, rfl, ALe.refl⟩ | refine And.intro ?_ ?_)) (by repeat' (first | exact trivial | exact rfl | exact ⟨_, rfl, ALe.refl⟩ | refine And.intro ?_ ?_)) ?_
    intro i ⟨hi, hall⟩
    rcases Nat.lt_or_ge i l.length with hlt | hge
    · obtain ⟨s, hs⟩ := getE hlt
      have hc := c_single s w
      have hsa := sessAt_at (w := w) hs
      generalize sessE s w = E at *
      repeat' (first | refine o1 ?_ | refine o2 ?_ | refine k1 ?_ | refine k2 ?_ | refine k3 ?_ | refine k4 ?_ | refine k6 ?_ | refine k7 ?_ | refine k8 ?_ | refine And.intro ?_ ?_ | exact trivial | refine o3 ?_ | refine o4 ?_ | refine o5 ?_ | refine o6 ?_ | refine k5 ?_ | (intro h; first | exact Bool.noConfusion h | exact nz _ h | exact nl h | (simp at h; done) | (simp at h; first | (exfalso; omega) | skip) | skip) | (change retOk _ _ _ _; refine ret_pure rfl trivial ?_) | exact (rfl : allOne _ = true) | (refine (?_ : (0 : Int) ≤ _); omega) | (refine (?_ : _ ≠ _); omega) | (refine (?_ : srcLen _ = rowsLen _); rfl) | exact Nat.le_of_ble_eq_true rfl | exact (by kernel_rfl : drawOk _ _ = true) | refine eqv_len_map ?_ | refine eqv_size ?_ | refine eqv_put (eqv_ck ?_) | refine eqv_zero ?_ | refine eqv_wrap (by omega) (by omega) ?_ | refine eqv_u64 (by omega) (by omega) ?_ | refine eqv_u8 (by omega) (by omega) ?_ | refine eqv_to _ (set_map rfl rfl) ?_ | refine ⟨_, _, (by first | rfl | assumption), at_map (by assumption), ?_⟩ | refine ⟨_, _, (by first | rfl | assumption), (by assumption), ?_⟩ | refine ⟨_, at_map (by assumption), (by decide), ?_⟩ | refine ⟨_, at_map (by assumption), ?_⟩ | (refine (?_ : _ ≤ 140737488355328); simp [rowsLen] <;> omega) | (refine (?_ : _ ≤ 9223372036854775807); simp [rowsLen] <;> omega) | (refine (?_ : _ = rowsLen _); simp [rowsLen] <;> omega) | refine eqv_to _ (app_row rfl) (eqv_to _ app_len ?_) | refine eqv_to _ (app_first rfl) (eqv_to 1 rfl ?_) | refine idx_sl (at_map (by assumption)) (by omega) ?_ | refine idx_ms _ (by first | rfl | assumption) (by first | assumption | omega) ?_ | (change vcFunD _ _ _ _ _; refine callD_eq rfl (by repeat' (first | trivial | refine And.intro ?_ ?_ | (show 0 + _ ≤ List.length _; simp))) ALeL.refl (hc) rfl ?_) | (change vcFun _ _ _ _ _; refine call_eq rfl (by repeat' (first | trivial | refine And.intro ?_ ?_ | (show 0 + _ ≤ List.length _; simp))) ALeL.refl (hc) rfl ?_) | fail)
      · exact congrArg (vint .i64) ((vl_s hw hn hall hlt (by rw [hsa]; assumption)).trans hsa).symm
      · exact ⟨i + 1, ⟨by omega, all_lt_succ hall (by rw [hsa]; assumption)⟩, by omega, back [] rfl rfl trivial (by repeat' (first | exact trivial | exact rfl | exact ⟨_, rfl, ALe.refl⟩ | refine And.intro ?_ ?_))⟩
    · obtain rfl : i = l.length := by omega
      have hs0 := sing_all hall
      have hsi := sing_zero.1 hs0
      repeat' (first | refine o1 ?_ | refine o2 ?_ | refine k1 ?_ | refine k2 ?_ | refine k3 ?_ | refine k4 ?_ | refine k6 ?_ | refine k7 ?_ | refine k8 ?_ | refine And.intro ?_ ?_ | exact trivial | refine o3 ?_ | refine o4 ?_ | refine o5 ?_ | refine o6 ?_ | refine k5 ?_ | (intro h; first | exact Bool.noConfusion h | exact nz _ h | exact nl h | (simp at h; done) | (simp at h; first | (exfalso; omega) | skip) | skip) | (change retOk _ _ _ _; refine ret_pure rfl trivial ?_) | exact (rfl : allOne _ = true) | (refine (?_ : (0 : Int) ≤ _); omega) | (refine (?_ : _ ≠ _); omega) | (refine (?_ : srcLen _ = rowsLen _); rfl) | exact Nat.le_of_ble_eq_true rfl | exact (by kernel_rfl : drawOk _ _ = true) | refine eqv_len_map ?_ | refine eqv_size ?_ | refine eqv_put (eqv_ck ?_) | refine eqv_zero ?_ | refine eqv_wrap (by omega) (by omega) ?_ | refine eqv_u64 (by omega) (by omega) ?_ | refine eqv_u8 (by omega) (by omega) ?_ | refine eqv_to _ (set_map rfl rfl) ?_ | refine ⟨_, _, (by first | rfl | assumption), at_map (by assumption), ?_⟩ | refine ⟨_, _, (by first | rfl | assumption), (by assumption), ?_⟩ | refine ⟨_, at_map (by assumption), (by decide), ?_⟩ | refine ⟨_, at_map (by assumption), ?_⟩ | (refine (?_ : _ ≤ 140737488355328); simp [rowsLen] <;> omega) | (refine (?_ : _ ≤ 9223372036854775807); simp [rowsLen] <;> omega) | (refine (?_ : _ = rowsLen _); simp [rowsLen] <;> omega) | refine eqv_to _ (app_row rfl) (eqv_to _ app_len ?_) | refine eqv_to _ (app_first rfl) (eqv_to 1 rfl ?_) | refine idx_sl (at_map (by assumption)) (by omega) ?_ | refine idx_ms _ (by first | rfl | assumption) (by first | assumption | omega) ?_ | fail)
      refine loop_at (fun k : Nat => [(7, vint .i64 (k + 1))]) (fun _ => []) (fun k => (k = 0 ∨ k + 1 ≤ l.length) ∧ ∀ j, j < k → ∀ a b, l[j]? = some a → l[j + 1]? = some b → befP a b) (fun k => l.length - k) 0 ⟨.inl rfl, fun j hj => by omega⟩ (by repeat' (first | exact trivial | exact rfl | exact ⟨_, rfl, ALe.refl⟩ | refine And.intro ?_ ?_)) (by repeat' (first | exact trivial | exact rfl | exact ⟨_, rfl, ALe.refl⟩ | refine And.intro ?_ ?_)) ?_
      intro k ⟨hk, hall2⟩
      rcases Nat.lt_or_ge (k + 1) l.length with hlt | hge
      · obtain ⟨a, ha⟩ := getE (show k < l.length by omega)
        obtain ⟨b, hb⟩ := getE hlt
        have h3 := c_before a b (sess_ok (hsi a (List.mem_of_getElem? ha))).2.1.1.1 (sess_ok (hsi b (List.mem_of_getElem? hb))).2.1.1.1
        repeat' (first | (refine idx_sl (k := k) (at_map ha) (by omega) ?_) | (refine idx_sl (k := k + 1) (at_map hb) (by omega) ?_) | refine o1 ?_ | refine o2 ?_ | refine k1 ?_ | refine k2 ?_ | refine k3 ?_ | refine k4 ?_ | refine k6 ?_ | refine k7 ?_ | refine k8 ?_ | refine And.intro ?_ ?_ | exact trivial | refine o3 ?_ | refine o4 ?_ | refine o5 ?_ | refine o6 ?_ | refine k5 ?_ | (intro h; first | exact Bool.noConfusion h | exact nz _ h | exact nl h | (simp at h; done) | (simp at h; first | (exfalso; omega) | skip) | skip) | (change retOk _ _ _ _; refine ret_pure rfl trivial ?_) | exact (rfl : allOne _ = true) | (refine (?_ : (0 : Int) ≤ _); omega) | (refine (?_ : _ ≠ _); omega) | (refine (?_ : srcLen _ = rowsLen _); rfl) | exact Nat.le_of_ble_eq_true rfl | exact (by kernel_rfl : drawOk _ _ = true) | refine eqv_len_map ?_ | refine eqv_size ?_ | refine eqv_put (eqv_ck ?_) | refine eqv_zero ?_ | refine eqv_wrap (by omega) (by omega) ?_ | refine eqv_u64 (by omega) (by omega) ?_ | refine eqv_u8 (by omega) (by omega) ?_ | refine eqv_to _ (set_map rfl rfl) ?_ | refine ⟨_, _, (by first | rfl | assumption), at_map (by assumption), ?_⟩ | refine ⟨_, _, (by first | rfl | assumption), (by assumption), ?_⟩ | refine ⟨_, at_map (by assumption), (by decide), ?_⟩ | refine ⟨_, at_map (by assumption), ?_⟩ | (refine (?_ : _ ≤ 140737488355328); simp [rowsLen] <;> omega) | (refine (?_ : _ ≤ 9223372036854775807); simp [rowsLen] <;> omega) | (refine (?_ : _ = rowsLen _); simp [rowsLen] <;> omega) | refine eqv_to _ (app_row rfl) (eqv_to _ app_len ?_) | refine eqv_to _ (app_first rfl) (eqv_to 1 rfl ?_) | refine idx_sl (at_map (by assumption)) (by omega) ?_ | refine idx_ms _ (by first | rfl | assumption) (by first | assumption | omega) ?_ | (change vcFunD _ _ _ _ _; refine callD_eq rfl (by repeat' (first | trivial | refine And.intro ?_ ?_ | (show 0 + _ ≤ List.length _; simp))) ALeL.refl (h3) rfl ?_) | fail)
        · exact congrArg (vint .i64) (vl_o hw hn hs0 fun hr => absurd (hr k a b ha hb) (by assumption)).symm
        · exact ⟨k + 1, ⟨.inr (by omega), all_lt_succ hall2 fun a' b' q1 q2 => by rw [ha] at q1; cases q1; rw [hb] at q2; cases q2; exact (by assumption)⟩, by omega, back [] rfl rfl trivial (by repeat' (first | exact trivial | exact rfl | exact ⟨_, rfl, ALe.refl⟩ | refine And.intro ?_ ?_))⟩
      · have hr : risesP l := fun j a b q1 q2 => hall2 j (by have := (List.getElem?_eq_some_iff.1 q2).1; omega) a b q1 q2
        repeat' (first | refine o1 ?_ | refine o2 ?_ | refine k1 ?_ | refine k2 ?_ | refine k3 ?_ | refine k4 ?_ | refine k6 ?_ | refine k7 ?_ | refine k8 ?_ | refine And.intro ?_ ?_ | exact trivial | refine o3 ?_ | refine o4 ?_ | refine o5 ?_ | refine o6 ?_ | refine k5 ?_ | (intro h; first | exact Bool.noConfusion h | exact nz _ h | exact nl h | (simp at h; done) | (simp at h; first | (exfalso; omega) | skip) | skip) | (change retOk _ _ _ _; refine ret_pure rfl trivial ?_) | exact (rfl : allOne _ = true) | (refine (?_ : (0 : Int) ≤ _); omega) | (refine (?_ : _ ≠ _); omega) | (refine (?_ : srcLen _ = rowsLen _); rfl) | exact Nat.le_of_ble_eq_true rfl | exact (by kernel_rfl : drawOk _ _ = true) | refine eqv_len_map ?_ | refine eqv_size ?_ | refine eqv_put (eqv_ck ?_) | refine eqv_zero ?_ | refine eqv_wrap (by omega) (by omega) ?_ | refine eqv_u64 (by omega) (by omega) ?_ | refine eqv_u8 (by omega) (by omega) ?_ | refine eqv_to _ (set_map rfl rfl) ?_ | refine ⟨_, _, (by first | rfl | assumption), at_map (by assumption), ?_⟩ | refine ⟨_, _, (by first | rfl | assumption), (by assumption), ?_⟩ | refine ⟨_, at_map (by assumption), (by decide), ?_⟩ | refine ⟨_, at_map (by assumption), ?_⟩ | (refine (?_ : _ ≤ 140737488355328); simp [rowsLen] <;> omega) | (refine (?_ : _ ≤ 9223372036854775807); simp [rowsLen] <;> omega) | (refine (?_ : _ = rowsLen _); simp [rowsLen] <;> omega) | refine eqv_to _ (app_row rfl) (eqv_to _ app_len ?_) | refine eqv_to _ (app_first rfl) (eqv_to 1 rfl ?_) | refine idx_sl (at_map (by assumption)) (by omega) ?_ | refine idx_ms _ (by first | rfl | assumption) (by first | assumption | omega) ?_ | fail)
        refine loop_at (fun i : Nat => [(8, vint .i64 i)]) (fun _ => []) (fun i => i ≤ l.length ∧ ∀ p, p < i → ∀ q a b, q < p → l[p]? = some a → l[q]? = some b → ¬ clashP a b) (fun i => l.length - i) 0 ⟨Nat.zero_le _, fun j hj => by omega⟩ (by repeat' (first | exact trivial | exact rfl | exact ⟨_, rfl, ALe.refl⟩ | refine And.intro ?_ ?_)) (by repeat' (first | exact trivial | exact rfl | exact ⟨_, rfl, ALe.refl⟩ | refine And.intro ?_ ?_)) ?_
        intro i ⟨hi, hall3⟩
        rcases Nat.lt_or_ge i l.length with hlt | hge2
        · obtain ⟨s, hs⟩ := getE hlt
          repeat' (first | refine o1 ?_ | refine o2 ?_ | refine k1 ?_ | refine k2 ?_ | refine k3 ?_ | refine k4 ?_ | refine k6 ?_ | refine k7 ?_ | refine k8 ?_ | refine And.intro ?_ ?_ | exact trivial | refine o3 ?_ | refine o4 ?_ | refine o5 ?_ | refine o6 ?_ | refine k5 ?_ | (intro h; first | exact Bool.noConfusion h | exact nz _ h | exact nl h | (simp at h; done) | (simp at h; first | (exfalso; omega) | skip) | skip) | (change retOk _ _ _ _; refine ret_pure rfl trivial ?_) | exact (rfl : allOne _ = true) | (refine (?_ : (0 : Int) ≤ _); omega) | (refine (?_ : _ ≠ _); omega) | (refine (?_ : srcLen _ = rowsLen _); rfl) | exact Nat.le_of_ble_eq_true rfl | exact (by kernel_rfl : drawOk _ _ = true) | refine eqv_len_map ?_ | refine eqv_size ?_ | refine eqv_put (eqv_ck ?_) | refine eqv_zero ?_ | refine eqv_wrap (by omega) (by omega) ?_ | refine eqv_u64 (by omega) (by omega) ?_ | refine eqv_u8 (by omega) (by omega) ?_ | refine eqv_to _ (set_map rfl rfl) ?_ | refine ⟨_, _, (by first | rfl | assumption), at_map (by assumption), ?_⟩ | refine ⟨_, _, (by first | rfl | assumption), (by assumption), ?_⟩ | refine ⟨_, at_map (by assumption), (by decide), ?_⟩ | refine ⟨_, at_map (by assumption), ?_⟩ | (refine (?_ : _ ≤ 140737488355328); simp [rowsLen] <;> omega) | (refine (?_ : _ ≤ 9223372036854775807); simp [rowsLen] <;> omega) | (refine (?_ : _ = rowsLen _); simp [rowsLen] <;> omega) | refine eqv_to _ (app_row rfl) (eqv_to _ app_len ?_) | refine eqv_to _ (app_first rfl) (eqv_to 1 rfl ?_) | refine idx_sl (at_map (by assumption)) (by omega) ?_ | refine idx_ms _ (by first | rfl | assumption) (by first | assumption | omega) ?_ | fail)
          refine loop_at (fun k : Nat => [(9, vint .i64 k)]) (fun _ => []) (fun k => k ≤ i ∧ ∀ q, q < k → ∀ b, l[q]? = some b → ¬ clashP s b) (fun k => i - k) 0 ⟨Nat.zero_le _, fun j hj => by omega⟩ (by repeat' (first | exact trivial | exact rfl | exact ⟨_, rfl, ALe.refl⟩ | refine And.intro ?_ ?_)) (by repeat' (first | exact trivial | exact rfl | exact ⟨_, rfl, ALe.refl⟩ | refine And.intro ?_ ?_)) ?_
          intro k ⟨hk3, hall4⟩
          rcases Nat.lt_or_ge k i with hlt2 | hge3
          · obtain ⟨t, ht⟩ := getE (show k < l.length by omega)
            repeat' (first | (refine idx_sl (k := i) (at_map hs) (by omega) ?_) | (refine idx_sl (k := k) (at_map ht) (by omega) ?_) | (refine (eqv_rfl ?_ : eqv (bits _ _ _ _) _)) | refine o1 ?_ | refine o2 ?_ | refine k1 ?_ | refine k2 ?_ | refine k3 ?_ | refine k4 ?_ | refine k6 ?_ | refine k7 ?_ | refine k8 ?_ | refine And.intro ?_ ?_ | exact trivial | refine o3 ?_ | refine o4 ?_ | refine o5 ?_ | refine o6 ?_ | refine k5 ?_ | (intro h; first | exact Bool.noConfusion h | exact nz _ h | exact nl h | (simp at h; done) | (simp at h; first | (exfalso; omega) | skip) | skip) | (change retOk _ _ _ _; refine ret_pure rfl trivial ?_) | exact (rfl : allOne _ = true) | (refine (?_ : (0 : Int) ≤ _); omega) | (refine (?_ : _ ≠ _); omega) | (refine (?_ : srcLen _ = rowsLen _); rfl) | exact Nat.le_of_ble_eq_true rfl | exact (by kernel_rfl : drawOk _ _ = true) | refine eqv_len_map ?_ | refine eqv_size ?_ | refine eqv_put (eqv_ck ?_) | refine eqv_zero ?_ | refine eqv_wrap (by omega) (by omega) ?_ | refine eqv_u64 (by omega) (by omega) ?_ | refine eqv_u8 (by omega) (by omega) ?_ | refine eqv_to _ (set_map rfl rfl) ?_ | refine ⟨_, _, (by first | rfl | assumption), at_map (by assumption), ?_⟩ | refine ⟨_, _, (by first | rfl | assumption), (by assumption), ?_⟩ | refine ⟨_, at_map (by assumption), (by decide), ?_⟩ | refine ⟨_, at_map (by assumption), ?_⟩ | (refine (?_ : _ ≤ 140737488355328); simp [rowsLen] <;> omega) | (refine (?_ : _ ≤ 9223372036854775807); simp [rowsLen] <;> omega) | (refine (?_ : _ = rowsLen _); simp [rowsLen] <;> omega) | refine eqv_to _ (app_row rfl) (eqv_to _ app_len ?_) | refine eqv_to _ (app_first rfl) (eqv_to 1 rfl ?_) | refine idx_sl (at_map (by assumption)) (by omega) ?_ | refine idx_ms _ (by first | rfl | assumption) (by first | assumption | omega) ?_ | (change vcFun _ _ _ _ _; refine call_eq rfl (by repeat' (first | trivial | refine And.intro ?_ ?_ | (show 0 + _ ≤ List.length _; simp))) ALeL.refl (c_ralike s t) rfl ?_) | (change vcFunD _ _ _ _ _; refine callD_eq rfl (by repeat' (first | trivial | refine And.intro ?_ ?_ | (show 0 + _ ≤ List.length _; simp))) ALeL.refl (c_ralike s t) rfl ?_) | fail)
            · exact congrArg (vint .i64) (vl_d hw hn hs0 hr fun q => q i k s t hlt2 hs ht (.inr h)).symm
            · rename_i h1 h2
              exact ⟨k + 1, ⟨by omega, all_lt_succ hall4 fun b hb => by rw [ht] at hb; cases hb; exact fun c => c.elim (fun c => c.2 h2) h⟩, by omega, back [] rfl rfl trivial (by repeat' (first | exact trivial | exact rfl | exact ⟨_, rfl, ALe.refl⟩ | refine And.intro ?_ ?_))⟩
            · rename_i h1 h2
              exact congrArg (vint .i64) (vl_d hw hn hs0 hr fun q => q i k s t hlt2 hs ht (.inl ⟨sEq_iff.1 h1, h2⟩)).symm
            · rename_i h1
              exact ⟨k + 1, ⟨by omega, all_lt_succ hall4 fun b hb => by rw [ht] at hb; cases hb; exact fun c => c.elim (fun c => sEq_f.1 h1 c.1) (fun c => sEq_f.1 h1 c.1)⟩, by omega, back [] rfl rfl trivial (by repeat' (first | exact trivial | exact rfl | exact ⟨_, rfl, ALe.refl⟩ | refine And.intro ?_ ?_))⟩
          · repeat' (first | refine o1 ?_ | refine o2 ?_ | refine k1 ?_ | refine k2 ?_ | refine k3 ?_ | refine k4 ?_ | refine k6 ?_ | refine k7 ?_ | refine k8 ?_ | refine And.intro ?_ ?_ | exact trivial | refine o3 ?_ | refine o4 ?_ | refine o5 ?_ | refine o6 ?_ | refine k5 ?_ | (intro h; first | exact Bool.noConfusion h | exact nz _ h | exact nl h | (simp at h; done) | (simp at h; first | (exfalso; omega) | skip) | skip) | (change retOk _ _ _ _; refine ret_pure rfl trivial ?_) | exact (rfl : allOne _ = true) | (refine (?_ : (0 : Int) ≤ _); omega) | (refine (?_ : _ ≠ _); omega) | (refine (?_ : srcLen _ = rowsLen _); rfl) | exact Nat.le_of_ble_eq_true rfl | exact (by kernel_rfl : drawOk _ _ = true) | refine eqv_len_map ?_ | refine eqv_size ?_ | refine eqv_put (eqv_ck ?_) | refine eqv_zero ?_ | refine eqv_wrap (by omega) (by omega) ?_ | refine eqv_u64 (by omega) (by omega) ?_ | refine eqv_u8 (by omega) (by omega) ?_ | refine eqv_to _ (set_map rfl rfl) ?_ | refine ⟨_, _, (by first | rfl | assumption), at_map (by assumption), ?_⟩ | refine ⟨_, _, (by first | rfl | assumption), (by assumption), ?_⟩ | refine ⟨_, at_map (by assumption), (by decide), ?_⟩ | refine ⟨_, at_map (by assumption), ?_⟩ | (refine (?_ : _ ≤ 140737488355328); simp [rowsLen] <;> omega) | (refine (?_ : _ ≤ 9223372036854775807); simp [rowsLen] <;> omega) | (refine (?_ : _ = rowsLen _); simp [rowsLen] <;> omega) | refine eqv_to _ (app_row rfl) (eqv_to _ app_len ?_) | refine eqv_to _ (app_first rfl) (eqv_to 1 rfl ?_) | refine idx_sl (at_map (by assumption)) (by omega) ?_ | refine idx_ms _ (by first | rfl | assumption) (by first | assumption | omega) ?_ | fail)
            exact ⟨i + 1, ⟨by omega, all_lt_succ hall3 fun q a b hq ha hb => by rw [hs] at ha; cases ha; exact hall4 q (by omega) b hb⟩, by omega, back [] rfl rfl trivial (by repeat' (first | exact trivial | exact rfl | exact ⟨_, rfl, ALe.refl⟩ | refine And.intro ?_ ?_))⟩
        · repeat' (first | refine o1 ?_ | refine o2 ?_ | refine k1 ?_ | refine k2 ?_ | refine k3 ?_ | refine k4 ?_ | refine k6 ?_ | refine k7 ?_ | refine k8 ?_ | refine And.intro ?_ ?_ | exact trivial | refine o3 ?_ | refine o4 ?_ | refine o5 ?_ | refine o6 ?_ | refine k5 ?_ | (intro h; first | exact Bool.noConfusion h | exact nz _ h | exact nl h | (simp at h; done) | (simp at h; first | (exfalso; omega) | skip) | skip) | (change retOk _ _ _ _; refine ret_pure rfl trivial ?_) | exact (rfl : allOne _ = true) | (refine (?_ : (0 : Int) ≤ _); omega) | (refine (?_ : _ ≠ _); omega) | (refine (?_ : srcLen _ = rowsLen _); rfl) | exact Nat.le_of_ble_eq_true rfl | exact (by kernel_rfl : drawOk _ _ = true) | refine eqv_len_map ?_ | refine eqv_size ?_ | refine eqv_put (eqv_ck ?_) | refine eqv_zero ?_ | refine eqv_wrap (by omega) (by omega) ?_ | refine eqv_u64 (by omega) (by omega) ?_ | refine eqv_u8 (by omega) (by omega) ?_ | refine eqv_to _ (set_map rfl rfl) ?_ | refine ⟨_, _, (by first | rfl | assumption), at_map (by assumption), ?_⟩ | refine ⟨_, _, (by first | rfl | assumption), (by assumption), ?_⟩ | refine ⟨_, at_map (by assumption), (by decide), ?_⟩ | refine ⟨_, at_map (by assumption), ?_⟩ | (refine (?_ : _ ≤ 140737488355328); simp [rowsLen] <;> omega) | (refine (?_ : _ ≤ 9223372036854775807); simp [rowsLen] <;> omega) | (refine (?_ : _ = rowsLen _); simp [rowsLen] <;> omega) | refine eqv_to _ (app_row rfl) (eqv_to _ app_len ?_) | refine eqv_to _ (app_first rfl) (eqv_to 1 rfl ?_) | refine idx_sl (at_map (by assumption)) (by omega) ?_ | refine idx_ms _ (by first | rfl | assumption) (by first | assumption | omega) ?_ | fail)
          exact congrArg (vint .i64) (vl_0 hw hn hs0 hr fun p q a b hq ha hb => hall3 p (by have := (List.getElem?_eq_some_iff.1 ha).1; omega) q a b hq ha hb).symm
  · exact congrArg (vint .i64) (vl3 (by omega)).symm
end Go.Proofs.YtbcacaodfpgflaaGreatDoor.Cw

/-
  Contracts: closures over sessions; a call with a slice that grows; the sort of sessions.
-/
namespace Go.Proofs.YtbcacaodfpgflaaGreatDoor.Cw
open Go Go.Cw Go.Proofs
set_option linter.unusedVariables false
set_option maxRecDepth 100000
set_option maxHeartbeats 4000000

section
variable {P : Program} {f : FuncId} {H : Heap} {K : AV → Heap → Prop} {id z ty : Nat} {rows : List (List PV)} {v : AV}
theorem call_sl2 {x y : AV} (ho : H[id]? = some (obP ty z rows)) (hx : conv H x = some y) (hxo : ok1 H x) (hp : PCall P f [.pv (.sl z rows), y] (fun r => r = v)) (hv : scal v = true) (hK : K v H) : vcFun P f [slP id z rows, x] H K := by
  obtain ⟨r0, h1, h2, h3⟩ := conv_sl ho
  have hle : ALeL [r0, y] [.pv (.sl z rows), y] := ⟨h3, ALe.refl, trivial⟩
  refine call_eq (as0 := [r0, y]) ?_ ?_ hle hp hv hK
  · simp only [mapO, h1, hx]
  · rw [andL_cons ok1_pv, andL_cons ok1_pv]
    exact ⟨h2, hxo, trivial⟩
end
end Go.Proofs.YtbcacaodfpgflaaGreatDoor.Cw

/-
  The library's sort of sessions, and its sort and compact of strings, laid at this seat (printed by tools/laytext.py).
-/
namespace Go.Proofs.YtbcacaodfpgflaaGreatDoor.Cw
open Go Go.Cw Go.Proofs
set_option maxRecDepth 100000

def layFunc_ren : Go.Shelf.Ren := ⟨fun | 6 => 73 | 15 => 71 | 14 => 95 | 28 => 92 | 29 => 93 | 20 => 101 | 21 => 102 | 22 => 103 | 23 => 104 | 24 => 105 | 25 => 106 | 26 => 107 | 27 => 108 | 46 => 110 | 47 => 97 | 48 => 98 | 49 => 111 | 50 => 112 | 57 => 113 | n => n, fun | 22 => 22 | 24 => 51 | 25 => 96 | 3 => 3 | 39 => 79 | 0 => 0 | 53 => 99 | 55 => 101 | 4 => 4 | 46 => 104 | 45 => 103 | 50 => 109 | 5 => 5 | 9 => 9 | 66 => 115 | 70 => 119 | 76 => 126 | 77 => 127 | n => n, fun | n => n⟩
def laySort_ren : Go.Shelf.Ren := ⟨fun | 190 => 51 | 125 => 71 | 258 => 70 | 128 => 92 | 129 => 93 | 302 => 83 | 303 => 84 | 304 => 85 | 305 => 86 | 306 => 87 | 307 => 88 | 308 => 89 | 309 => 90 | 310 => 91 | 333 => 96 | 329 => 97 | 330 => 98 | 334 => 99 | 335 => 100 | 336 => 77 | 344 => 109 | n => n, fun | 31 => 64 | 9 => 9 | 3 => 3 | 46 => 79 | 0 => 0 | 51 => 99 | 53 => 101 | 4 => 4 | 183 => 104 | 182 => 103 | 131 => 109 | 5 => 5 | 218 => 115 | 222 => 119 | 228 => 126 | 229 => 127 | n => n, fun | n => n⟩
theorem laySort : Go.Proofs.Lays.n190 Tryz.prog laySort_ren where
  mixed := by kernel_rfl
  f125 := Tryz.func71.trans (congrArg some (by kernel_rfl))
  f128 := Tryz.func92.trans (congrArg some (by kernel_rfl))
  f129 := Tryz.func93.trans (congrArg some (by kernel_rfl))
  f190 := Tryz.func51.trans (congrArg some (by kernel_rfl))
  f258 := Tryz.func70.trans (congrArg some (by kernel_rfl))
  f302 := Tryz.func83.trans (congrArg some (by kernel_rfl))
  f303 := Tryz.func84.trans (congrArg some (by kernel_rfl))
  f304 := Tryz.func85.trans (congrArg some (by kernel_rfl))
  f305 := Tryz.func86.trans (congrArg some (by kernel_rfl))
  f306 := Tryz.func87.trans (congrArg some (by kernel_rfl))
  f307 := Tryz.func88.trans (congrArg some (by kernel_rfl))
  f308 := Tryz.func89.trans (congrArg some (by kernel_rfl))
  f309 := Tryz.func90.trans (congrArg some (by kernel_rfl))
  f310 := Tryz.func91.trans (congrArg some (by kernel_rfl))
  f329 := Tryz.func97.trans (congrArg some (by kernel_rfl))
  f330 := Tryz.func98.trans (congrArg some (by kernel_rfl))
  f333 := Tryz.func96.trans (congrArg some (by kernel_rfl))
  f334 := Tryz.func99.trans (congrArg some (by kernel_rfl))
  f335 := Tryz.func100.trans (congrArg some (by kernel_rfl))
  f336 := Tryz.func77.trans (congrArg some (by kernel_rfl))
  f344 := Tryz.func109.trans (congrArg some (by kernel_rfl))
  t0 := Tryz.underlying0
  a0 := Tryz.isAgg0
  z0 := Tryz.sizeOf0
  v0 := Tryz.zeroValue0
  t3 := Tryz.underlying3
  a3 := Tryz.isAgg3
  z3 := Tryz.sizeOf3
  v3 := Tryz.zeroValue3
  t4 := Tryz.underlying4
  a4 := Tryz.isAgg4
  z4 := Tryz.sizeOf4
  v4 := Tryz.zeroValue4
  t5 := Tryz.underlying5
  a5 := Tryz.isAgg5
  z5 := Tryz.sizeOf5
  v5 := Tryz.zeroValue5
  t9 := Tryz.underlying9
  a9 := Tryz.isAgg9
  z9 := Tryz.sizeOf9
  v9 := Tryz.zeroValue9
  t31 := Tryz.underlying64
  a31 := Tryz.isAgg64
  z31 := Tryz.sizeOf64
  v31 := Tryz.zeroValue64
  t46 := Tryz.underlying79
  a46 := Tryz.isAgg79
  z46 := Tryz.sizeOf79
  v46 := Tryz.zeroValue79
  t51 := Tryz.underlying99
  a51 := Tryz.isAgg99
  z51 := Tryz.sizeOf99
  v51 := Tryz.zeroValue99
  t53 := Tryz.underlying101
  a53 := Tryz.isAgg101
  z53 := Tryz.sizeOf101
  v53 := Tryz.zeroValue101
  t131 := Tryz.underlying109
  a131 := Tryz.isAgg109
  z131 := Tryz.sizeOf109
  v131 := Tryz.zeroValue109
  t182 := Tryz.underlying103
  a182 := Tryz.isAgg103
  z182 := Tryz.sizeOf103
  v182 := Tryz.zeroValue103
  t183 := Tryz.underlying104
  a183 := Tryz.isAgg104
  z183 := Tryz.sizeOf104
  v183 := Tryz.zeroValue104
  t218 := Tryz.underlying115
  a218 := Tryz.isAgg115
  z218 := Tryz.sizeOf115
  v218 := Tryz.zeroValue115
  t222 := Tryz.underlying119
  a222 := Tryz.isAgg119
  z222 := Tryz.sizeOf119
  v222 := Tryz.zeroValue119
  t228 := Tryz.underlying126
  a228 := Tryz.isAgg126
  z228 := Tryz.sizeOf126
  v228 := Tryz.zeroValue126
  t229 := Tryz.underlying127
  a229 := Tryz.isAgg127
  z229 := Tryz.sizeOf127
  v229 := Tryz.zeroValue127
def layComp_ren : Go.Shelf.Ren := ⟨fun | 194 => 52 | n => n, fun | 31 => 64 | 9 => 9 | 3 => 3 | 4 => 4 | 0 => 0 | n => n, fun | n => n⟩
theorem layComp : Go.Proofs.Lays.n194 Tryz.prog layComp_ren where
  mixed := by kernel_rfl
  f194 := Tryz.func52.trans (congrArg some (by kernel_rfl))
  t0 := Tryz.underlying0
  a0 := Tryz.isAgg0
  z0 := Tryz.sizeOf0
  v0 := Tryz.zeroValue0
  t3 := Tryz.underlying3
  a3 := Tryz.isAgg3
  z3 := Tryz.sizeOf3
  v3 := Tryz.zeroValue3
  t4 := Tryz.underlying4
  a4 := Tryz.isAgg4
  z4 := Tryz.sizeOf4
  v4 := Tryz.zeroValue4
  t9 := Tryz.underlying9
  a9 := Tryz.isAgg9
  z9 := Tryz.sizeOf9
  v9 := Tryz.zeroValue9
  t31 := Tryz.underlying64
  a31 := Tryz.isAgg64
  z31 := Tryz.sizeOf64
  v31 := Tryz.zeroValue64

/-- A function of the program can be entered. -/
theorem ent {f : FuncId} {fn : Func} (h : Tryz.prog.funcs[f]? = some fn) (h1 : (fn.name == "runtime.NumGoroutine") = false) (h2 : fn.body.isNone = false) : Enterable Tryz.prog f := ⟨fn, h, h1, h2⟩
theorem c_sort (ss : List ByteArray) (hne : ss ≠ []) (hl : ss.length ≤ 1000000000000) :
    ACall Tryz.prog 51 [.ms 0 1 0 ss.length] [some ⟨9, 1, false, .p (ss.map strRow)⟩] fun r H' => r = .tup [] ∧ H' = [some ⟨9, 1, false, .p ((sortS ss).map strRow)⟩] :=
  acall_sortS laySort (ent Tryz.func51 (by kernel_rfl) (by kernel_rfl)) 9 ss hne (by omega)
theorem c_sort0 : PCall Tryz.prog 51 [.pv (.val (.slice none 0 0))] (fun r => r = .tup []) := acall_sortS0 laySort (ent Tryz.func51 (by kernel_rfl) (by kernel_rfl))
theorem c_compact (ss : List ByteArray) (hne : ss ≠ []) (hl : ss.length ≤ 1000000000000) :
    ACall Tryz.prog 52 [.ms 0 1 0 ss.length] [some ⟨9, 1, false, .p (ss.map strRow)⟩] fun r H' => r = .ms 0 1 0 (compactS ss).length ∧ ∃ zs : List ByteArray, H' = [some ⟨9, 1, false, .p ((compactS ss).map strRow ++ zs.map strRow)⟩] :=
  acall_compactS layComp (ent Tryz.func52 (by kernel_rfl) (by kernel_rfl)) 9 ss hne (by omega)
theorem c_compact0 : PCall Tryz.prog 52 [.pv (.val (.slice none 0 0))] (fun r => r = .pv (.val (.slice none 0 0))) := acall_compactS0 layComp (ent Tryz.func52 (by kernel_rfl) (by kernel_rfl))
end Go.Proofs.YtbcacaodfpgflaaGreatDoor.Cw
