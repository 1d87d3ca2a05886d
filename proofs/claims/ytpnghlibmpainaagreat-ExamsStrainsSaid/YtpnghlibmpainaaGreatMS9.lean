/-
  Part 9 of the proof (AwakeB, X13, LS, S3, S4, S5, S6, A1): what later parts use. No conditions.
-/
import Derived.Test.YtpnghlibmpainaaGreatMS8

/-
  The example with which each law of chapter 32 begins: it answers true. No conditions.
-/
namespace Go.Proofs.YtpnghlibmpainaaGreat.Cw
open Go.Cw Go.Proofs
theorem awake_ok : PCall Tryz.prog 9 [] (fun r => r = vbool true) := by
  have h : exFun T F 100000 20 9 [] [] = some (vbool true, []) := by kernel_rfl
  exact (exFun_ok tok fok mixed 100000 20 9 [] [] _ _ h).mono fun r H' e => ⟨e.2, e.1⟩
end Go.Proofs.YtpnghlibmpainaaGreat.Cw

/-
  The law on the model of examinations.
-/
namespace Go.Proofs.YtpnghlibmpainaaGreat.Cw
open Go.Cw Go.Proofs
set_option linter.unusedVariables false
set_option maxRecDepth 100000
set_option maxHeartbeats 8000000

theorem exam_z {x : Exams} (h : examsE x = 0) : ∀ e ∈ x.exams, e.feats.length ≤ 8 ∧ 1 ≤ e.studs.length ∧ e.studs.length ≤ 64 := by
  unfold examsE at h
  split at h
  · rename_i h1; exact absurd h h1
  split at h
  · cases h
  split at h
  · rename_i h1; exact absurd h h1
  rename_i h2
  have h2 : firstE (exE x.exams) x.exams.length = 0 := Classical.byContradiction fun h => h2 h
  intro e he
  obtain ⟨i, hi⟩ := List.getElem?_of_mem he
  have h3 := firstE_zero_iff.1 h2 i (List.getElem?_eq_some_iff.1 hi).1
  have h4 : examE e = 0 := by
    apply Classical.byContradiction
    intro hk
    rw [yE1 hi hk] at h3
    exact hk h3
  unfold examE at h4
  (repeat' split at h4) <;> first | (cases h4; done) | skip
  rename_i hs _
  have : e.studs.length ≠ 0 := fun k => hs (List.eq_nil_of_length_eq_zero k)
  exact ⟨by omega, by omega, by omega⟩
theorem cost_z {x : Exams} (h : examsE x = 0) : ∀ s ∈ x.sits, 0 ≤ s.cost ∧ s.cost ≤ 1000 := by
  have h := sits_ok h
  have hn := (sits_fine h).1
  unfold sitsE at h
  rw [if_neg (by omega)] at h
  intro s hs
  obtain ⟨i, hi⟩ := List.getElem?_of_mem hs
  have h3 := firstE_zero_iff.1 h i (List.getElem?_eq_some_iff.1 hi).1
  by_cases ht : timedP s
  · apply Classical.byContradiction
    intro hc
    rw [sE2 hi ht (by omega)] at h3
    cases h3
  · rw [sE1 hi ht] at h3
    cases h3
theorem room_zx {l : List Room} {g : Grid} {w : Int} (h : roomsE l g w = 0) : l.length ≤ 16 ∧ ∀ r ∈ l, r.feats.length ≤ 8 ∧ r.closed.length ≤ 24 ∧ 0 ≤ r.seats ∧ r.seats ≤ 1048576 := by
  unfold roomsE at h
  (repeat' split at h) <;> first | (exfalso; omega) | skip
  refine ⟨by omega, fun r hr => ?_⟩
  obtain ⟨i, hi⟩ := List.getElem?_of_mem hr
  have h3 := firstE_zero_iff.1 h i (List.getElem?_eq_some_iff.1 hi).1
  unfold roomE at h3
  rw [hi] at h3
  dsimp only at h3
  (repeat' split at h3) <;> first | (exfalso; omega) | skip
  all_goals exact ⟨by omega, by omega, by omega, by omega⟩
theorem lensX {x : Exams} (h : examsE x = 0) : LensX x := ⟨(room_zx (rooms_ok h)).1, (room_zx (rooms_ok h)).2, exam_z h, (sits_fine (sits_ok h)).1, cost_z h⟩
theorem c_rbuild (x : Exams) (h6 : x.exams.length ≤ 6) : PCall Tryz.prog 21 [ag x.cells] (fun a => a = .tup [ag (buildM x).cells, vint .i64 (buildE x)]) := by
  by_cases h : examsE x = 0
  · exact (c_rbuild0 x h (lensX h) h6).weak fun r h => ⟨_, h.le, rfl⟩
  · exact (c_rbuild1 x h).weak fun r h => ⟨_, h.le, rfl⟩
theorem build_ok2 {x : Exams} (h6 : x.exams.length ≤ 6) (h : buildE x = 0) : BuildOk (clsX x) (setsX x) (entX x) (wtX x) (mostX x) x.rooms.length x.sits.length ∧ (prsU (setsX x) (entX x) 7).length ≤ 4000 := by
  obtain ⟨h0, h24⟩ := build_z h
  have hl := lensX h0
  have hSl : (setsX x).length = x.exams.length := List.length_map _
  refine ⟨⟨by omega, fun A hA => ?_, by unfold clsX setsX; rw [List.length_map, List.length_map], fun i l A h1 h2 => ?_, fun l hl2 o ho => ?_, fun u i k s t _ => entX_ok h0, fun i hi => ?_, fun k hk => ?_, ?_⟩, ?_⟩
  · obtain ⟨e, he, rfl⟩ := List.mem_map.1 (show A ∈ x.exams.map (seatsV x) from hA)
    exact h24 e he
  · unfold clsX at h1
    unfold setsX at h2
    rw [List.getElem?_map] at h1 h2
    obtain ⟨e, he, rfl⟩ := Option.map_eq_some_iff.1 h1
    obtain ⟨e', he', rfl⟩ := Option.map_eq_some_iff.1 h2
    rw [he] at he'; injection he' with he'; subst he'
    exact List.length_map _
  · obtain ⟨e, he, rfl⟩ := List.mem_map.1 (show l ∈ x.exams.map _ from hl2)
    obtain ⟨q, hq, rfl⟩ := List.mem_map.1 ho
    obtain ⟨t, ht⟩ := seats_sit hq
    unfold optS
    rw [ht]
    dsimp only
    have hc := hl.cost t (List.mem_of_getElem? ht)
    by_cases h : 0 < t.cost
    · rw [if_pos h]; exact .inr ⟨t.cost, rfl, by omega, by omega⟩
    · rw [if_neg h]; exact .inl rfl
  · obtain ⟨e, he⟩ := getE (show i < x.exams.length by omega)
    have := hl.exam e (List.mem_of_getElem? he)
    unfold wtX
    rw [he]
    dsimp only
    omega
  · obtain ⟨r, hr⟩ := getE hk
    have := hl.room r (List.mem_of_getElem? hr)
    unfold mostX
    rw [hr]
    exact this.2.2
  · have : x.sits.length * x.rooms.length ≤ 24 * 16 := Nat.mul_le_mul hl.sits hl.rooms
    omega
  · have h1 := prsU_len (S := setsX x) (E := entX x) (u := 7)
    have h2 : (setsX x).length * (setsX x).length ≤ 6 * 6 := Nat.mul_le_mul (by omega) (by omega)
    omega
theorem build_laid {x : Exams} (h6 : x.exams.length ≤ 6) : Laid (buildM x) ∧ SameOk (buildM x) := by
  by_cases h : buildE x = 0
  · obtain ⟨h1, h2⟩ := build_ok2 h6 h
    unfold buildM
    rw [if_pos h]
    have g1 : (clsX x).length ≤ 24 := by rw [h1.same]; exact h1.cls
    have g2 : ∀ l ∈ clsX x, l.length ≤ 24 := fun l hl => by
      obtain ⟨i, hi⟩ := List.getElem?_of_mem hl
      have hlt := (List.getElem?_eq_some_iff.1 hi).1
      obtain ⟨A, hA⟩ := getE (show i < (setsX x).length by rw [← h1.same]; exact hlt)
      rw [h1.lens i l A hi hA]
      exact h1.opt A (List.mem_of_getElem? hA)
    have g3 : ∀ l ∈ clsX x, ∀ o ∈ l, o.charges.length ≤ 1 := fun l hl o ho => by
      rcases h1.chg l hl o ho with e | ⟨c, e, -⟩ <;> rw [e] <;> simp
    have g4 : ∀ p ∈ prsU (setsX x) (entX x) 7, p.table.length ≤ 576 := fun p hp => by
      obtain ⟨v, i, k, A, B, -, -, hA, hB, rfl⟩ := prs_mem hp
      show (tabS _ _ _ _ A B).length ≤ 576
      rw [tabS_len]
      have := Nat.mul_le_mul (h1.opt A (List.mem_of_getElem? hA)) (h1.opt B (List.mem_of_getElem? hB))
      omega
    have g5 : (cntS (setsX x) (wtX x) (mostX x) x.rooms.length x.sits.length).length ≤ 800 := Nat.le_trans cntS_len h1.cnt
    have g6 : ∀ c ∈ cntS (setsX x) (wtX x) (mostX x) x.rooms.length x.sits.length, c.loads.length ≤ 24 := fun c hc => by
      obtain ⟨a, -, hc⟩ := gr_mem.1 hc
      obtain ⟨r, -, hc⟩ := fm_mem.1 hc
      unfold countS at hc
      split at hc
      · injection hc with hc
        subst hc
        exact Nat.le_trans upto_len h1.cls
      · cases hc
    exact ⟨⟨by dsimp only; omega, by dsimp only; omega, fun l hl o ho => by have := g3 l hl o ho; omega, fun c hc => by have := g6 c hc; omega⟩, ⟨by dsimp only; omega, fun l hl => by have := g2 l hl; omega, fun l hl o ho => by have := g3 l hl o ho; omega, by dsimp only; omega, fun p hp => by have := g4 p hp; omega, by dsimp only; omega, fun c hc => by have := g6 c hc; omega⟩⟩
  · unfold buildM
    rw [if_neg h]
    exact ⟨⟨Nat.zero_le _, Nat.zero_le _, fun l hl => (by cases hl), fun c hc => (by cases hc)⟩, ⟨Nat.zero_le _, fun l hl => (by cases hl), fun l hl => (by cases hl), Nat.zero_le _, fun p hp => (by cases hp), Nat.zero_le _, fun c hc => (by cases hc)⟩⟩
theorem call_some {t : List Int} {k : Nat} {H : Heap} {K : AV → Heap → Prop} (i : Nat) (hi : H[i]? = some (dice t k)) (ht : t.length ≤ 400) (hk : k ≤ t.length)
    (hK : ∀ (x : Exams) k2, k2 ≤ t.length → x.exams.length ≤ 6 → x.sits.length ≤ 6 → K (ag x.cells) (H.set i (dice t k2))) : vcFun Tryz.prog 10 [.ptr i 2 0 0] H K := by
  refine call_one (i := i) hi (fun _ _ => rfl) [.ptr 0 2 0 0] rfl (c_some t k ht hk) ?_
  rintro r H' ⟨y, k', h1, ⟨h3, h4⟩, rfl, rfl⟩
  exact ⟨_, rfl, fun _ _ => rfl, fun _ _ => rfl, hK y k' h1 h3 h4⟩
end Go.Proofs.YtpnghlibmpainaaGreat.Cw

/-
  The library's sort and compact of strings, laid at this seat (printed by tools/laytext.py).
-/
namespace Go.Proofs.YtpnghlibmpainaaGreat.Cw
open Go Go.Cw Go.Proofs
set_option maxRecDepth 100000

def laySort_ren : Go.Shelf.Ren := ⟨fun | 190 => 65 | 125 => 109 | 258 => 108 | 128 => 150 | 129 => 151 | 302 => 141 | 303 => 142 | 304 => 143 | 305 => 144 | 306 => 145 | 307 => 146 | 308 => 147 | 309 => 148 | 310 => 149 | 333 => 168 | 329 => 169 | 330 => 170 | 334 => 171 | 335 => 172 | 336 => 173 | 344 => 176 | n => n, fun | 31 => 67 | 9 => 9 | 3 => 3 | 46 => 94 | 0 => 0 | 51 => 203 | 53 => 205 | 4 => 4 | 183 => 196 | 182 => 195 | 131 => 186 | 5 => 5 | 218 => 211 | 222 => 215 | 228 => 218 | 229 => 219 | n => n, fun | n => n⟩
theorem laySort : Go.Proofs.Lays.n190 Tryz.prog laySort_ren where
  mixed := by kernel_rfl
  f125 := Tryz.func109.trans (congrArg some (by kernel_rfl))
  f128 := Tryz.func150.trans (congrArg some (by kernel_rfl))
  f129 := Tryz.func151.trans (congrArg some (by kernel_rfl))
  f190 := Tryz.func65.trans (congrArg some (by kernel_rfl))
  f258 := Tryz.func108.trans (congrArg some (by kernel_rfl))
  f302 := Tryz.func141.trans (congrArg some (by kernel_rfl))
  f303 := Tryz.func142.trans (congrArg some (by kernel_rfl))
  f304 := Tryz.func143.trans (congrArg some (by kernel_rfl))
  f305 := Tryz.func144.trans (congrArg some (by kernel_rfl))
  f306 := Tryz.func145.trans (congrArg some (by kernel_rfl))
  f307 := Tryz.func146.trans (congrArg some (by kernel_rfl))
  f308 := Tryz.func147.trans (congrArg some (by kernel_rfl))
  f309 := Tryz.func148.trans (congrArg some (by kernel_rfl))
  f310 := Tryz.func149.trans (congrArg some (by kernel_rfl))
  f329 := Tryz.func169.trans (congrArg some (by kernel_rfl))
  f330 := Tryz.func170.trans (congrArg some (by kernel_rfl))
  f333 := Tryz.func168.trans (congrArg some (by kernel_rfl))
  f334 := Tryz.func171.trans (congrArg some (by kernel_rfl))
  f335 := Tryz.func172.trans (congrArg some (by kernel_rfl))
  f336 := Tryz.func173.trans (congrArg some (by kernel_rfl))
  f344 := Tryz.func176.trans (congrArg some (by kernel_rfl))
  t0 := Tryz.underlying0
  a0 := Tryz.isAgg0
  z0 := Tryz.sizeOf0
  v0 := Tryz.zeroValue0
  t3 := Tryz.underlying3
  a3 := Tryz.isAgg3
  z3 := Tryz.sizeOf3
  v3 := Tryz.zeroValue3
  t4 := Tryz.underlying4
  a4 := Tryz.isAgg4
  z4 := Tryz.sizeOf4
  v4 := Tryz.zeroValue4
  t5 := Tryz.underlying5
  a5 := Tryz.isAgg5
  z5 := Tryz.sizeOf5
  v5 := Tryz.zeroValue5
  t9 := Tryz.underlying9
  a9 := Tryz.isAgg9
  z9 := Tryz.sizeOf9
  v9 := Tryz.zeroValue9
  t31 := Tryz.underlying67
  a31 := Tryz.isAgg67
  z31 := Tryz.sizeOf67
  v31 := Tryz.zeroValue67
  t46 := Tryz.underlying94
  a46 := Tryz.isAgg94
  z46 := Tryz.sizeOf94
  v46 := Tryz.zeroValue94
  t51 := Tryz.underlying203
  a51 := Tryz.isAgg203
  z51 := Tryz.sizeOf203
  v51 := Tryz.zeroValue203
  t53 := Tryz.underlying205
  a53 := Tryz.isAgg205
  z53 := Tryz.sizeOf205
  v53 := Tryz.zeroValue205
  t131 := Tryz.underlying186
  a131 := Tryz.isAgg186
  z131 := Tryz.sizeOf186
  v131 := Tryz.zeroValue186
  t182 := Tryz.underlying195
  a182 := Tryz.isAgg195
  z182 := Tryz.sizeOf195
  v182 := Tryz.zeroValue195
  t183 := Tryz.underlying196
  a183 := Tryz.isAgg196
  z183 := Tryz.sizeOf196
  v183 := Tryz.zeroValue196
  t218 := Tryz.underlying211
  a218 := Tryz.isAgg211
  z218 := Tryz.sizeOf211
  v218 := Tryz.zeroValue211
  t222 := Tryz.underlying215
  a222 := Tryz.isAgg215
  z222 := Tryz.sizeOf215
  v222 := Tryz.zeroValue215
  t228 := Tryz.underlying218
  a228 := Tryz.isAgg218
  z228 := Tryz.sizeOf218
  v228 := Tryz.zeroValue218
  t229 := Tryz.underlying219
  a229 := Tryz.isAgg219
  z229 := Tryz.sizeOf219
  v229 := Tryz.zeroValue219
def layComp_ren : Go.Shelf.Ren := ⟨fun | 194 => 66 | n => n, fun | 31 => 67 | 9 => 9 | 3 => 3 | 4 => 4 | 0 => 0 | n => n, fun | n => n⟩
theorem layComp : Go.Proofs.Lays.n194 Tryz.prog layComp_ren where
  mixed := by kernel_rfl
  f194 := Tryz.func66.trans (congrArg some (by kernel_rfl))
  t0 := Tryz.underlying0
  a0 := Tryz.isAgg0
  z0 := Tryz.sizeOf0
  v0 := Tryz.zeroValue0
  t3 := Tryz.underlying3
  a3 := Tryz.isAgg3
  z3 := Tryz.sizeOf3
  v3 := Tryz.zeroValue3
  t4 := Tryz.underlying4
  a4 := Tryz.isAgg4
  z4 := Tryz.sizeOf4
  v4 := Tryz.zeroValue4
  t9 := Tryz.underlying9
  a9 := Tryz.isAgg9
  z9 := Tryz.sizeOf9
  v9 := Tryz.zeroValue9
  t31 := Tryz.underlying67
  a31 := Tryz.isAgg67
  z31 := Tryz.sizeOf67
  v31 := Tryz.zeroValue67

/-- A function of the program can be entered. -/
theorem ent {f : FuncId} {fn : Func} (h : Tryz.prog.funcs[f]? = some fn) (h1 : (fn.name == "runtime.NumGoroutine") = false) (h2 : fn.body.isNone = false) : Enterable Tryz.prog f := ⟨fn, h, h1, h2⟩
theorem c_sort (ss : List ByteArray) (hne : ss ≠ []) (hl : ss.length ≤ 1000000) :
    ACall Tryz.prog 65 [.ms 0 1 0 ss.length] [some ⟨9, 1, false, .p (ss.map strRow)⟩] fun r H' => r = .tup [] ∧ H' = [some ⟨9, 1, false, .p ((sortS ss).map strRow)⟩] :=
  acall_sortS laySort (ent Tryz.func65 (by kernel_rfl) (by kernel_rfl)) 9 ss hne (by omega)
theorem c_sort0 : PCall Tryz.prog 65 [.pv (.val (.slice none 0 0))] (fun r => r = .tup []) := acall_sortS0 laySort (ent Tryz.func65 (by kernel_rfl) (by kernel_rfl))
theorem c_compact (ss : List ByteArray) (hne : ss ≠ []) (hl : ss.length ≤ 1000000) :
    ACall Tryz.prog 66 [.ms 0 1 0 ss.length] [some ⟨9, 1, false, .p (ss.map strRow)⟩] fun r H' => r = .ms 0 1 0 (compactS ss).length ∧ ∃ zs : List ByteArray, H' = [some ⟨9, 1, false, .p ((compactS ss).map strRow ++ zs.map strRow)⟩] :=
  acall_compactS layComp (ent Tryz.func66 (by kernel_rfl) (by kernel_rfl)) 9 ss hne (by omega)
theorem c_compact0 : PCall Tryz.prog 66 [.pv (.val (.slice none 0 0))] (fun r => r = .pv (.val (.slice none 0 0))) := acall_compactS0 layComp (ent Tryz.func66 (by kernel_rfl) (by kernel_rfl))
end Go.Proofs.YtpnghlibmpainaaGreat.Cw

/-
  Contracts: the strains of examinations, by the program.
-/
namespace Go.Proofs.YtpnghlibmpainaaGreat.Cw
open Go Go.Cw Go.Proofs
set_option linter.unusedVariables false
set_option maxRecDepth 100000
set_option maxHeartbeats 8000000

noncomputable def sitN (x : Exams) (p : Placed) : Nat := (sitW x p.time).toNat
noncomputable def atS (x : Exams) (l : List Placed) : List Nat := l.map (sitN x)
/-- All students that are named, one list behind the other. -/
def allS (x : Exams) (i : Nat) : List Str := (x.exams.take i).flatMap Exam.studs
def namesX (x : Exams) : List Str := compactS (sortS (allS x x.exams.length))
noncomputable def strainsE (x : Exams) (l : List Placed) : Int := if examsE x ≠ 0 then examsE x else if l.length ≠ x.exams.length then 17 else if pB (∀ p ∈ l, whereP x p) then 0 else 17
noncomputable def strainsV (x : Exams) (l : List Placed) : List (List PV) := if strainsE x l = 0 then (namesX x).map (strainR x (atS x l)) else []
noncomputable def strainsA (x : Exams) (l : List Placed) : AV := .tup [.pv (.sl 4 (strainsV x l)), vint .i64 (strainsE x l)]

theorem sitW_lt {x : Exams} {t : Time} (h : 0 ≤ sitW x t) : ∃ n : Nat, sitW x t = n ∧ n < x.sits.length := by
  unfold sitW idxB at *
  split at h
  · rename_i i hi
    exact ⟨i, rfl, (List.findIdx?_eq_some_iff_getElem.1 hi).1⟩
  · exact absurd h (by decide)
theorem sitN_at {x : Exams} {p : Placed} (h : whereP x p) : sitW x p.time = (sitN x p : Int) ∧ sitN x p < x.sits.length := by
  obtain ⟨n, h1, h2⟩ := sitW_lt h.2.1
  unfold sitN
  rw [h1]
  exact ⟨rfl, h2⟩
theorem allS_succ {x : Exams} {i : Nat} {e : Exam} (h : x.exams[i]? = some e) : allS x (i + 1) = allS x i ++ e.studs := by
  unfold allS; rw [take_snoc h, List.flatMap_append]; simp
theorem allS_len {x : Exams} (h : examsE x = 0) : ∀ {i : Nat}, (allS x i).length ≤ i * 64
  | 0 => by simp [allS]
  | i + 1 => by
    have ih := allS_len h (i := i)
    rcases Nat.lt_or_ge i x.exams.length with hlt | hge
    · obtain ⟨e, he⟩ := getE hlt
      have := (exam_z h e (List.mem_of_getElem? he)).2.2
      rw [allS_succ he, List.length_append]; omega
    · have : allS x (i + 1) = allS x i := by unfold allS; rw [List.take_of_length_le (by omega), List.take_of_length_le (by omega)]
      rw [this]; omega
/-- The sittings found so far, then nothing. -/
noncomputable def partS (x : Exams) (l : List Placed) (i : Nat) : List Nat := (atS x l).take i ++ List.replicate (l.length - i) 0
theorem partS_len {x : Exams} {l : List Placed} {i : Nat} (h : i ≤ l.length) : (partS x l i).length = l.length := by
  unfold partS atS; rw [List.length_append, List.length_take, List.length_replicate, List.length_map]; omega
theorem partS_set {x : Exams} {l : List Placed} {i : Nat} {p : Placed} (h : l[i]? = some p) : (partS x l i).set i (sitN x p) = partS x l (i + 1) := by
  have hi := (List.getElem?_eq_some_iff.1 h).1
  unfold partS
  have e : (atS x l)[i]? = some (sitN x p) := by unfold atS; rw [List.getElem?_map, h]; rfl
  have hl : ((atS x l).take i).length = i := by rw [List.length_take]; unfold atS; rw [List.length_map]; omega
  rw [List.set_append_right _ _ (by omega), hl, Nat.sub_self, take_snoc e, show l.length - i = (l.length - (i + 1)) + 1 by omega, List.replicate_succ, List.set_cons_zero, List.append_assoc]
  rfl
theorem partS_all {x : Exams} {l : List Placed} : partS x l l.length = atS x l := by
  unfold partS; rw [Nat.sub_self, List.take_of_length_le (by unfold atS; rw [List.length_map]; exact Nat.le_refl _)]; simp
theorem partS_zero {x : Exams} {l : List Placed} : partS x l 0 = List.replicate l.length 0 := by unfold partS; simp
theorem rep_map {n : Nat} : (List.replicate n 0).map eiN = List.replicate n [ei 0] := by rw [List.map_replicate]; rfl
theorem c_strains1 (x : Exams) (l : List Placed) (h : ¬ (examsE x = 0 ∧ l.length = x.exams.length)) (hl : l.length ≤ 100000) (hx : x.exams.length ≤ 100000) : PCall Tryz.prog 30 [ag x.cells, .pv (.sl 5 (l.map Placed.row))] (fun r => Leq r (strainsA x l)) := by
  have h1 := c_exams x
  have e0 : strainsE x l ≠ 0 := by
    unfold strainsE
    by_cases h0 : examsE x = 0
    · rw [if_neg (by simp [h0]), if_pos (fun k => h ⟨h0, k⟩)]; decide
    · rw [if_pos h0]; exact h0
  have e1 : strainsV x l = [] := by unfold strainsV; rw [if_neg e0]
  unfold strainsA
  rw [e1]
  by_cases h0 : examsE x = 0
  · have e2 : strainsE x l = 17 := by unfold strainsE; rw [if_neg (by simp [h0]), if_pos (fun k => h ⟨h0, k⟩)]
    have h3 : ¬ l.length = x.exams.length := fun k => h ⟨h0, k⟩
    rw [h0] at h1
    rw [e2]
    refine acall_of tok mixed 78 rfl (fn := Tryz.f30) (c := Tryz.f30.body.getD .skip) (by kernel_rfl) (by kernel_rfl) (by kernel_rfl) rfl 0 rfl ?_
    repeat' (first | refine o1 ?_ | refine o2 ?_ | refine k1 ?_ | refine k2 ?_ | refine k3 ?_ | refine k4 ?_ | refine k6 ?_ | refine k7 ?_ | refine k8 ?_ | refine And.intro ?_ ?_ | exact trivial | refine o3 ?_ | refine o4 ?_ | refine o5 ?_ | refine o6 ?_ | refine k5 ?_ | (intro h; first | exact Bool.noConfusion h | exact nz _ h | exact nl h | (simp at h; done) | (simp at h; first | (exfalso; omega) | skip) | skip) | (change retOk _ _ _ _; refine ret_pure rfl trivial ?_) | exact (rfl : allOne _ = true) | (refine (?_ : (0 : Int) ≤ _); omega) | (refine (?_ : _ ≠ _); omega) | (refine (?_ : srcLen _ = rowsLen _); rfl) | exact Nat.le_of_ble_eq_true rfl | exact (by kernel_rfl : drawOk _ _ = true) | refine eqv_len_map ?_ | refine eqv_size ?_ | refine eqv_put (eqv_ck ?_) | refine eqv_zero ?_ | refine eqv_wrap (by omega) (by omega) ?_ | refine eqv_u64 (by omega) (by omega) ?_ | refine eqv_u8 (by omega) (by omega) ?_ | refine eqv_to _ (set_map rfl rfl) ?_ | refine ⟨_, _, (by first | rfl | assumption), at_map (by assumption), ?_⟩ | refine ⟨_, _, (by first | rfl | assumption), (by assumption), ?_⟩ | refine ⟨_, at_map (by assumption), (by decide), ?_⟩ | refine ⟨_, at_map (by assumption), ?_⟩ | (refine (?_ : _ ≤ 140737488355328); simp [rowsLen] <;> omega) | (refine (?_ : _ ≤ 9223372036854775807); simp [rowsLen] <;> omega) | (refine (?_ : _ = rowsLen _); simp [rowsLen] <;> omega) | refine eqv_to _ (app_row rfl) (eqv_to _ app_len ?_) | refine eqv_to _ (app_first rfl) (eqv_to 1 rfl ?_) | refine idx_sl (at_map (by assumption)) (by omega) ?_ | refine idx_ms _ (by first | rfl | assumption) (by first | assumption | omega) ?_ | (change vcFun _ _ _ _ _; refine call_eq rfl (by repeat' (first | trivial | refine And.intro ?_ ?_ | (show 0 + _ ≤ List.length _; simp))) ALeL.refl (h1) rfl ?_) | fail)
    all_goals first
      | (exfalso; omega)
      | (refine ret_pure rfl (by repeat' (first | exact True.intro | refine And.intro ?_ ?_)) ?_; exact ⟨ALe.tup ⟨ALe.pv PLe.nil, ALe.refl, trivial⟩⟩)
      | exact ⟨ALe.tup ⟨ALe.pv PLe.nil, ALe.refl, trivial⟩⟩
  · have e2 : strainsE x l = examsE x := by unfold strainsE; rw [if_pos h0]
    rw [e2]
    generalize examsE x = E at *
    refine acall_of tok mixed 78 rfl (fn := Tryz.f30) (c := Tryz.f30.body.getD .skip) (by kernel_rfl) (by kernel_rfl) (by kernel_rfl) rfl 0 rfl ?_
    repeat' (first | refine o1 ?_ | refine o2 ?_ | refine k1 ?_ | refine k2 ?_ | refine k3 ?_ | refine k4 ?_ | refine k6 ?_ | refine k7 ?_ | refine k8 ?_ | refine And.intro ?_ ?_ | exact trivial | refine o3 ?_ | refine o4 ?_ | refine o5 ?_ | refine o6 ?_ | refine k5 ?_ | (intro h; first | exact Bool.noConfusion h | exact nz _ h | exact nl h | (simp at h; done) | (simp at h; first | (exfalso; omega) | skip) | skip) | (change retOk _ _ _ _; refine ret_pure rfl trivial ?_) | exact (rfl : allOne _ = true) | (refine (?_ : (0 : Int) ≤ _); omega) | (refine (?_ : _ ≠ _); omega) | (refine (?_ : srcLen _ = rowsLen _); rfl) | exact Nat.le_of_ble_eq_true rfl | exact (by kernel_rfl : drawOk _ _ = true) | refine eqv_len_map ?_ | refine eqv_size ?_ | refine eqv_put (eqv_ck ?_) | refine eqv_zero ?_ | refine eqv_wrap (by omega) (by omega) ?_ | refine eqv_u64 (by omega) (by omega) ?_ | refine eqv_u8 (by omega) (by omega) ?_ | refine eqv_to _ (set_map rfl rfl) ?_ | refine ⟨_, _, (by first | rfl | assumption), at_map (by assumption), ?_⟩ | refine ⟨_, _, (by first | rfl | assumption), (by assumption), ?_⟩ | refine ⟨_, at_map (by assumption), (by decide), ?_⟩ | refine ⟨_, at_map (by assumption), ?_⟩ | (refine (?_ : _ ≤ 140737488355328); simp [rowsLen] <;> omega) | (refine (?_ : _ ≤ 9223372036854775807); simp [rowsLen] <;> omega) | (refine (?_ : _ = rowsLen _); simp [rowsLen] <;> omega) | refine eqv_to _ (app_row rfl) (eqv_to _ app_len ?_) | refine eqv_to _ (app_first rfl) (eqv_to 1 rfl ?_) | refine idx_sl (at_map (by assumption)) (by omega) ?_ | refine idx_ms _ (by first | rfl | assumption) (by first | assumption | omega) ?_ | (change vcFun _ _ _ _ _; refine call_eq rfl (by repeat' (first | trivial | refine And.intro ?_ ?_ | (show 0 + _ ≤ List.length _; simp))) ALeL.refl (h1) rfl ?_) | fail)
    all_goals first
      | (exfalso; omega)
      | exact ⟨ALe.tup ⟨ALe.pv PLe.nil, ALe.refl, trivial⟩⟩
theorem sl_ne {id z : Nat} {α : Type} {f : α → List PV} {L : List α} (h : L ≠ []) {n : Nat} (hn : L.length = n) : slP id z (L.map f) = .ms id z 0 n := by
  subst hn
  cases L with
  | nil => exact absurd rfl h
  | cons a l => simp [slP]
theorem ob_ne {ty z : Nat} {α : Type} {f : α → List PV} {L : List α} (h : L ≠ []) : obP ty z (L.map f) = some ⟨ty, z, false, .p (L.map f)⟩ := by
  cases L with
  | nil => exact absurd rfl h
  | cons a l => rfl
theorem le_mid {a b : AV} {α : Type} {f : α → List PV} {z n : Nat} {l : List α} (h : l.length ≤ n) : ALeL [a, .pv (.sl z (List.take n (List.drop 0 (l.map f)))), b] [a, .pv (.sl z (l.map f)), b] := ⟨ALe.refl, ALe.pv (whole_le h), ALe.refl, trivial⟩
theorem sortS_len (l : List Str) : (sortS l).length = l.length := (sortS_perm l).length_eq
theorem sortS_ne {l : List Str} (h : l ≠ []) : sortS l ≠ [] := fun e => h (List.eq_nil_of_length_eq_zero (by rw [← sortS_len, e]; rfl))
theorem strains_bad {x : Exams} {l : List Placed} {i : Nat} {p : Placed} (h0 : examsE x = 0) (hn : l.length = x.exams.length) (hp : l[i]? = some p) (hw : ¬ whereP x p) : strainsE x l = 17 ∧ strainsV x l = [] := by
  have e : strainsE x l = 17 := by
    unfold strainsE
    rw [if_neg (by simp [h0]), if_neg (by simp [hn]), pB_f (fun k => hw (k p (List.mem_of_getElem? hp)))]; rfl
  exact ⟨e, by unfold strainsV; rw [e]; rfl⟩
theorem strains_good {x : Exams} {l : List Placed} (h0 : examsE x = 0) (hn : l.length = x.exams.length) (hall : ∀ j, j < l.length → ∀ p, l[j]? = some p → whereP x p) : strainsE x l = 0 ∧ strainsV x l = (namesX x).map (strainR x (atS x l)) := by
  have e : strainsE x l = 0 := by
    unfold strainsE
    rw [if_neg (by simp [h0]), if_neg (by simp [hn]), pB_t (fun p hp => by obtain ⟨j, hj⟩ := List.getElem?_of_mem hp; exact hall j (List.getElem?_eq_some_iff.1 hj).1 p hj)]; rfl
  exact ⟨e, by unfold strainsV; rw [if_pos e]⟩
theorem atS_ok {x : Exams} {l : List Placed} (hn : l.length = x.exams.length) (hall : ∀ j, j < l.length → ∀ p, l[j]? = some p → whereP x p) : SitsOk x (atS x l) := by
  refine ⟨by unfold atS; rw [List.length_map]; exact hn, fun q hq => ?_⟩
  obtain ⟨p, hp, rfl⟩ := List.mem_map.1 hq
  obtain ⟨j, hj⟩ := List.getElem?_of_mem hp
  exact (sitN_at (hall j (List.getElem?_eq_some_iff.1 hj).1 p hj)).2
theorem c_sort2 (ss : List ByteArray) (hne : ss ≠ []) (hl : ss.length ≤ 1000000) :
    ACall Tryz.prog 65 [.ms 0 1 0 (sortS ss).length] [some ⟨9, 1, false, .p (ss.map strRow)⟩] fun r H' => r = .tup [] ∧ H' = [some ⟨9, 1, false, .p ((sortS ss).map strRow)⟩] := by
  rw [sortS_len]; exact c_sort ss hne hl

theorem c_strains0 (x : Exams) (l : List Placed) (h0 : examsE x = 0) (hn : l.length = x.exams.length) (h6 : x.exams.length ≤ 6) : PCall Tryz.prog 30 [ag x.cells, .pv (.sl 5 (l.map Placed.row))] (fun r => Leq r (strainsA x l)) := by
  have h1 := c_exams x
  rw [h0] at h1
  have hal := fun i => allS_len h0 (i := i)
  unfold strainsA
  refine acall_of tok mixed 78 rfl (fn := Tryz.f30) (c := Tryz.f30.body.getD .skip) (by kernel_rfl) (by kernel_rfl) (by kernel_rfl) rfl 0 rfl ?_
  repeat' (first | (refine ⟨l.length, l.length, rfl, rfl, Nat.le_refl _, (by omega), (by omega), ?_⟩) | (refine eqv_to (List.replicate l.length [ei 0]) rfl ?_) | refine o1 ?_ | refine o2 ?_ | refine k1 ?_ | refine k2 ?_ | refine k3 ?_ | refine k4 ?_ | refine k6 ?_ | refine k7 ?_ | refine k8 ?_ | refine And.intro ?_ ?_ | exact trivial | refine o3 ?_ | refine o4 ?_ | refine o5 ?_ | refine o6 ?_ | refine k5 ?_ | (intro h; first | exact Bool.noConfusion h | exact nz _ h | exact nl h | (simp at h; done) | (simp at h; first | (exfalso; omega) | skip) | skip) | (change retOk _ _ _ _; refine ret_pure rfl trivial ?_) | exact (rfl : allOne _ = true) | (refine (?_ : (0 : Int) ≤ _); omega) | (refine (?_ : _ ≠ _); omega) | (refine (?_ : srcLen _ = rowsLen _); rfl) | exact Nat.le_of_ble_eq_true rfl | exact (by kernel_rfl : drawOk _ _ = true) | refine eqv_len_map ?_ | refine eqv_size ?_ | refine eqv_put (eqv_ck ?_) | refine eqv_zero ?_ | refine eqv_wrap (by omega) (by omega) ?_ | refine eqv_u64 (by omega) (by omega) ?_ | refine eqv_u8 (by omega) (by omega) ?_ | refine eqv_to _ (set_map rfl rfl) ?_ | refine ⟨_, _, (by first | rfl | assumption), at_map (by assumption), ?_⟩ | refine ⟨_, _, (by first | rfl | assumption), (by assumption), ?_⟩ | refine ⟨_, at_map (by assumption), (by decide), ?_⟩ | refine ⟨_, at_map (by assumption), ?_⟩ | (refine (?_ : _ ≤ 140737488355328); simp [rowsLen] <;> omega) | (refine (?_ : _ ≤ 9223372036854775807); simp [rowsLen] <;> omega) | (refine (?_ : _ = rowsLen _); simp [rowsLen] <;> omega) | refine eqv_to _ (app_row rfl) (eqv_to _ app_len ?_) | refine eqv_to _ (app_first rfl) (eqv_to 1 rfl ?_) | refine idx_sl (at_map (by assumption)) (by omega) ?_ | refine idx_ms _ (by first | rfl | assumption) (by first | assumption | omega) ?_ | (change vcFun _ _ _ _ _; refine call_eq rfl (by repeat' (first | trivial | refine And.intro ?_ ?_ | (show 0 + _ ≤ List.length _; simp))) ALeL.refl (h1) rfl ?_) | fail)
  all_goals try (exfalso; omega)
  refine loop_for (fun i : Nat => [(1, .pv (.sl 5 (l.map Placed.row))), (2, .ptr 0 8 0 0), (7, .ms 1 1 0 l.length), (8, slP 2 1 ((allS x i).map strRow)), (31, .pv (.sl 5 (l.map Placed.row))), (32, vint .i64 l.length), (33, vint .i64 i)])
    (fun i => [some ⟨33, 8, false, .box (pvs x.cells)⟩, some ⟨3, 1, false, .p ((partS x l i).map eiN)⟩, obP 9 1 ((allS x i).map strRow)])
    (fun i => i ≤ l.length ∧ ∀ j, j < i → ∀ p, l[j]? = some p → whereP x p) (fun i => l.length - i) 0 ⟨Nat.zero_le _, fun j hj => by omega⟩ ?_ ?_
  · rw [partS_zero, rep_map]
    exact back [0, 1, 2] rfl rfl (by repeat' (first | exact trivial | exact rfl | exact ren_get rfl | refine kept_ob rfl ?_ | exact ⟨_, rfl, ALe.refl⟩ | refine And.intro ?_ ?_)) (by repeat' (first | exact trivial | exact rfl | exact ren_get rfl | refine kept_ob rfl ?_ | exact ⟨_, rfl, ALe.refl⟩ | refine And.intro ?_ ?_))
  intro i ⟨hi, hall⟩
  have hai := hal i
  rcases Nat.lt_or_ge i l.length with hlt | hge
  · obtain ⟨p, hp⟩ := getE hlt
    obtain ⟨e, he⟩ := getE (show i < x.exams.length by omega)
    have hes := (exam_z h0 e (List.mem_of_getElem? he)).2.2
    have hw := c_where x p h0
    have hps := partS_set (x := x) hp
    have hpl := partS_len (x := x) hi
    have has := allS_succ he
    have hpr : (l.map Placed.row)[i]? = some p.row := by rw [List.getElem?_map, hp]; rfl
    by_cases hwp : whereP x p
    · rw [whereA_t hwp, (sitN_at hwp).1] at hw
      generalize allS x i = L at *
      generalize partS x l i = A at *
      obtain ⟨a0, ha0⟩ := getE (show i < A.length by omega)
      repeat' (first | (refine fv_sl ?_) | (refine fh_ob ?_) | (refine idx_sl (k := i) (at_map he) (by omega) ?_) | (refine eqv_to _ (set_map (f := eiN) (y := sitN x p) rfl rfl) ?_) | ((refine o_appL rfl rfl rfl rfl rfl rfl rfl rfl rfl rfl rfl (by rw [List.length_map, List.length_map]; omega) (by rw [List.length_map, List.length_map]; omega) ?_)) | refine o1 ?_ | refine o2 ?_ | refine k1 ?_ | refine k2 ?_ | refine k3 ?_ | refine k4 ?_ | refine k6 ?_ | refine k7 ?_ | refine k8 ?_ | refine And.intro ?_ ?_ | exact trivial | refine o3 ?_ | refine o4 ?_ | refine o5 ?_ | refine o6 ?_ | refine k5 ?_ | (intro h; first | exact Bool.noConfusion h | exact nz _ h | exact nl h | (simp at h; done) | (simp at h; first | (exfalso; omega) | skip) | skip) | (change retOk _ _ _ _; refine ret_pure rfl trivial ?_) | exact (rfl : allOne _ = true) | (refine (?_ : (0 : Int) ≤ _); omega) | (refine (?_ : _ ≠ _); omega) | (refine (?_ : srcLen _ = rowsLen _); rfl) | exact Nat.le_of_ble_eq_true rfl | exact (by kernel_rfl : drawOk _ _ = true) | refine eqv_len_map ?_ | refine eqv_size ?_ | refine eqv_put (eqv_ck ?_) | refine eqv_zero ?_ | refine eqv_wrap (by omega) (by omega) ?_ | refine eqv_u64 (by omega) (by omega) ?_ | refine eqv_u8 (by omega) (by omega) ?_ | refine eqv_to _ (set_map rfl rfl) ?_ | refine ⟨_, _, (by first | rfl | assumption), at_map (by assumption), ?_⟩ | refine ⟨_, _, (by first | rfl | assumption), (by assumption), ?_⟩ | refine ⟨_, at_map (by assumption), (by decide), ?_⟩ | refine ⟨_, at_map (by assumption), ?_⟩ | (refine (?_ : _ ≤ 140737488355328); simp [rowsLen] <;> omega) | (refine (?_ : _ ≤ 9223372036854775807); simp [rowsLen] <;> omega) | (refine (?_ : _ = rowsLen _); simp [rowsLen] <;> omega) | refine eqv_to _ (app_row rfl) (eqv_to _ app_len ?_) | refine eqv_to _ (app_first rfl) (eqv_to 1 rfl ?_) | refine idx_sl (at_map (by assumption)) (by omega) ?_ | refine idx_ms _ (by first | rfl | assumption) (by first | assumption | omega) ?_ | (change vcFun _ _ _ _ _; refine call_eq rfl (by repeat' (first | trivial | refine And.intro ?_ ?_ | (show 0 + _ ≤ List.length _; simp))) ALeL.refl (hw) rfl ?_) | fail)
      refine ⟨i + 1, ⟨hlt, all_lt_succ hall fun q hq => by rw [hp] at hq; cases hq; exact hwp⟩, by omega, ?_⟩
      rw [← hps, has, List.map_append]
      exact back [0, 1, 4] rfl rfl (by repeat' (first | exact trivial | exact rfl | exact ren_get rfl | refine kept_ob rfl ?_ | exact ⟨_, rfl, ALe.refl⟩ | refine And.intro ?_ ?_)) (by repeat' (first | exact trivial | exact rfl | exact ren_get rfl | refine kept_ob rfl ?_ | exact ⟨_, rfl, ALe.refl⟩ | refine And.intro ?_ ?_))
    · obtain ⟨b1, b2⟩ := strains_bad h0 hn hp hwp
      rw [whereA_f hwp] at hw
      rw [b1, b2]
      generalize allS x i = L at *
      generalize partS x l i = A at *
      repeat' (first | (refine fv_sl ?_) | (refine fh_ob ?_) | refine o1 ?_ | refine o2 ?_ | refine k1 ?_ | refine k2 ?_ | refine k3 ?_ | refine k4 ?_ | refine k6 ?_ | refine k7 ?_ | refine k8 ?_ | refine And.intro ?_ ?_ | exact trivial | refine o3 ?_ | refine o4 ?_ | refine o5 ?_ | refine o6 ?_ | refine k5 ?_ | (intro h; first | exact Bool.noConfusion h | exact nz _ h | exact nl h | (simp at h; done) | (simp at h; first | (exfalso; omega) | skip) | skip) | (change retOk _ _ _ _; refine ret_pure rfl trivial ?_) | exact (rfl : allOne _ = true) | (refine (?_ : (0 : Int) ≤ _); omega) | (refine (?_ : _ ≠ _); omega) | (refine (?_ : srcLen _ = rowsLen _); rfl) | exact Nat.le_of_ble_eq_true rfl | exact (by kernel_rfl : drawOk _ _ = true) | refine eqv_len_map ?_ | refine eqv_size ?_ | refine eqv_put (eqv_ck ?_) | refine eqv_zero ?_ | refine eqv_wrap (by omega) (by omega) ?_ | refine eqv_u64 (by omega) (by omega) ?_ | refine eqv_u8 (by omega) (by omega) ?_ | refine eqv_to _ (set_map rfl rfl) ?_ | refine ⟨_, _, (by first | rfl | assumption), at_map (by assumption), ?_⟩ | refine ⟨_, _, (by first | rfl | assumption), (by assumption), ?_⟩ | refine ⟨_, at_map (by assumption), (by decide), ?_⟩ | refine ⟨_, at_map (by assumption), ?_⟩ | (refine (?_ : _ ≤ 140737488355328); simp [rowsLen] <;> omega) | (refine (?_ : _ ≤ 9223372036854775807); simp [rowsLen] <;> omega) | (refine (?_ : _ = rowsLen _); simp [rowsLen] <;> omega) | refine eqv_to _ (app_row rfl) (eqv_to _ app_len ?_) | refine eqv_to _ (app_first rfl) (eqv_to 1 rfl ?_) | refine idx_sl (at_map (by assumption)) (by omega) ?_ | refine idx_ms _ (by first | rfl | assumption) (by first | assumption | omega) ?_ | (change vcFun _ _ _ _ _; refine call_eq rfl (by repeat' (first | trivial | refine And.intro ?_ ?_ | (show 0 + _ ≤ List.length _; simp))) ALeL.refl (hw) rfl ?_) | fail)
      exact ⟨ALe.tup ⟨ALe.pv PLe.nil, ALe.refl, trivial⟩⟩
  · obtain rfl : i = l.length := by omega
    obtain ⟨b1, b2⟩ := strains_good h0 hn hall
    have hso := atS_ok hn hall
    rw [b1, b2, partS_all]
    have hnx : namesX x = compactS (sortS (allS x l.length)) := by unfold namesX; rw [hn]
    rw [hnx]
    have hst := fun s => c_strain x (atS x l) s h0 hso h6
    have hat := hso.1
    generalize allS x l.length = L at *
    generalize atS x l = A at *
    by_cases hL : L = []
    · subst hL
      have hz : compactS (sortS []) = [] := List.eq_nil_of_length_eq_zero (by have := compactS_len (sortS []); rw [sortS_len] at this; simpa using this)
      rw [hz]
      repeat' (first | (refine fv_sl ?_) | (refine fh_ob ?_) | refine o1 ?_ | refine o2 ?_ | refine k1 ?_ | refine k2 ?_ | refine k3 ?_ | refine k4 ?_ | refine k6 ?_ | refine k7 ?_ | refine k8 ?_ | refine And.intro ?_ ?_ | exact trivial | refine o3 ?_ | refine o4 ?_ | refine o5 ?_ | refine o6 ?_ | refine k5 ?_ | (intro h; first | exact Bool.noConfusion h | exact nz _ h | exact nl h | (simp at h; done) | (simp at h; first | (exfalso; omega) | skip) | skip) | (change retOk _ _ _ _; refine ret_pure rfl trivial ?_) | exact (rfl : allOne _ = true) | (refine (?_ : (0 : Int) ≤ _); omega) | (refine (?_ : _ ≠ _); omega) | (refine (?_ : srcLen _ = rowsLen _); rfl) | exact Nat.le_of_ble_eq_true rfl | exact (by kernel_rfl : drawOk _ _ = true) | refine eqv_len_map ?_ | refine eqv_size ?_ | refine eqv_put (eqv_ck ?_) | refine eqv_zero ?_ | refine eqv_wrap (by omega) (by omega) ?_ | refine eqv_u64 (by omega) (by omega) ?_ | refine eqv_u8 (by omega) (by omega) ?_ | refine eqv_to _ (set_map rfl rfl) ?_ | refine ⟨_, _, (by first | rfl | assumption), at_map (by assumption), ?_⟩ | refine ⟨_, _, (by first | rfl | assumption), (by assumption), ?_⟩ | refine ⟨_, at_map (by assumption), (by decide), ?_⟩ | refine ⟨_, at_map (by assumption), ?_⟩ | (refine (?_ : _ ≤ 140737488355328); simp [rowsLen] <;> omega) | (refine (?_ : _ ≤ 9223372036854775807); simp [rowsLen] <;> omega) | (refine (?_ : _ = rowsLen _); simp [rowsLen] <;> omega) | refine eqv_to _ (app_row rfl) (eqv_to _ app_len ?_) | refine eqv_to _ (app_first rfl) (eqv_to 1 rfl ?_) | refine idx_sl (at_map (by assumption)) (by omega) ?_ | refine idx_ms _ (by first | rfl | assumption) (by first | assumption | omega) ?_ | (change vcFun _ _ _ _ _; refine call_eq rfl (by repeat' (first | trivial | refine And.intro ?_ ?_ | (show 0 + _ ≤ List.length _; simp))) ALeL.refl (c_sort0) rfl ?_) | (change vcFun _ _ _ _ _; refine call_eq rfl (by repeat' (first | trivial | refine And.intro ?_ ?_ | (show 0 + _ ≤ List.length _; simp))) ALeL.refl (c_compact0) rfl ?_) | fail)
      refine loop_for (fun u : Nat => [(14, nilA), (64, vint .i64 0), (65, vint .i64 0)]) (fun _ => []) (fun _ => True) (fun _ => 0) 0 trivial ?_ ?_
      · exact back [] rfl rfl trivial (by repeat' (first | exact trivial | exact rfl | exact ren_get rfl | refine kept_ob rfl ?_ | exact ⟨_, rfl, ALe.refl⟩ | refine And.intro ?_ ?_))
      intro u _
      repeat' (first | refine o1 ?_ | refine o2 ?_ | refine k1 ?_ | refine k2 ?_ | refine k3 ?_ | refine k4 ?_ | refine k6 ?_ | refine k7 ?_ | refine k8 ?_ | refine And.intro ?_ ?_ | exact trivial | refine o3 ?_ | refine o4 ?_ | refine o5 ?_ | refine o6 ?_ | refine k5 ?_ | (intro h; first | exact Bool.noConfusion h | exact nz _ h | exact nl h | (simp at h; done) | (simp at h; first | (exfalso; omega) | skip) | skip) | (change retOk _ _ _ _; refine ret_pure rfl trivial ?_) | exact (rfl : allOne _ = true) | (refine (?_ : (0 : Int) ≤ _); omega) | (refine (?_ : _ ≠ _); omega) | (refine (?_ : srcLen _ = rowsLen _); rfl) | exact Nat.le_of_ble_eq_true rfl | exact (by kernel_rfl : drawOk _ _ = true) | refine eqv_len_map ?_ | refine eqv_size ?_ | refine eqv_put (eqv_ck ?_) | refine eqv_zero ?_ | refine eqv_wrap (by omega) (by omega) ?_ | refine eqv_u64 (by omega) (by omega) ?_ | refine eqv_u8 (by omega) (by omega) ?_ | refine eqv_to _ (set_map rfl rfl) ?_ | refine ⟨_, _, (by first | rfl | assumption), at_map (by assumption), ?_⟩ | refine ⟨_, _, (by first | rfl | assumption), (by assumption), ?_⟩ | refine ⟨_, at_map (by assumption), (by decide), ?_⟩ | refine ⟨_, at_map (by assumption), ?_⟩ | (refine (?_ : _ ≤ 140737488355328); simp [rowsLen] <;> omega) | (refine (?_ : _ ≤ 9223372036854775807); simp [rowsLen] <;> omega) | (refine (?_ : _ = rowsLen _); simp [rowsLen] <;> omega) | refine eqv_to _ (app_row rfl) (eqv_to _ app_len ?_) | refine eqv_to _ (app_first rfl) (eqv_to 1 rfl ?_) | refine idx_sl (at_map (by assumption)) (by omega) ?_ | refine idx_ms _ (by first | rfl | assumption) (by first | assumption | omega) ?_ | fail)
      exact ⟨ALe.tup ⟨ALe.pv PLe.nil, ALe.refl, trivial⟩⟩
    · rw [sl_ne hL (sortS_len L).symm, ob_ne hL]
      repeat' (first | ((change vcFun _ _ _ _ _; refine call_one (i := 2) rfl (fun _ _ => rfl) [.ms 0 1 0 (sortS L).length] rfl (c_sort2 L hL (by omega)) ?_; rintro r H' ⟨rfl, rfl⟩; refine ⟨_, rfl, fun _ _ => rfl, fun _ _ => rfl, ?_⟩)) | ((change vcFun _ _ _ _ _; refine call_obj [2] [some ⟨9, 1, false, .p ((sortS L).map strRow)⟩] [.ms 0 1 0 (sortS L).length] rfl ⟨rfl, trivial⟩ rfl (c_compact (sortS L) (sortS_ne hL) (by rw [sortS_len]; omega)) ?_; rintro r H' ⟨rfl, zs, rfl⟩)) | refine o1 ?_ | refine o2 ?_ | refine k1 ?_ | refine k2 ?_ | refine k3 ?_ | refine k4 ?_ | refine k6 ?_ | refine k7 ?_ | refine k8 ?_ | refine And.intro ?_ ?_ | exact trivial | refine o3 ?_ | refine o4 ?_ | refine o5 ?_ | refine o6 ?_ | refine k5 ?_ | (intro h; first | exact Bool.noConfusion h | exact nz _ h | exact nl h | (simp at h; done) | (simp at h; first | (exfalso; omega) | skip) | skip) | (change retOk _ _ _ _; refine ret_pure rfl trivial ?_) | exact (rfl : allOne _ = true) | (refine (?_ : (0 : Int) ≤ _); omega) | (refine (?_ : _ ≠ _); omega) | (refine (?_ : srcLen _ = rowsLen _); rfl) | exact Nat.le_of_ble_eq_true rfl | exact (by kernel_rfl : drawOk _ _ = true) | refine eqv_len_map ?_ | refine eqv_size ?_ | refine eqv_put (eqv_ck ?_) | refine eqv_zero ?_ | refine eqv_wrap (by omega) (by omega) ?_ | refine eqv_u64 (by omega) (by omega) ?_ | refine eqv_u8 (by omega) (by omega) ?_ | refine eqv_to _ (set_map rfl rfl) ?_ | refine ⟨_, _, (by first | rfl | assumption), at_map (by assumption), ?_⟩ | refine ⟨_, _, (by first | rfl | assumption), (by assumption), ?_⟩ | refine ⟨_, at_map (by assumption), (by decide), ?_⟩ | refine ⟨_, at_map (by assumption), ?_⟩ | (refine (?_ : _ ≤ 140737488355328); simp [rowsLen] <;> omega) | (refine (?_ : _ ≤ 9223372036854775807); simp [rowsLen] <;> omega) | (refine (?_ : _ = rowsLen _); simp [rowsLen] <;> omega) | refine eqv_to _ (app_row rfl) (eqv_to _ app_len ?_) | refine eqv_to _ (app_first rfl) (eqv_to 1 rfl ?_) | refine idx_sl (at_map (by assumption)) (by omega) ?_ | refine idx_ms _ (by first | rfl | assumption) (by first | assumption | omega) ?_ | fail)
      have hnl : (compactS (sortS L)).length ≤ 384 := by have := compactS_len (sortS L); rw [sortS_len] at this; omega
      generalize compactS (sortS L) = NS at *
      refine loop_for (fun k : Nat => [(2, .ptr 0 8 0 0), (7, .ms 1 1 0 l.length), (14, slP 3 4 ((NS.take k).map (strainR x A))), (63, .ms 2 1 0 NS.length), (64, vint .i64 NS.length), (65, vint .i64 k)])
        (fun k => [some ⟨33, 8, false, .box (pvs x.cells)⟩, some ⟨3, 1, false, .p (A.map eiN)⟩, some ⟨9, 1, false, .p (NS.map strRow ++ zs.map strRow)⟩, obP 88 4 ((NS.take k).map (strainR x A))])
        (fun k => k ≤ NS.length) (fun k => NS.length - k) 0 (Nat.zero_le _) ?_ ?_
      · exact back [0, 1, 2, 3] rfl rfl (by repeat' (first | exact trivial | exact rfl | exact ren_get rfl | refine kept_ob rfl ?_ | exact ⟨_, rfl, ALe.refl⟩ | refine And.intro ?_ ?_)) (by repeat' (first | exact trivial | exact rfl | exact ren_get rfl | refine kept_ob rfl ?_ | exact ⟨_, rfl, ALe.refl⟩ | refine And.intro ?_ ?_))
      intro k hk
      rcases Nat.lt_or_ge k NS.length with hkl | hkg
      · obtain ⟨s, hs⟩ := getE hkl
        have hnk : (NS.map strRow ++ zs.map strRow)[k]? = some (strRow s) := by rw [List.getElem?_append_left (by rw [List.length_map]; exact hkl), List.getElem?_map, hs]; rfl
        have htk := take_snoc hs
        have htl : (NS.take k).length ≤ k := List.length_take_le ..
        have hla : l.length = A.length := hn.trans hat.symm
        generalize NS.take k = NK at *
        repeat' (first | (refine fv_sl ?_) | (refine fh_ob ?_) | (refine idx_ms k rfl hkl ?_) | (refine ⟨_, hnk, ?_⟩) | ((change vcFun _ _ _ _ _; refine call_eq rfl (by repeat' (first | trivial | refine And.intro ?_ ?_ | (show 0 + _ ≤ List.length _; rw [List.length_map]; omega))) (le_mid (f := eiN) (l := A) (by omega)) (hst s) rfl ?_)) | ((refine o_app rfl rfl rfl rfl rfl rfl rfl rfl rfl rfl rfl (by rw [List.length_map]; omega) (by rw [List.length_map]; omega) ?_)) | refine o1 ?_ | refine o2 ?_ | refine k1 ?_ | refine k2 ?_ | refine k3 ?_ | refine k4 ?_ | refine k6 ?_ | refine k7 ?_ | refine k8 ?_ | refine And.intro ?_ ?_ | exact trivial | refine o3 ?_ | refine o4 ?_ | refine o5 ?_ | refine o6 ?_ | refine k5 ?_ | (intro h; first | exact Bool.noConfusion h | exact nz _ h | exact nl h | (simp at h; done) | (simp at h; first | (exfalso; omega) | skip) | skip) | (change retOk _ _ _ _; refine ret_pure rfl trivial ?_) | exact (rfl : allOne _ = true) | (refine (?_ : (0 : Int) ≤ _); omega) | (refine (?_ : _ ≠ _); omega) | (refine (?_ : srcLen _ = rowsLen _); rfl) | exact Nat.le_of_ble_eq_true rfl | exact (by kernel_rfl : drawOk _ _ = true) | refine eqv_len_map ?_ | refine eqv_size ?_ | refine eqv_put (eqv_ck ?_) | refine eqv_zero ?_ | refine eqv_wrap (by omega) (by omega) ?_ | refine eqv_u64 (by omega) (by omega) ?_ | refine eqv_u8 (by omega) (by omega) ?_ | refine eqv_to _ (set_map rfl rfl) ?_ | refine ⟨_, _, (by first | rfl | assumption), at_map (by assumption), ?_⟩ | refine ⟨_, _, (by first | rfl | assumption), (by assumption), ?_⟩ | refine ⟨_, at_map (by assumption), (by decide), ?_⟩ | refine ⟨_, at_map (by assumption), ?_⟩ | (refine (?_ : _ ≤ 140737488355328); simp [rowsLen] <;> omega) | (refine (?_ : _ ≤ 9223372036854775807); simp [rowsLen] <;> omega) | (refine (?_ : _ = rowsLen _); simp [rowsLen] <;> omega) | refine eqv_to _ (app_row rfl) (eqv_to _ app_len ?_) | refine eqv_to _ (app_first rfl) (eqv_to 1 rfl ?_) | refine idx_sl (at_map (by assumption)) (by omega) ?_ | refine idx_ms _ (by first | rfl | assumption) (by first | assumption | omega) ?_ | fail)
        refine ⟨k + 1, hkl, by omega, ?_⟩
        rw [htk, map_snoc, sl_app, ob_app]
        exact back [0, 1, 2, 5] rfl rfl (by repeat' (first | exact trivial | exact rfl | exact ren_get rfl | refine kept_ob rfl ?_ | exact ⟨_, rfl, ALe.refl⟩ | refine And.intro ?_ ?_)) (by repeat' (first | exact trivial | exact rfl | exact ren_get rfl | refine kept_ob rfl ?_ | exact ⟨_, rfl, ALe.refl⟩ | refine And.intro ?_ ?_))
      · obtain rfl : k = NS.length := by omega
        rw [List.take_length]
        repeat' (first | (refine fv_sl ?_) | (refine fh_ob ?_) | refine o1 ?_ | refine o2 ?_ | refine k1 ?_ | refine k2 ?_ | refine k3 ?_ | refine k4 ?_ | refine k6 ?_ | refine k7 ?_ | refine k8 ?_ | refine And.intro ?_ ?_ | exact trivial | refine o3 ?_ | refine o4 ?_ | refine o5 ?_ | refine o6 ?_ | refine k5 ?_ | (intro h; first | exact Bool.noConfusion h | exact nz _ h | exact nl h | (simp at h; done) | (simp at h; first | (exfalso; omega) | skip) | skip) | (change retOk _ _ _ _; refine ret_pure rfl trivial ?_) | exact (rfl : allOne _ = true) | (refine (?_ : (0 : Int) ≤ _); omega) | (refine (?_ : _ ≠ _); omega) | (refine (?_ : srcLen _ = rowsLen _); rfl) | exact Nat.le_of_ble_eq_true rfl | exact (by kernel_rfl : drawOk _ _ = true) | refine eqv_len_map ?_ | refine eqv_size ?_ | refine eqv_put (eqv_ck ?_) | refine eqv_zero ?_ | refine eqv_wrap (by omega) (by omega) ?_ | refine eqv_u64 (by omega) (by omega) ?_ | refine eqv_u8 (by omega) (by omega) ?_ | refine eqv_to _ (set_map rfl rfl) ?_ | refine ⟨_, _, (by first | rfl | assumption), at_map (by assumption), ?_⟩ | refine ⟨_, _, (by first | rfl | assumption), (by assumption), ?_⟩ | refine ⟨_, at_map (by assumption), (by decide), ?_⟩ | refine ⟨_, at_map (by assumption), ?_⟩ | (refine (?_ : _ ≤ 140737488355328); simp [rowsLen] <;> omega) | (refine (?_ : _ ≤ 9223372036854775807); simp [rowsLen] <;> omega) | (refine (?_ : _ = rowsLen _); simp [rowsLen] <;> omega) | refine eqv_to _ (app_row rfl) (eqv_to _ app_len ?_) | refine eqv_to _ (app_first rfl) (eqv_to 1 rfl ?_) | refine idx_sl (at_map (by assumption)) (by omega) ?_ | refine idx_ms _ (by first | rfl | assumption) (by first | assumption | omega) ?_ | fail)
        exact ret_sl2 (id := 3) (ty := 88) rfl rfl
end Go.Proofs.YtpnghlibmpainaaGreat.Cw

/-
  Contracts: strings in ascending order, by the reference.
-/
namespace Go.Proofs.YtpnghlibmpainaaGreat.Cw
open Go Go.Cw Go.Proofs
set_option linter.unusedVariables false
set_option maxRecDepth 100000
set_option maxHeartbeats 8000000

/-- Where a string goes: behind all that it isn't less than, from the right. -/
def posA (out : List Str) (s : Str) : Nat → Nat
  | 0 => 0
  | k + 1 => if (match out[k]? with | some q => sLt s q | none => false) = true then posA out s k else k + 1
def insA (out : List Str) (s : Str) : List Str := out.take (posA out s out.length) ++ s :: out.drop (posA out s out.length)
def ascA (l : List Str) : Nat → List Str
  | 0 => []
  | i + 1 => match l[i]? with
    | some s => insA (ascA l i) s
    | none => ascA l i
theorem posA_le {out : List Str} {s : Str} : ∀ {k : Nat}, posA out s k ≤ k
  | 0 => Nat.le_refl _
  | k + 1 => by
    unfold posA
    have := posA_le (out := out) (s := s) (k := k)
    generalize (match out[k]? with | some q => sLt s q | none => false) = b
    cases b
    · exact Nat.le_refl _
    · exact Nat.le_succ_of_le this
theorem insA_len {out : List Str} {s : Str} : (insA out s).length = out.length + 1 := by
  have := posA_le (out := out) (s := s) (k := out.length)
  unfold insA; rw [List.length_append, List.length_cons, List.length_take, List.length_drop]; omega
theorem ascA_len {l : List Str} : ∀ {i : Nat}, i ≤ l.length → (ascA l i).length = i
  | 0, _ => rfl
  | i + 1, h => by
    obtain ⟨s, hs⟩ := getE (show i < l.length by omega)
    rw [ascA, hs]
    show (insA _ _).length = _
    rw [insA_len, ascA_len (by omega)]
theorem insA_perm {out : List Str} {s : Str} : (insA out s).Perm (s :: out) := by
  unfold insA
  refine List.perm_middle.trans ?_
  rw [List.take_append_drop]
theorem ascA_mem {l : List Str} {x : Str} : ∀ {i : Nat}, i ≤ l.length → (x ∈ ascA l i ↔ x ∈ l.take i)
  | 0, _ => by simp [ascA]
  | i + 1, h => by
    obtain ⟨s, hs⟩ := getE (show i < l.length by omega)
    rw [ascA, hs]
    show x ∈ insA _ _ ↔ _
    rw [insA_perm.mem_iff, take_snoc hs, List.mem_cons, List.mem_append, List.mem_singleton, ascA_mem (by omega)]
    exact or_comm
/-- Strictly ascending strings stay so if another one comes in. -/
theorem posA_spec {out : List Str} {s : Str} (ha : strS out) (hn : s ∉ out) : ∀ {k : Nat}, k ≤ out.length → (∀ j q, k ≤ j → out[j]? = some q → sLt s q = true) → (∀ j q, j < posA out s k → out[j]? = some q → sLt q s = true) ∧ ∀ j q, posA out s k ≤ j → out[j]? = some q → sLt s q = true
  | 0, _, h => ⟨fun j q hj => absurd hj (Nat.not_lt_zero _), h⟩
  | k + 1, hk, h => by
    obtain ⟨p, hp⟩ := getE (show k < out.length by omega)
    unfold posA
    rw [hp]
    dsimp only
    by_cases hs : sLt s p = true
    · rw [if_pos hs]
      refine posA_spec ha hn (by omega) fun j q hj hq => ?_
      rcases Nat.lt_or_ge k j with h1 | h1
      · exact h j q h1 hq
      · obtain rfl : j = k := by omega
        rw [hp] at hq; injection hq with hq; subst hq; exact hs
    · rw [if_neg hs]
      refine ⟨fun j q hj hq => ?_, h⟩
      have hps : sLt p s = true := by
        cases e : sLt p s with
        | true => rfl
        | false => exact absurd (sLt_conn e (by simpa using hs)) fun e => hn (by rw [← e]; exact List.mem_of_getElem? hp)
      rcases Nat.lt_or_ge j k with h1 | h1
      · have h2 := (List.getElem?_eq_some_iff.1 hp)
        have h3 := (List.getElem?_eq_some_iff.1 hq)
        have := List.pairwise_iff_getElem.1 ha j k h3.1 h2.1 h1
        rw [h3.2, h2.2] at this
        exact sLt_trans this hps
      · obtain rfl : j = k := by omega
        rw [hp] at hq; injection hq with hq; subst hq; exact hps
theorem insA_str {out : List Str} {s : Str} (ha : strS out) (hn : s ∉ out) : strS (insA out s) := by
  obtain ⟨h1, h2⟩ := posA_spec ha hn (Nat.le_refl _) fun j q hj hq => by have := (List.getElem?_eq_some_iff.1 hq).1; omega
  have hle := posA_le (out := out) (s := s) (k := out.length)
  have hx : ∀ x ∈ out.take (posA out s out.length), sLt x s = true := fun x hx => by
    obtain ⟨j, hj⟩ := List.getElem?_of_mem hx
    rw [List.getElem?_take] at hj
    split at hj
    · exact h1 j x (by assumption) hj
    · cases hj
  have hy : ∀ y ∈ out.drop (posA out s out.length), sLt s y = true := fun y hy => by
    obtain ⟨j, hj⟩ := List.getElem?_of_mem hy
    rw [List.getElem?_drop] at hj
    exact h2 _ y (by omega) hj
  unfold insA strS
  refine List.pairwise_append.2 ⟨ha.sublist (List.take_sublist ..), List.pairwise_cons.2 ⟨hy, ha.sublist (List.drop_sublist ..)⟩, fun x hx' y hy' => ?_⟩
  rcases List.mem_cons.1 hy' with rfl | hy'
  · exact hx x hx'
  · exact sLt_trans (hx x hx') (hy y hy')
theorem ascA_str {l : List Str} (hd : l.Nodup) : ∀ {i : Nat}, i ≤ l.length → strS (ascA l i)
  | 0, _ => List.Pairwise.nil
  | i + 1, h => by
    obtain ⟨s, hs⟩ := getE (show i < l.length by omega)
    rw [ascA, hs]
    refine insA_str (ascA_str hd (by omega)) fun hm => ?_
    have h1 := (ascA_mem (by omega)).1 hm
    obtain ⟨j, hj⟩ := List.getElem?_of_mem h1
    rw [List.getElem?_take] at hj
    split at hj
    · rename_i hji
      have h3 := (List.getElem?_eq_some_iff.1 hj)
      have h4 := (List.getElem?_eq_some_iff.1 hs)
      have := List.pairwise_iff_getElem.1 hd j i h3.1 h4.1 hji
      exact this (h3.2.trans h4.2.symm)
    · cases hj
theorem posA_succ {out : List Str} {s q : Str} {k : Nat} (h : out[k]? = some q) : posA out s (k + 1) = if sLt s q = true then posA out s k else k + 1 := by rw [posA, h]
theorem ascA_succ {l : List Str} {i : Nat} {s : Str} (h : l[i]? = some s) : ascA l (i + 1) = insA (ascA l i) s := by rw [ascA, h]
/-- The rows behind the two appends. -/
theorem ins_rows {O : List Str} {s : Str} {p n : Nat} (hp : posA O s O.length = p) (hn : O.length = n) (hle : p ≤ n) :
    Go.Cw.Rows.p (List.drop 0 [strRow s] ++ List.take (n - p) (List.drop p (O.map strRow))) = .p (strRow s :: List.drop p (O.map strRow)) ∧
    Go.Cw.Rows.p (List.drop 0 (List.take p (O.map strRow)) ++ List.take (n - p + 1) (List.drop 0 (strRow s :: List.drop p (O.map strRow)))) = .p ((insA O s).map strRow) := by
  have e1 : (List.drop p (O.map strRow)).length = n - p := by rw [List.length_drop, List.length_map, hn]
  refine ⟨?_, ?_⟩
  · rw [List.take_of_length_le (by omega)]; rfl
  · unfold insA
    rw [hp, List.drop_zero, List.drop_zero, List.take_of_length_le (l := strRow s :: _) (by rw [List.length_cons]; omega), List.map_append, List.map_cons, List.map_take, List.map_drop]
theorem ins_facts {O IN : List Str} {s : Str} {p n : Nat} (hn : O.length = n) (hle : p ≤ n) (hb : n ≤ 10000) (hil : IN.length = n + 1)
    (r1 : Go.Cw.Rows.p (List.drop 0 [strRow s] ++ List.take (n - p) (List.drop p (O.map strRow))) = .p (strRow s :: List.drop p (O.map strRow)))
    (r2 : Go.Cw.Rows.p (List.drop 0 (List.take p (O.map strRow)) ++ List.take (n - p + 1) (List.drop 0 (strRow s :: List.drop p (O.map strRow)))) = .p (IN.map strRow)) :
    (p ≤ (O.map strRow).length ∧ n = (O.map strRow).length) ∧
    srcLen (.ms 0 1 p (n - p)) = rowsLen (.p (List.take (n - p) (List.drop p (O.map strRow)))) ∧
    rowsLen (.p (strRow s :: List.drop p (O.map strRow))) = n - p + 1 ∧
    rowsLen (.p (List.drop 0 [strRow s] ++ List.take (n - p) (List.drop p (O.map strRow)))) * 16 ≤ 140737488355328 ∧
    rowsLen (.p (List.drop 0 [strRow s] ++ List.take (n - p) (List.drop p (O.map strRow)))) ≤ 9223372036854775807 ∧
    0 + p = rowsLen (.p (List.take p (O.map strRow))) ∧
    srcLen (.ms 2 1 0 (n - p + 1)) = rowsLen (.p (List.take (n - p + 1) (List.drop 0 (strRow s :: List.drop p (O.map strRow))))) ∧
    rowsLen (.p (IN.map strRow)) = n + 1 ∧
    rowsLen (.p (List.drop 0 (List.take p (O.map strRow)) ++ List.take (n - p + 1) (List.drop 0 (strRow s :: List.drop p (O.map strRow))))) * 16 ≤ 140737488355328 ∧
    rowsLen (.p (List.drop 0 (List.take p (O.map strRow)) ++ List.take (n - p + 1) (List.drop 0 (strRow s :: List.drop p (O.map strRow))))) ≤ 9223372036854775807 := by
  have hm : (O.map strRow).length = n := by rw [List.length_map]; exact hn
  have n41 : rowsLen (.p (strRow s :: List.drop p (O.map strRow))) = n - p + 1 := by simp only [rowsLen, List.length_cons, List.length_drop, hm]
  have n42 : rowsLen (.p (IN.map strRow)) = n + 1 := by simp only [rowsLen, List.length_map]; exact hil
  refine ⟨⟨by omega, hm.symm⟩, ?_, n41, by rw [r1, n41]; omega, by rw [r1, n41]; omega, ?_, ?_, n42, by rw [r2, n42]; omega, by rw [r2, n42]; omega⟩
  · simp only [srcLen, rowsLen, List.length_take, List.length_drop, hm]; omega
  · simp only [rowsLen, List.length_take, hm]; omega
  · simp only [srcLen, rowsLen, List.length_take, List.drop_zero, List.length_cons, List.length_drop, hm]; omega
theorem c_ascending (l : List Str) (hl : l.length ≤ 10000) : PCall Tryz.prog 69 [.pv (encStrs l)] (fun r => Leq r (.pv (encStrs (ascA l l.length)))) := by
  refine acall_of tok mixed 44 rfl (fn := Tryz.f69) (c := Tryz.f69.body.getD .skip) (by kernel_rfl) (by kernel_rfl) (by kernel_rfl) rfl 0 rfl ?_
  repeat' (first | refine o1 ?_ | refine o2 ?_ | refine k1 ?_ | refine k2 ?_ | refine k3 ?_ | refine k4 ?_ | refine k6 ?_ | refine k7 ?_ | refine k8 ?_ | refine And.intro ?_ ?_ | exact trivial | refine o3 ?_ | refine o4 ?_ | refine o5 ?_ | refine o6 ?_ | refine k5 ?_ | (intro h; first | exact Bool.noConfusion h | exact nz _ h | exact nl h | (simp at h; done) | (simp at h; first | (exfalso; omega) | skip) | skip) | (change retOk _ _ _ _; refine ret_pure rfl trivial ?_) | exact (rfl : allOne _ = true) | (refine (?_ : (0 : Int) ≤ _); omega) | (refine (?_ : _ ≠ _); omega) | (refine (?_ : srcLen _ = rowsLen _); rfl) | exact Nat.le_of_ble_eq_true rfl | exact (by kernel_rfl : drawOk _ _ = true) | refine eqv_len_map ?_ | refine eqv_size ?_ | refine eqv_put (eqv_ck ?_) | refine eqv_zero ?_ | refine eqv_wrap (by omega) (by omega) ?_ | refine eqv_u64 (by omega) (by omega) ?_ | refine eqv_u8 (by omega) (by omega) ?_ | refine eqv_to _ (set_map rfl rfl) ?_ | refine ⟨_, _, (by first | rfl | assumption), at_map (by assumption), ?_⟩ | refine ⟨_, _, (by first | rfl | assumption), (by assumption), ?_⟩ | refine ⟨_, at_map (by assumption), (by decide), ?_⟩ | refine ⟨_, at_map (by assumption), ?_⟩ | (refine (?_ : _ ≤ 140737488355328); simp [rowsLen] <;> omega) | (refine (?_ : _ ≤ 9223372036854775807); simp [rowsLen] <;> omega) | (refine (?_ : _ = rowsLen _); simp [rowsLen] <;> omega) | refine eqv_to _ (app_row rfl) (eqv_to _ app_len ?_) | refine eqv_to _ (app_first rfl) (eqv_to 1 rfl ?_) | refine idx_sl (at_map (by assumption)) (by omega) ?_ | refine idx_ms _ (by first | rfl | assumption) (by first | assumption | omega) ?_ | fail)
  refine loop_for (fun i : Nat => [(0, .pv (encStrs l)), (3, slP 0 1 ((ascA l i).map strRow)), (4, vint .i64 i)]) (fun i => [obP 9 1 ((ascA l i).map strRow)]) (fun i => i ≤ l.length) (fun i => l.length - i) 0 (Nat.zero_le _) ?_ ?_
  · exact back [0] rfl rfl (by repeat' (first | exact trivial | exact rfl | exact ren_get rfl | refine kept_ob rfl ?_ | exact ⟨_, rfl, ALe.refl⟩ | refine And.intro ?_ ?_)) (by repeat' (first | exact trivial | exact rfl | exact ren_get rfl | refine kept_ob rfl ?_ | exact ⟨_, rfl, ALe.refl⟩ | refine And.intro ?_ ?_))
  intro i hi
  have hal := ascA_len (l := l) hi
  rcases Nat.lt_or_ge i l.length with hlt | hge
  · obtain ⟨s, hs⟩ := getE hlt
    have hsu := ascA_succ hs
    have hpl := posA_le (out := ascA l i) (s := s) (k := (ascA l i).length)
    have hps := fun k q (h : (ascA l i)[k]? = some q) => posA_succ (s := s) h
    have hil := insA_len (out := ascA l i) (s := s)
    have hp0 : posA (ascA l i) s 0 = 0 := rfl
    have hins : insA (ascA l i) s = (ascA l i).take (posA (ascA l i) s (ascA l i).length) ++ s :: (ascA l i).drop (posA (ascA l i) s (ascA l i).length) := rfl
    generalize ascA l i = O at *
    repeat' (first | (refine fv_sl ?_) | (refine fh_ob ?_) | (refine o_len rfl rfl rfl rfl rfl rfl (List.length_map _) ?_) | refine o1 ?_ | refine o2 ?_ | refine k1 ?_ | refine k2 ?_ | refine k3 ?_ | refine k4 ?_ | refine k6 ?_ | refine k7 ?_ | refine k8 ?_ | refine And.intro ?_ ?_ | exact trivial | refine o3 ?_ | refine o4 ?_ | refine o5 ?_ | refine o6 ?_ | refine k5 ?_ | (intro h; first | exact Bool.noConfusion h | exact nz _ h | exact nl h | (simp at h; done) | (simp at h; first | (exfalso; omega) | skip) | skip) | (change retOk _ _ _ _; refine ret_pure rfl trivial ?_) | exact (rfl : allOne _ = true) | (refine (?_ : (0 : Int) ≤ _); omega) | (refine (?_ : _ ≠ _); omega) | (refine (?_ : srcLen _ = rowsLen _); rfl) | exact Nat.le_of_ble_eq_true rfl | exact (by kernel_rfl : drawOk _ _ = true) | refine eqv_len_map ?_ | refine eqv_size ?_ | refine eqv_put (eqv_ck ?_) | refine eqv_zero ?_ | refine eqv_wrap (by omega) (by omega) ?_ | refine eqv_u64 (by omega) (by omega) ?_ | refine eqv_u8 (by omega) (by omega) ?_ | refine eqv_to _ (set_map rfl rfl) ?_ | refine ⟨_, _, (by first | rfl | assumption), at_map (by assumption), ?_⟩ | refine ⟨_, _, (by first | rfl | assumption), (by assumption), ?_⟩ | refine ⟨_, at_map (by assumption), (by decide), ?_⟩ | refine ⟨_, at_map (by assumption), ?_⟩ | (refine (?_ : _ ≤ 140737488355328); simp [rowsLen] <;> omega) | (refine (?_ : _ ≤ 9223372036854775807); simp [rowsLen] <;> omega) | (refine (?_ : _ = rowsLen _); simp [rowsLen] <;> omega) | refine eqv_to _ (app_row rfl) (eqv_to _ app_len ?_) | refine eqv_to _ (app_first rfl) (eqv_to 1 rfl ?_) | refine idx_sl (at_map (by assumption)) (by omega) ?_ | refine idx_ms _ (by first | rfl | assumption) (by first | assumption | omega) ?_ | fail)
    refine loop_for (fun k : Nat => [(0, .pv (encStrs l)), (3, slP 0 1 (O.map strRow)), (4, vint .i64 i), (5, vint .i64 k)]) (fun k => [obP 9 1 (O.map strRow)]) (fun k => k ≤ O.length ∧ posA O s O.length = posA O s k) (fun k => k) O.length ⟨Nat.le_refl _, rfl⟩ ?_ ?_
    · exact back [0] rfl rfl (by repeat' (first | exact trivial | exact rfl | exact ren_get rfl | refine kept_ob rfl ?_ | exact ⟨_, rfl, ALe.refl⟩ | refine And.intro ?_ ?_)) (by repeat' (first | exact trivial | exact rfl | exact ren_get rfl | refine kept_ob rfl ?_ | exact ⟨_, rfl, ALe.refl⟩ | refine And.intro ?_ ?_))
    intro k ⟨hk, hpk⟩
    rcases O with _ | ⟨o0, os⟩
    · obtain rfl : k = 0 := by simpa using hk
      repeat' (first | (refine fv_sl ?_) | (refine fh_ob ?_) | (exact (rfl : (0 : Nat) = 0)) | (exact (rfl : ((0 : Nat) : Int) = ((0 : Nat) : Int))) | refine o1 ?_ | refine o2 ?_ | refine k1 ?_ | refine k2 ?_ | refine k3 ?_ | refine k4 ?_ | refine k6 ?_ | refine k7 ?_ | refine k8 ?_ | refine And.intro ?_ ?_ | exact trivial | refine o3 ?_ | refine o4 ?_ | refine o5 ?_ | refine o6 ?_ | refine k5 ?_ | (intro h; first | exact Bool.noConfusion h | exact nz _ h | exact nl h | (simp at h; done) | (simp at h; first | (exfalso; omega) | skip) | skip) | (change retOk _ _ _ _; refine ret_pure rfl trivial ?_) | exact (rfl : allOne _ = true) | (refine (?_ : (0 : Int) ≤ _); omega) | (refine (?_ : _ ≠ _); omega) | (refine (?_ : srcLen _ = rowsLen _); rfl) | exact Nat.le_of_ble_eq_true rfl | exact (by kernel_rfl : drawOk _ _ = true) | refine eqv_len_map ?_ | refine eqv_size ?_ | refine eqv_put (eqv_ck ?_) | refine eqv_zero ?_ | refine eqv_wrap (by omega) (by omega) ?_ | refine eqv_u64 (by omega) (by omega) ?_ | refine eqv_u8 (by omega) (by omega) ?_ | refine eqv_to _ (set_map rfl rfl) ?_ | refine ⟨_, _, (by first | rfl | assumption), at_map (by assumption), ?_⟩ | refine ⟨_, _, (by first | rfl | assumption), (by assumption), ?_⟩ | refine ⟨_, at_map (by assumption), (by decide), ?_⟩ | refine ⟨_, at_map (by assumption), ?_⟩ | (refine (?_ : _ ≤ 140737488355328); simp [rowsLen] <;> omega) | (refine (?_ : _ ≤ 9223372036854775807); simp [rowsLen] <;> omega) | (refine (?_ : _ = rowsLen _); simp [rowsLen] <;> omega) | refine eqv_to _ (app_row rfl) (eqv_to _ app_len ?_) | refine eqv_to _ (app_first rfl) (eqv_to 1 rfl ?_) | refine idx_sl (at_map (by assumption)) (by omega) ?_ | refine idx_ms _ (by first | rfl | assumption) (by first | assumption | omega) ?_ | fail)
      refine ⟨i + 1, hlt, by omega, ?_⟩
      rw [hsu]
      exact back [3] rfl rfl (by repeat' (first | exact trivial | exact rfl | exact ren_get rfl | refine kept_ob rfl ?_ | exact ⟨_, rfl, ALe.refl⟩ | refine And.intro ?_ ?_)) (by repeat' (first | exact trivial | exact rfl | exact ren_get rfl | refine kept_ob rfl ?_ | exact ⟨_, rfl, ALe.refl⟩ | refine And.intro ?_ ?_))
    · have hkk : k = 0 ∨ ∃ k', k = k' + 1 := by cases k <;> simp
      have hn : (o0 :: os).length ≤ 10000 := by omega
      have hfin : ∀ p, posA (o0 :: os) s (o0 :: os).length = p → p ≤ (o0 :: os).length := fun p e => e ▸ hpl
      have hrs := fun p (e : posA (o0 :: os) s (o0 :: os).length = p) => ins_rows e rfl (hfin p e)
      have hml : (List.map strRow (o0 :: os)).length = (o0 :: os).length := List.length_map _
      rcases hkk with rfl | ⟨k, rfl⟩
      · have e0 := hpk.trans hp0
        obtain ⟨r1, r2⟩ := hrs 0 e0
        have hple := hfin 0 e0
        clear hrs hins
        generalize insA (o0 :: os) s = IN at *
        obtain ⟨⟨hple2, hml2⟩, s41, n41, b41, c41, s42a, s42, n42, b42, c42⟩ := ins_facts rfl hple hn hil r1 r2
        repeat' (first | ((refine ⟨0, 0, rfl, rfl, Nat.zero_le _, hple2, eqv_to 0 rfl (eqv_to 0 rfl ?_)⟩)) | ((refine ⟨0, (o0 :: os).length, rfl, hml.symm, hple, Nat.le_of_eq hml.symm, eqv_to 0 (Nat.zero_add _) (eqv_to ((o0 :: os).length - 0) rfl ?_)⟩)) | ((refine opsD_cut (o := ⟨some 42, _, _, _, _, none⟩) rfl rfl rfl ?_; change vcCut _ _ _ _ _ _; refine ⟨0, _, 0, rfl, ?_⟩; refine ⟨s42a, s42, b42, c42, eqv_to _ r2 (eqv_to ((o0 :: os).length + 1) n42 ⟨?_, List.mem_cons_self, _, rfl⟩)⟩)) | (exact s41) | (exact b41) | (exact c41) | (refine eqv_to _ r1 (eqv_to ((o0 :: os).length - 0 + 1) n41 ?_)) | refine o1 ?_ | refine o2 ?_ | refine k1 ?_ | refine k2 ?_ | refine k3 ?_ | refine k4 ?_ | refine k6 ?_ | refine k7 ?_ | refine k8 ?_ | refine And.intro ?_ ?_ | exact trivial | refine o3 ?_ | refine o4 ?_ | refine o5 ?_ | refine o6 ?_ | refine k5 ?_ | (intro h; first | exact Bool.noConfusion h | exact nz _ h | exact nl h | (simp at h; done) | (simp at h; first | (exfalso; omega) | skip) | skip) | (change retOk _ _ _ _; refine ret_pure rfl trivial ?_) | exact (rfl : allOne _ = true) | (refine (?_ : (0 : Int) ≤ _); omega) | (refine (?_ : _ ≠ _); omega) | (refine (?_ : srcLen _ = rowsLen _); rfl) | exact Nat.le_of_ble_eq_true rfl | exact (by kernel_rfl : drawOk _ _ = true) | refine eqv_len_map ?_ | refine eqv_size ?_ | refine eqv_put (eqv_ck ?_) | refine eqv_zero ?_ | refine eqv_wrap (by omega) (by omega) ?_ | refine eqv_u64 (by omega) (by omega) ?_ | refine eqv_u8 (by omega) (by omega) ?_ | refine eqv_to _ (set_map rfl rfl) ?_ | refine ⟨_, _, (by first | rfl | assumption), at_map (by assumption), ?_⟩ | refine ⟨_, _, (by first | rfl | assumption), (by assumption), ?_⟩ | refine ⟨_, at_map (by assumption), (by decide), ?_⟩ | refine ⟨_, at_map (by assumption), ?_⟩ | (refine (?_ : _ ≤ 140737488355328); simp [rowsLen] <;> omega) | (refine (?_ : _ ≤ 9223372036854775807); simp [rowsLen] <;> omega) | (refine (?_ : _ = rowsLen _); simp [rowsLen] <;> omega) | refine eqv_to _ (app_row rfl) (eqv_to _ app_len ?_) | refine eqv_to _ (app_first rfl) (eqv_to 1 rfl ?_) | refine idx_sl (at_map (by assumption)) (by omega) ?_ | refine idx_ms _ (by first | rfl | assumption) (by first | assumption | omega) ?_ | fail)
        refine ⟨i + 1, hlt, by omega, ?_⟩
        have hne : IN ≠ [] := fun e => by rw [e] at hil; simp at hil
        rw [hsu, sl_ne hne hil, ob_ne hne]
        exact back [3] rfl rfl (by repeat' (first | exact trivial | exact rfl | exact ren_get rfl | refine kept_ob rfl ?_ | exact ⟨_, rfl, ALe.refl⟩ | refine And.intro ?_ ?_)) (by repeat' (first | exact trivial | exact rfl | exact ren_get rfl | refine kept_ob rfl ?_ | exact ⟨_, rfl, ALe.refl⟩ | refine And.intro ?_ ?_))
      · obtain ⟨q, hq⟩ := getE (show k < (o0 :: os).length by omega)
        have hqq : (List.map strRow (o0 :: os))[k]? = some (strRow q) := by rw [List.getElem?_map, hq]; rfl
        have hk1 : ((k + 1 : Nat) : Int) - 1 = (k : Int) := by omega
        have hkl : k < (List.map strRow (o0 :: os)).length := by rw [hml]; omega
        have hpq := hps k q hq
        by_cases hlt2 : sLt s q = true
        · rw [if_pos hlt2] at hpq
          repeat' (first | (refine idx_ms k hk1 hkl ?_) | (refine ⟨_, hqq, ?_⟩) | refine o1 ?_ | refine o2 ?_ | refine k1 ?_ | refine k2 ?_ | refine k3 ?_ | refine k4 ?_ | refine k6 ?_ | refine k7 ?_ | refine k8 ?_ | refine And.intro ?_ ?_ | exact trivial | refine o3 ?_ | refine o4 ?_ | refine o5 ?_ | refine o6 ?_ | refine k5 ?_ | (intro h; first | exact Bool.noConfusion h | exact nz _ h | exact nl h | (simp at h; done) | (simp at h; first | (exfalso; omega) | skip) | skip) | (change retOk _ _ _ _; refine ret_pure rfl trivial ?_) | exact (rfl : allOne _ = true) | (refine (?_ : (0 : Int) ≤ _); omega) | (refine (?_ : _ ≠ _); omega) | (refine (?_ : srcLen _ = rowsLen _); rfl) | exact Nat.le_of_ble_eq_true rfl | exact (by kernel_rfl : drawOk _ _ = true) | refine eqv_len_map ?_ | refine eqv_size ?_ | refine eqv_put (eqv_ck ?_) | refine eqv_zero ?_ | refine eqv_wrap (by omega) (by omega) ?_ | refine eqv_u64 (by omega) (by omega) ?_ | refine eqv_u8 (by omega) (by omega) ?_ | refine eqv_to _ (set_map rfl rfl) ?_ | refine ⟨_, _, (by first | rfl | assumption), at_map (by assumption), ?_⟩ | refine ⟨_, _, (by first | rfl | assumption), (by assumption), ?_⟩ | refine ⟨_, at_map (by assumption), (by decide), ?_⟩ | refine ⟨_, at_map (by assumption), ?_⟩ | (refine (?_ : _ ≤ 140737488355328); simp [rowsLen] <;> omega) | (refine (?_ : _ ≤ 9223372036854775807); simp [rowsLen] <;> omega) | (refine (?_ : _ = rowsLen _); simp [rowsLen] <;> omega) | refine eqv_to _ (app_row rfl) (eqv_to _ app_len ?_) | refine eqv_to _ (app_first rfl) (eqv_to 1 rfl ?_) | refine idx_sl (at_map (by assumption)) (by omega) ?_ | refine idx_ms _ (by first | rfl | assumption) (by first | assumption | omega) ?_ | fail)
          all_goals first
            | (exfalso; simp_all; done)
            | skip
          refine ⟨k, ⟨by omega, hpk.trans hpq⟩, by omega, ?_⟩
          rw [hk1]
          exact back [0] rfl rfl (by repeat' (first | exact trivial | exact rfl | exact ren_get rfl | refine kept_ob rfl ?_ | exact ⟨_, rfl, ALe.refl⟩ | refine And.intro ?_ ?_)) (by repeat' (first | exact trivial | exact rfl | exact ren_get rfl | refine kept_ob rfl ?_ | exact ⟨_, rfl, ALe.refl⟩ | refine And.intro ?_ ?_))
        · rw [if_neg hlt2] at hpq
          have e0 := hpk.trans hpq
          obtain ⟨r1, r2⟩ := hrs (k + 1) e0
          have hple := hfin (k + 1) e0
          clear hrs hins
          generalize insA (o0 :: os) s = IN at *
          obtain ⟨⟨hple2, hml2⟩, s41, n41, b41, c41, s42a, s42, n42, b42, c42⟩ := ins_facts rfl hple hn hil r1 r2
          repeat' (first | (refine idx_ms k hk1 hkl ?_) | (refine ⟨_, hqq, ?_⟩) | ((refine ⟨0, (k + 1), rfl, rfl, Nat.zero_le _, hple2, eqv_to 0 rfl (eqv_to (k + 1) rfl ?_)⟩)) | ((refine ⟨(k + 1), (o0 :: os).length, rfl, hml.symm, hple, Nat.le_of_eq hml.symm, eqv_to (k + 1) (Nat.zero_add _) (eqv_to ((o0 :: os).length - (k + 1)) rfl ?_)⟩)) | ((refine opsD_cut (o := ⟨some 42, _, _, _, _, none⟩) rfl rfl rfl ?_; change vcCut _ _ _ _ _ _; refine ⟨0, _, (k + 1), rfl, ?_⟩; refine ⟨s42a, s42, b42, c42, eqv_to _ r2 (eqv_to ((o0 :: os).length + 1) n42 ⟨?_, List.mem_cons_self, _, rfl⟩)⟩)) | (exact s41) | (exact b41) | (exact c41) | (refine eqv_to _ r1 (eqv_to ((o0 :: os).length - (k + 1) + 1) n41 ?_)) | refine o1 ?_ | refine o2 ?_ | refine k1 ?_ | refine k2 ?_ | refine k3 ?_ | refine k4 ?_ | refine k6 ?_ | refine k7 ?_ | refine k8 ?_ | refine And.intro ?_ ?_ | exact trivial | refine o3 ?_ | refine o4 ?_ | refine o5 ?_ | refine o6 ?_ | refine k5 ?_ | (intro h; first | exact Bool.noConfusion h | exact nz _ h | exact nl h | (simp at h; done) | (simp at h; first | (exfalso; omega) | skip) | skip) | (change retOk _ _ _ _; refine ret_pure rfl trivial ?_) | exact (rfl : allOne _ = true) | (refine (?_ : (0 : Int) ≤ _); omega) | (refine (?_ : _ ≠ _); omega) | (refine (?_ : srcLen _ = rowsLen _); rfl) | exact Nat.le_of_ble_eq_true rfl | exact (by kernel_rfl : drawOk _ _ = true) | refine eqv_len_map ?_ | refine eqv_size ?_ | refine eqv_put (eqv_ck ?_) | refine eqv_zero ?_ | refine eqv_wrap (by omega) (by omega) ?_ | refine eqv_u64 (by omega) (by omega) ?_ | refine eqv_u8 (by omega) (by omega) ?_ | refine eqv_to _ (set_map rfl rfl) ?_ | refine ⟨_, _, (by first | rfl | assumption), at_map (by assumption), ?_⟩ | refine ⟨_, _, (by first | rfl | assumption), (by assumption), ?_⟩ | refine ⟨_, at_map (by assumption), (by decide), ?_⟩ | refine ⟨_, at_map (by assumption), ?_⟩ | (refine (?_ : _ ≤ 140737488355328); simp [rowsLen] <;> omega) | (refine (?_ : _ ≤ 9223372036854775807); simp [rowsLen] <;> omega) | (refine (?_ : _ = rowsLen _); simp [rowsLen] <;> omega) | refine eqv_to _ (app_row rfl) (eqv_to _ app_len ?_) | refine eqv_to _ (app_first rfl) (eqv_to 1 rfl ?_) | refine idx_sl (at_map (by assumption)) (by omega) ?_ | refine idx_ms _ (by first | rfl | assumption) (by first | assumption | omega) ?_ | fail)
          all_goals first
            | (exfalso; simp_all; done)
            | skip
          refine ⟨i + 1, hlt, by omega, ?_⟩
          have hne : IN ≠ [] := fun e => by rw [e] at hil; simp at hil
          rw [hsu, sl_ne hne hil, ob_ne hne]
          exact back [3] rfl rfl (by repeat' (first | exact trivial | exact rfl | exact ren_get rfl | refine kept_ob rfl ?_ | exact ⟨_, rfl, ALe.refl⟩ | refine And.intro ?_ ?_)) (by repeat' (first | exact trivial | exact rfl | exact ren_get rfl | refine kept_ob rfl ?_ | exact ⟨_, rfl, ALe.refl⟩ | refine And.intro ?_ ?_))
  · obtain rfl : i = l.length := by omega
    repeat' (first | (refine fv_sl ?_) | (refine fh_ob ?_) | refine o1 ?_ | refine o2 ?_ | refine k1 ?_ | refine k2 ?_ | refine k3 ?_ | refine k4 ?_ | refine k6 ?_ | refine k7 ?_ | refine k8 ?_ | refine And.intro ?_ ?_ | exact trivial | refine o3 ?_ | refine o4 ?_ | refine o5 ?_ | refine o6 ?_ | refine k5 ?_ | (intro h; first | exact Bool.noConfusion h | exact nz _ h | exact nl h | (simp at h; done) | (simp at h; first | (exfalso; omega) | skip) | skip) | (change retOk _ _ _ _; refine ret_pure rfl trivial ?_) | exact (rfl : allOne _ = true) | (refine (?_ : (0 : Int) ≤ _); omega) | (refine (?_ : _ ≠ _); omega) | (refine (?_ : srcLen _ = rowsLen _); rfl) | exact Nat.le_of_ble_eq_true rfl | exact (by kernel_rfl : drawOk _ _ = true) | refine eqv_len_map ?_ | refine eqv_size ?_ | refine eqv_put (eqv_ck ?_) | refine eqv_zero ?_ | refine eqv_wrap (by omega) (by omega) ?_ | refine eqv_u64 (by omega) (by omega) ?_ | refine eqv_u8 (by omega) (by omega) ?_ | refine eqv_to _ (set_map rfl rfl) ?_ | refine ⟨_, _, (by first | rfl | assumption), at_map (by assumption), ?_⟩ | refine ⟨_, _, (by first | rfl | assumption), (by assumption), ?_⟩ | refine ⟨_, at_map (by assumption), (by decide), ?_⟩ | refine ⟨_, at_map (by assumption), ?_⟩ | (refine (?_ : _ ≤ 140737488355328); simp [rowsLen] <;> omega) | (refine (?_ : _ ≤ 9223372036854775807); simp [rowsLen] <;> omega) | (refine (?_ : _ = rowsLen _); simp [rowsLen] <;> omega) | refine eqv_to _ (app_row rfl) (eqv_to _ app_len ?_) | refine eqv_to _ (app_first rfl) (eqv_to 1 rfl ?_) | refine idx_sl (at_map (by assumption)) (by omega) ?_ | refine idx_ms _ (by first | rfl | assumption) (by first | assumption | omega) ?_ | fail)
    exact ret_sl (id := 0) (ty := 9) (Post := fun r => Leq r (.pv (encStrs (ascA l l.length)))) rfl ⟨ALe.refl⟩ leq_down
end Go.Proofs.YtpnghlibmpainaaGreat.Cw

/-
  Contracts: the strains of examinations, by the reference.
-/
namespace Go.Proofs.YtpnghlibmpainaaGreat.Cw
open Go Go.Cw Go.Proofs
set_option linter.unusedVariables false
set_option maxRecDepth 100000
set_option maxHeartbeats 8000000

/-- Each string once, by its first place. -/
noncomputable def addU (out : List Str) (s : Str) : List Str := if pB (s ∈ out) then out else out ++ [s]
noncomputable def addUs (out : List Str) (l : List Str) : Nat → List Str
  | 0 => out
  | k + 1 => match l[k]? with
    | some s => addU (addUs out l k) s
    | none => addUs out l k
noncomputable def uniqX (x : Exams) : Nat → List Str
  | 0 => []
  | i + 1 => match x.exams[i]? with
    | some e => addUs (uniqX x i) e.studs e.studs.length
    | none => uniqX x i
theorem addUs_succ {out l : List Str} {k : Nat} {s : Str} (h : l[k]? = some s) : addUs out l (k + 1) = addU (addUs out l k) s := by rw [addUs, h]
theorem uniqX_succ {x : Exams} {i : Nat} {e : Exam} (h : x.exams[i]? = some e) : uniqX x (i + 1) = addUs (uniqX x i) e.studs e.studs.length := by rw [uniqX, h]
theorem addU_t {out : List Str} {s : Str} (h : s ∈ out) : addU out s = out := by unfold addU; rw [pB_t h, if_pos rfl]
theorem addU_f {out : List Str} {s : Str} (h : ¬ s ∈ out) : addU out s = out ++ [s] := by unfold addU; rw [pB_f h]; rfl
theorem addU_mem {out : List Str} {s x : Str} : x ∈ addU out s ↔ x ∈ out ∨ x = s := by
  by_cases h : s ∈ out
  · rw [addU_t h]
    exact ⟨.inl, fun k => k.elim id fun e => e ▸ h⟩
  · rw [addU_f h]; simp
theorem addU_nodup {out : List Str} {s : Str} (h : out.Nodup) : (addU out s).Nodup := by
  by_cases hs : s ∈ out
  · rw [addU_t hs]; exact h
  · rw [addU_f hs]
    exact List.nodup_append.2 ⟨h, by simp, fun a ha b hb => by rw [List.mem_singleton] at hb; subst hb; exact fun e => hs (e ▸ ha)⟩
theorem addU_len {out : List Str} {s : Str} : (addU out s).length ≤ out.length + 1 := by
  by_cases hs : s ∈ out
  · rw [addU_t hs]; omega
  · rw [addU_f hs]; simp
theorem addUs_spec {out l : List Str} (h : out.Nodup) : ∀ {k : Nat}, k ≤ l.length → (addUs out l k).Nodup ∧ (addUs out l k).length ≤ out.length + k ∧ ∀ x, x ∈ addUs out l k ↔ x ∈ out ∨ x ∈ l.take k
  | 0, _ => ⟨h, Nat.le_refl _, fun x => by simp [addUs]⟩
  | k + 1, hk => by
    obtain ⟨s, hs⟩ := getE (show k < l.length by omega)
    obtain ⟨h1, h2, h3⟩ := addUs_spec (l := l) h (k := k) (by omega)
    rw [addUs_succ hs]
    have := addU_len (out := addUs out l k) (s := s)
    refine ⟨addU_nodup h1, by omega, fun x => ?_⟩
    rw [addU_mem, h3, take_snoc hs, List.mem_append, List.mem_singleton, or_assoc]
theorem uniqX_spec {x : Exams} (h0 : examsE x = 0) : ∀ {i : Nat}, i ≤ x.exams.length → (uniqX x i).Nodup ∧ (uniqX x i).length ≤ i * 64 ∧ ∀ s, s ∈ uniqX x i ↔ s ∈ allS x i
  | 0, _ => ⟨by simp [uniqX], by simp [uniqX], fun s => by simp [uniqX, allS]⟩
  | i + 1, hi => by
    obtain ⟨e, he⟩ := getE (show i < x.exams.length by omega)
    have hes := (exam_z h0 e (List.mem_of_getElem? he)).2.2
    obtain ⟨h1, h2, h3⟩ := uniqX_spec h0 (i := i) (by omega)
    obtain ⟨g1, g2, g3⟩ := addUs_spec (l := e.studs) h1 (Nat.le_refl _)
    rw [uniqX_succ he]
    refine ⟨g1, by omega, fun s => ?_⟩
    rw [g3, h3, allS_succ he, List.mem_append, List.take_length]
/-- Both ways to the names in order. -/
theorem names_eq {x : Exams} (h0 : examsE x = 0) : ascA (uniqX x x.exams.length) (uniqX x x.exams.length).length = namesX x := by
  obtain ⟨h1, h2, h3⟩ := uniqX_spec h0 (Nat.le_refl _)
  obtain ⟨g1, g2⟩ := compactS_spec (sortS_asc (allS x x.exams.length))
  refine strS_unique (ascA_str h1 (Nat.le_refl _)) g2 fun s => ?_
  rw [ascA_mem (Nat.le_refl _), List.take_length, h3, namesX, g1, (sortS_perm _).mem_iff]
theorem notA {p q r : Prop} (h : ¬ p) : ¬ (pB p = true ∧ q ∧ r) := fun c => by rw [pB_f h] at c; cases c.1
theorem notB {p q r : Prop} (h : ¬ q) : ¬ (p ∧ pB q = true ∧ r) := fun c => by rw [pB_f h] at c; cases c.2.1
theorem notC {p q r : Prop} (h : ¬ r) : ¬ (p ∧ q ∧ r) := fun c => h c.2.2
theorem call_slA {P : Program} {H : Heap} {K : AV → Heap → Prop} {f : FuncId} {id z ty : Nat} {rows : List (List PV)} {q : PV} {v : AV} (ho : H[id]? = some (obP ty z rows)) (hp : PCall P f [.pv (.sl z rows), .pv q] (fun r => r = v)) (hv : scal v = true) (hK : K v H) : vcFun P f [slP id z rows, .pv q] H K := by
  cases rows with
  | nil =>
    refine call_eq (as0 := [nilA, .pv q]) rfl (by repeat' (first | exact True.intro | refine And.intro ?_ ?_)) (?_ : ALeL [nilA, .pv q] [.pv (.sl z []), .pv q]) hp hv hK
    exact ⟨ALe.pv PLe.nil, ALe.refl, trivial⟩
  | cons a l =>
    refine call_eq (as0 := [.pv (.sl z (a :: l)), .pv q]) ?_ ?_ ALeL.refl hp hv hK
    · simp only [slP, mapO, conv, conv1, convC, ho, obP]
      simp
    · simp only [slP, andL, ok1, ok0, okC, ho, obP]
      simp
theorem c_ascS (l : List Str) (hl : l.length ≤ 10000) : PCall Tryz.prog 69 [.pv (encStrs l)] (fun r => r = .pv (encStrs (ascA l l.length))) := (c_ascending l hl).weak fun r h => ⟨_, h.le, rfl⟩
theorem atS_take {x : Exams} {l : List Placed} {i : Nat} {p : Placed} (h : l[i]? = some p) : ((atS x l).take (i + 1)).map eiN = ((atS x l).take i).map eiN ++ [eiN (sitN x p)] := by
  have e : (atS x l)[i]? = some (sitN x p) := by unfold atS; rw [List.getElem?_map, h]; rfl
  rw [take_snoc e, map_snoc]
theorem c_rstrains1 (x : Exams) (l : List Placed) (h : ¬ (examsE x = 0 ∧ l.length = x.exams.length)) (hl : l.length ≤ 100000) (hx : x.exams.length ≤ 100000) : PCall Tryz.prog 31 [ag x.cells, .pv (.sl 5 (l.map Placed.row))] (fun r => Leq r (strainsA x l)) := by
  have h1 := c_rexams x
  have e0 : strainsE x l ≠ 0 := by
    unfold strainsE
    by_cases h0 : examsE x = 0
    · rw [if_neg (by simp [h0]), if_pos (fun k => h ⟨h0, k⟩)]; decide
    · rw [if_pos h0]; exact h0
  have e1 : strainsV x l = [] := by unfold strainsV; rw [if_neg e0]
  unfold strainsA
  rw [e1]
  by_cases h0 : examsE x = 0
  · have e2 : strainsE x l = 17 := by unfold strainsE; rw [if_neg (by simp [h0]), if_pos (fun k => h ⟨h0, k⟩)]
    have h3 : ¬ l.length = x.exams.length := fun k => h ⟨h0, k⟩
    rw [h0] at h1
    rw [e2]
    refine acall_of tok mixed 181 rfl (fn := Tryz.f31) (c := Tryz.f31.body.getD .skip) (by kernel_rfl) (by kernel_rfl) (by kernel_rfl) rfl 0 rfl ?_
    repeat' (first | refine o1 ?_ | refine o2 ?_ | refine k1 ?_ | refine k2 ?_ | refine k3 ?_ | refine k4 ?_ | refine k6 ?_ | refine k7 ?_ | refine k8 ?_ | refine And.intro ?_ ?_ | exact trivial | refine o3 ?_ | refine o4 ?_ | refine o5 ?_ | refine o6 ?_ | refine k5 ?_ | (intro h; first | exact Bool.noConfusion h | exact nz _ h | exact nl h | (simp at h; done) | (simp at h; first | (exfalso; omega) | skip) | skip) | (change retOk _ _ _ _; refine ret_pure rfl trivial ?_) | exact (rfl : allOne _ = true) | (refine (?_ : (0 : Int) ≤ _); omega) | (refine (?_ : _ ≠ _); omega) | (refine (?_ : srcLen _ = rowsLen _); rfl) | exact Nat.le_of_ble_eq_true rfl | exact (by kernel_rfl : drawOk _ _ = true) | refine eqv_len_map ?_ | refine eqv_size ?_ | refine eqv_put (eqv_ck ?_) | refine eqv_zero ?_ | refine eqv_wrap (by omega) (by omega) ?_ | refine eqv_u64 (by omega) (by omega) ?_ | refine eqv_u8 (by omega) (by omega) ?_ | refine eqv_to _ (set_map rfl rfl) ?_ | refine ⟨_, _, (by first | rfl | assumption), at_map (by assumption), ?_⟩ | refine ⟨_, _, (by first | rfl | assumption), (by assumption), ?_⟩ | refine ⟨_, at_map (by assumption), (by decide), ?_⟩ | refine ⟨_, at_map (by assumption), ?_⟩ | (refine (?_ : _ ≤ 140737488355328); simp [rowsLen] <;> omega) | (refine (?_ : _ ≤ 9223372036854775807); simp [rowsLen] <;> omega) | (refine (?_ : _ = rowsLen _); simp [rowsLen] <;> omega) | refine eqv_to _ (app_row rfl) (eqv_to _ app_len ?_) | refine eqv_to _ (app_first rfl) (eqv_to 1 rfl ?_) | refine idx_sl (at_map (by assumption)) (by omega) ?_ | refine idx_ms _ (by first | rfl | assumption) (by first | assumption | omega) ?_ | (change vcFun _ _ _ _ _; refine call_eq rfl (by repeat' (first | trivial | refine And.intro ?_ ?_ | (show 0 + _ ≤ List.length _; simp))) ALeL.refl (h1) rfl ?_) | fail)
    all_goals first
      | (exfalso; omega)
      | exact ⟨ALe.tup ⟨ALe.pv PLe.nil, ALe.refl, trivial⟩⟩
  · have e2 : strainsE x l = examsE x := by unfold strainsE; rw [if_pos h0]
    rw [e2]
    generalize examsE x = E at *
    refine acall_of tok mixed 181 rfl (fn := Tryz.f31) (c := Tryz.f31.body.getD .skip) (by kernel_rfl) (by kernel_rfl) (by kernel_rfl) rfl 0 rfl ?_
    repeat' (first | refine o1 ?_ | refine o2 ?_ | refine k1 ?_ | refine k2 ?_ | refine k3 ?_ | refine k4 ?_ | refine k6 ?_ | refine k7 ?_ | refine k8 ?_ | refine And.intro ?_ ?_ | exact trivial | refine o3 ?_ | refine o4 ?_ | refine o5 ?_ | refine o6 ?_ | refine k5 ?_ | (intro h; first | exact Bool.noConfusion h | exact nz _ h | exact nl h | (simp at h; done) | (simp at h; first | (exfalso; omega) | skip) | skip) | (change retOk _ _ _ _; refine ret_pure rfl trivial ?_) | exact (rfl : allOne _ = true) | (refine (?_ : (0 : Int) ≤ _); omega) | (refine (?_ : _ ≠ _); omega) | (refine (?_ : srcLen _ = rowsLen _); rfl) | exact Nat.le_of_ble_eq_true rfl | exact (by kernel_rfl : drawOk _ _ = true) | refine eqv_len_map ?_ | refine eqv_size ?_ | refine eqv_put (eqv_ck ?_) | refine eqv_zero ?_ | refine eqv_wrap (by omega) (by omega) ?_ | refine eqv_u64 (by omega) (by omega) ?_ | refine eqv_u8 (by omega) (by omega) ?_ | refine eqv_to _ (set_map rfl rfl) ?_ | refine ⟨_, _, (by first | rfl | assumption), at_map (by assumption), ?_⟩ | refine ⟨_, _, (by first | rfl | assumption), (by assumption), ?_⟩ | refine ⟨_, at_map (by assumption), (by decide), ?_⟩ | refine ⟨_, at_map (by assumption), ?_⟩ | (refine (?_ : _ ≤ 140737488355328); simp [rowsLen] <;> omega) | (refine (?_ : _ ≤ 9223372036854775807); simp [rowsLen] <;> omega) | (refine (?_ : _ = rowsLen _); simp [rowsLen] <;> omega) | refine eqv_to _ (app_row rfl) (eqv_to _ app_len ?_) | refine eqv_to _ (app_first rfl) (eqv_to 1 rfl ?_) | refine idx_sl (at_map (by assumption)) (by omega) ?_ | refine idx_ms _ (by first | rfl | assumption) (by first | assumption | omega) ?_ | (change vcFun _ _ _ _ _; refine call_eq rfl (by repeat' (first | trivial | refine And.intro ?_ ?_ | (show 0 + _ ≤ List.length _; simp))) ALeL.refl (h1) rfl ?_) | fail)
    all_goals first
      | (exfalso; omega)
      | exact ⟨ALe.tup ⟨ALe.pv PLe.nil, ALe.refl, trivial⟩⟩
theorem c_rstrains0 (x : Exams) (l : List Placed) (h0 : examsE x = 0) (hn : l.length = x.exams.length) (h6 : x.exams.length ≤ 6) : PCall Tryz.prog 31 [ag x.cells, .pv (.sl 5 (l.map Placed.row))] (fun r => Leq r (strainsA x l)) := by
  have h1 := c_rexams x
  rw [h0] at h1
  have hf := fine_of h0
  have hsn := hf.sn
  unfold strainsA
  refine acall_of tok mixed 181 rfl (fn := Tryz.f31) (c := Tryz.f31.body.getD .skip) (by kernel_rfl) (by kernel_rfl) (by kernel_rfl) rfl 0 rfl ?_
  repeat' (first | refine o1 ?_ | refine o2 ?_ | refine k1 ?_ | refine k2 ?_ | refine k3 ?_ | refine k4 ?_ | refine k6 ?_ | refine k7 ?_ | refine k8 ?_ | refine And.intro ?_ ?_ | exact trivial | refine o3 ?_ | refine o4 ?_ | refine o5 ?_ | refine o6 ?_ | refine k5 ?_ | (intro h; first | exact Bool.noConfusion h | exact nz _ h | exact nl h | (simp at h; done) | (simp at h; first | (exfalso; omega) | skip) | skip) | (change retOk _ _ _ _; refine ret_pure rfl trivial ?_) | exact (rfl : allOne _ = true) | (refine (?_ : (0 : Int) ≤ _); omega) | (refine (?_ : _ ≠ _); omega) | (refine (?_ : srcLen _ = rowsLen _); rfl) | exact Nat.le_of_ble_eq_true rfl | exact (by kernel_rfl : drawOk _ _ = true) | refine eqv_len_map ?_ | refine eqv_size ?_ | refine eqv_put (eqv_ck ?_) | refine eqv_zero ?_ | refine eqv_wrap (by omega) (by omega) ?_ | refine eqv_u64 (by omega) (by omega) ?_ | refine eqv_u8 (by omega) (by omega) ?_ | refine eqv_to _ (set_map rfl rfl) ?_ | refine ⟨_, _, (by first | rfl | assumption), at_map (by assumption), ?_⟩ | refine ⟨_, _, (by first | rfl | assumption), (by assumption), ?_⟩ | refine ⟨_, at_map (by assumption), (by decide), ?_⟩ | refine ⟨_, at_map (by assumption), ?_⟩ | (refine (?_ : _ ≤ 140737488355328); simp [rowsLen] <;> omega) | (refine (?_ : _ ≤ 9223372036854775807); simp [rowsLen] <;> omega) | (refine (?_ : _ = rowsLen _); simp [rowsLen] <;> omega) | refine eqv_to _ (app_row rfl) (eqv_to _ app_len ?_) | refine eqv_to _ (app_first rfl) (eqv_to 1 rfl ?_) | refine idx_sl (at_map (by assumption)) (by omega) ?_ | refine idx_ms _ (by first | rfl | assumption) (by first | assumption | omega) ?_ | (change vcFun _ _ _ _ _; refine call_eq rfl (by repeat' (first | trivial | refine And.intro ?_ ?_ | (show 0 + _ ≤ List.length _; simp))) ALeL.refl (h1) rfl ?_) | fail)
  all_goals try (exfalso; omega)
  refine loop_for (fun i : Nat => [(1, .pv (.sl 5 (l.map Placed.row))), (2, .ptr 0 8 0 0), (7, slP 1 1 (((atS x l).take i).map eiN)), (8, vint .i64 i)]) (fun i => [some ⟨33, 8, false, .box (pvs x.cells)⟩, obP 3 1 (((atS x l).take i).map eiN)])
    (fun i => i ≤ l.length ∧ ∀ j, j < i → ∀ p, l[j]? = some p → whereP x p) (fun i => l.length - i) 0 ⟨Nat.zero_le _, fun j hj => by omega⟩ ?_ ?_
  · exact back [0, 1] rfl rfl (by repeat' (first | exact trivial | exact rfl | exact ren_get rfl | refine kept_ob rfl ?_ | exact ⟨_, rfl, ALe.refl⟩ | refine And.intro ?_ ?_)) (by repeat' (first | exact trivial | exact rfl | exact ren_get rfl | refine kept_ob rfl ?_ | exact ⟨_, rfl, ALe.refl⟩ | refine And.intro ?_ ?_))
  intro i ⟨hi, hall⟩
  rcases Nat.lt_or_ge i l.length with hlt | hge
  · obtain ⟨p, hp⟩ := getE hlt
    have hw := c_rWhere x p (by omega)
    have hat := atS_take (x := x) hp
    have hal : ((atS x l).take i).length ≤ i := List.length_take_le ..
    have hpr : (l.map Placed.row)[i]? = some p.row := by rw [List.getElem?_map, hp]; rfl
    by_cases hwp : whereP x p
    · rw [whereA_t hwp, (sitN_at hwp).1] at hw
      generalize (atS x l).take i = A at *
      repeat' (first | (refine fv_sl ?_) | (refine fh_ob ?_) | ((refine o_app rfl rfl rfl rfl rfl rfl rfl rfl rfl rfl rfl (by rw [List.length_map]; omega) (by rw [List.length_map]; omega) ?_)) | refine o1 ?_ | refine o2 ?_ | refine k1 ?_ | refine k2 ?_ | refine k3 ?_ | refine k4 ?_ | refine k6 ?_ | refine k7 ?_ | refine k8 ?_ | refine And.intro ?_ ?_ | exact trivial | refine o3 ?_ | refine o4 ?_ | refine o5 ?_ | refine o6 ?_ | refine k5 ?_ | (intro h; first | exact Bool.noConfusion h | exact nz _ h | exact nl h | (simp at h; done) | (simp at h; first | (exfalso; omega) | skip) | skip) | (change retOk _ _ _ _; refine ret_pure rfl trivial ?_) | exact (rfl : allOne _ = true) | (refine (?_ : (0 : Int) ≤ _); omega) | (refine (?_ : _ ≠ _); omega) | (refine (?_ : srcLen _ = rowsLen _); rfl) | exact Nat.le_of_ble_eq_true rfl | exact (by kernel_rfl : drawOk _ _ = true) | refine eqv_len_map ?_ | refine eqv_size ?_ | refine eqv_put (eqv_ck ?_) | refine eqv_zero ?_ | refine eqv_wrap (by omega) (by omega) ?_ | refine eqv_u64 (by omega) (by omega) ?_ | refine eqv_u8 (by omega) (by omega) ?_ | refine eqv_to _ (set_map rfl rfl) ?_ | refine ⟨_, _, (by first | rfl | assumption), at_map (by assumption), ?_⟩ | refine ⟨_, _, (by first | rfl | assumption), (by assumption), ?_⟩ | refine ⟨_, at_map (by assumption), (by decide), ?_⟩ | refine ⟨_, at_map (by assumption), ?_⟩ | (refine (?_ : _ ≤ 140737488355328); simp [rowsLen] <;> omega) | (refine (?_ : _ ≤ 9223372036854775807); simp [rowsLen] <;> omega) | (refine (?_ : _ = rowsLen _); simp [rowsLen] <;> omega) | refine eqv_to _ (app_row rfl) (eqv_to _ app_len ?_) | refine eqv_to _ (app_first rfl) (eqv_to 1 rfl ?_) | refine idx_sl (at_map (by assumption)) (by omega) ?_ | refine idx_ms _ (by first | rfl | assumption) (by first | assumption | omega) ?_ | (change vcFun _ _ _ _ _; refine call_eq rfl (by repeat' (first | trivial | refine And.intro ?_ ?_ | (show 0 + _ ≤ List.length _; simp))) ALeL.refl (hw) rfl ?_) | (change vcFunD _ _ _ _ _; refine callD_eq rfl (by repeat' (first | trivial | refine And.intro ?_ ?_ | (show 0 + _ ≤ List.length _; simp))) ALeL.refl (hw) rfl ?_) | fail)
      refine ⟨i + 1, ⟨hlt, all_lt_succ hall fun q hq => by rw [hp] at hq; cases hq; exact hwp⟩, by omega, ?_⟩
      rw [hat, sl_app, ob_app]
      exact back [0, 3] rfl rfl (by repeat' (first | exact trivial | exact rfl | exact ren_get rfl | refine kept_ob rfl ?_ | exact ⟨_, rfl, ALe.refl⟩ | refine And.intro ?_ ?_)) (by repeat' (first | exact trivial | exact rfl | exact ren_get rfl | refine kept_ob rfl ?_ | exact ⟨_, rfl, ALe.refl⟩ | refine And.intro ?_ ?_))
    · obtain ⟨b1, b2⟩ := strains_bad h0 hn hp hwp
      rw [whereA_f hwp] at hw
      rw [b1, b2]
      generalize (atS x l).take i = A at *
      repeat' (first | (refine fv_sl ?_) | (refine fh_ob ?_) | refine o1 ?_ | refine o2 ?_ | refine k1 ?_ | refine k2 ?_ | refine k3 ?_ | refine k4 ?_ | refine k6 ?_ | refine k7 ?_ | refine k8 ?_ | refine And.intro ?_ ?_ | exact trivial | refine o3 ?_ | refine o4 ?_ | refine o5 ?_ | refine o6 ?_ | refine k5 ?_ | (intro h; first | exact Bool.noConfusion h | exact nz _ h | exact nl h | (simp at h; done) | (simp at h; first | (exfalso; omega) | skip) | skip) | (change retOk _ _ _ _; refine ret_pure rfl trivial ?_) | exact (rfl : allOne _ = true) | (refine (?_ : (0 : Int) ≤ _); omega) | (refine (?_ : _ ≠ _); omega) | (refine (?_ : srcLen _ = rowsLen _); rfl) | exact Nat.le_of_ble_eq_true rfl | exact (by kernel_rfl : drawOk _ _ = true) | refine eqv_len_map ?_ | refine eqv_size ?_ | refine eqv_put (eqv_ck ?_) | refine eqv_zero ?_ | refine eqv_wrap (by omega) (by omega) ?_ | refine eqv_u64 (by omega) (by omega) ?_ | refine eqv_u8 (by omega) (by omega) ?_ | refine eqv_to _ (set_map rfl rfl) ?_ | refine ⟨_, _, (by first | rfl | assumption), at_map (by assumption), ?_⟩ | refine ⟨_, _, (by first | rfl | assumption), (by assumption), ?_⟩ | refine ⟨_, at_map (by assumption), (by decide), ?_⟩ | refine ⟨_, at_map (by assumption), ?_⟩ | (refine (?_ : _ ≤ 140737488355328); simp [rowsLen] <;> omega) | (refine (?_ : _ ≤ 9223372036854775807); simp [rowsLen] <;> omega) | (refine (?_ : _ = rowsLen _); simp [rowsLen] <;> omega) | refine eqv_to _ (app_row rfl) (eqv_to _ app_len ?_) | refine eqv_to _ (app_first rfl) (eqv_to 1 rfl ?_) | refine idx_sl (at_map (by assumption)) (by omega) ?_ | refine idx_ms _ (by first | rfl | assumption) (by first | assumption | omega) ?_ | (change vcFun _ _ _ _ _; refine call_eq rfl (by repeat' (first | trivial | refine And.intro ?_ ?_ | (show 0 + _ ≤ List.length _; simp))) ALeL.refl (hw) rfl ?_) | (change vcFunD _ _ _ _ _; refine callD_eq rfl (by repeat' (first | trivial | refine And.intro ?_ ?_ | (show 0 + _ ≤ List.length _; simp))) ALeL.refl (hw) rfl ?_) | fail)
      exact ⟨ALe.tup ⟨ALe.pv PLe.nil, ALe.refl, trivial⟩⟩
  obtain rfl : i = l.length := by omega
  obtain ⟨b1, b2⟩ := strains_good h0 hn hall
  have hso := atS_ok hn hall
  have htl : (atS x l).take l.length = atS x l := List.take_of_length_le (by unfold atS; rw [List.length_map]; exact Nat.le_refl _)
  rw [b1, b2, htl]
  have hat := hso.1
  have has := hso.2
  clear b1 b2 htl hso hall
  generalize atS x l = A at *
  refine forceH_in ?_
  refine ghost_seq (Γ' := [(1, .pv (.sl 5 (l.map Placed.row))), (2, .ptr 0 8 0 0), (7, .pv (.sl 1 (A.map eiN))), (8, vint .i64 l.length)]) (H' := [some ⟨33, 8, false, .box (pvs x.cells)⟩]) (Ghost.sl (s := 7) (id := 1) rfl rfl fun H' hl hH => back [0] rfl rfl (And.intro (hH 0 (by decide)) trivial) (by repeat' (first | exact trivial | exact rfl | exact ren_get rfl | refine kept_ob rfl ?_ | exact ⟨_, rfl, ALe.refl⟩ | refine And.intro ?_ ?_))) ?_
  repeat' (first | refine o1 ?_ | refine o2 ?_ | refine k1 ?_ | refine k2 ?_ | refine k3 ?_ | refine k4 ?_ | refine k6 ?_ | refine k7 ?_ | refine k8 ?_ | refine And.intro ?_ ?_ | exact trivial | refine o3 ?_ | refine o4 ?_ | refine o5 ?_ | refine o6 ?_ | refine k5 ?_ | (intro h; first | exact Bool.noConfusion h | exact nz _ h | exact nl h | (simp at h; done) | (simp at h; first | (exfalso; omega) | skip) | skip) | (change retOk _ _ _ _; refine ret_pure rfl trivial ?_) | exact (rfl : allOne _ = true) | (refine (?_ : (0 : Int) ≤ _); omega) | (refine (?_ : _ ≠ _); omega) | (refine (?_ : srcLen _ = rowsLen _); rfl) | exact Nat.le_of_ble_eq_true rfl | exact (by kernel_rfl : drawOk _ _ = true) | refine eqv_len_map ?_ | refine eqv_size ?_ | refine eqv_put (eqv_ck ?_) | refine eqv_zero ?_ | refine eqv_wrap (by omega) (by omega) ?_ | refine eqv_u64 (by omega) (by omega) ?_ | refine eqv_u8 (by omega) (by omega) ?_ | refine eqv_to _ (set_map rfl rfl) ?_ | refine ⟨_, _, (by first | rfl | assumption), at_map (by assumption), ?_⟩ | refine ⟨_, _, (by first | rfl | assumption), (by assumption), ?_⟩ | refine ⟨_, at_map (by assumption), (by decide), ?_⟩ | refine ⟨_, at_map (by assumption), ?_⟩ | (refine (?_ : _ ≤ 140737488355328); simp [rowsLen] <;> omega) | (refine (?_ : _ ≤ 9223372036854775807); simp [rowsLen] <;> omega) | (refine (?_ : _ = rowsLen _); simp [rowsLen] <;> omega) | refine eqv_to _ (app_row rfl) (eqv_to _ app_len ?_) | refine eqv_to _ (app_first rfl) (eqv_to 1 rfl ?_) | refine idx_sl (at_map (by assumption)) (by omega) ?_ | refine idx_ms _ (by first | rfl | assumption) (by first | assumption | omega) ?_ | fail)
  refine loop_for (fun i : Nat => [(1, .pv (.sl 5 (l.map Placed.row))), (2, .ptr 0 8 0 0), (7, .pv (.sl 1 (A.map eiN))), (12, slP 1 1 ((uniqX x i).map strRow)), (13, vint .i64 i)]) (fun i => [some ⟨33, 8, false, .box (pvs x.cells)⟩, obP 9 1 ((uniqX x i).map strRow)])
    (fun i => i ≤ x.exams.length) (fun i => x.exams.length - i) 0 (Nat.zero_le _) ?_ ?_
  · exact back [0, 1] rfl rfl (by repeat' (first | exact trivial | exact rfl | exact ren_get rfl | refine kept_ob rfl ?_ | exact ⟨_, rfl, ALe.refl⟩ | refine And.intro ?_ ?_)) (by repeat' (first | exact trivial | exact rfl | exact ren_get rfl | refine kept_ob rfl ?_ | exact ⟨_, rfl, ALe.refl⟩ | refine And.intro ?_ ?_))
  intro i hi
  obtain ⟨u1, u2, -⟩ := uniqX_spec h0 hi
  rcases Nat.lt_or_ge i x.exams.length with hil | hig
  · obtain ⟨e, he⟩ := getE hil
    have hes := (exam_z h0 e (List.mem_of_getElem? he)).2.2
    have hue := uniqX_succ he
    have hus := fun k (hk : k ≤ e.studs.length) => (addUs_spec (l := e.studs) u1 hk).2.1
    generalize uniqX x i = U at *
    repeat' (first | (refine fv_sl ?_) | (refine fh_ob ?_) | refine o1 ?_ | refine o2 ?_ | refine k1 ?_ | refine k2 ?_ | refine k3 ?_ | refine k4 ?_ | refine k6 ?_ | refine k7 ?_ | refine k8 ?_ | refine And.intro ?_ ?_ | exact trivial | refine o3 ?_ | refine o4 ?_ | refine o5 ?_ | refine o6 ?_ | refine k5 ?_ | (intro h; first | exact Bool.noConfusion h | exact nz _ h | exact nl h | (simp at h; done) | (simp at h; first | (exfalso; omega) | skip) | skip) | (change retOk _ _ _ _; refine ret_pure rfl trivial ?_) | exact (rfl : allOne _ = true) | (refine (?_ : (0 : Int) ≤ _); omega) | (refine (?_ : _ ≠ _); omega) | (refine (?_ : srcLen _ = rowsLen _); rfl) | exact Nat.le_of_ble_eq_true rfl | exact (by kernel_rfl : drawOk _ _ = true) | refine eqv_len_map ?_ | refine eqv_size ?_ | refine eqv_put (eqv_ck ?_) | refine eqv_zero ?_ | refine eqv_wrap (by omega) (by omega) ?_ | refine eqv_u64 (by omega) (by omega) ?_ | refine eqv_u8 (by omega) (by omega) ?_ | refine eqv_to _ (set_map rfl rfl) ?_ | refine ⟨_, _, (by first | rfl | assumption), at_map (by assumption), ?_⟩ | refine ⟨_, _, (by first | rfl | assumption), (by assumption), ?_⟩ | refine ⟨_, at_map (by assumption), (by decide), ?_⟩ | refine ⟨_, at_map (by assumption), ?_⟩ | (refine (?_ : _ ≤ 140737488355328); simp [rowsLen] <;> omega) | (refine (?_ : _ ≤ 9223372036854775807); simp [rowsLen] <;> omega) | (refine (?_ : _ = rowsLen _); simp [rowsLen] <;> omega) | refine eqv_to _ (app_row rfl) (eqv_to _ app_len ?_) | refine eqv_to _ (app_first rfl) (eqv_to 1 rfl ?_) | refine idx_sl (at_map (by assumption)) (by omega) ?_ | refine idx_ms _ (by first | rfl | assumption) (by first | assumption | omega) ?_ | fail)
    refine loop_for (fun k : Nat => [(1, .pv (.sl 5 (l.map Placed.row))), (2, .ptr 0 8 0 0), (7, .pv (.sl 1 (A.map eiN))), (12, slP 1 1 ((addUs U e.studs k).map strRow)), (13, vint .i64 i), (14, vint .i64 k)]) (fun k => [some ⟨33, 8, false, .box (pvs x.cells)⟩, obP 9 1 ((addUs U e.studs k).map strRow)])
      (fun k => k ≤ e.studs.length) (fun k => e.studs.length - k) 0 (Nat.zero_le _) ?_ ?_
    · exact back [0, 1] rfl rfl (by repeat' (first | exact trivial | exact rfl | exact ren_get rfl | refine kept_ob rfl ?_ | exact ⟨_, rfl, ALe.refl⟩ | refine And.intro ?_ ?_)) (by repeat' (first | exact trivial | exact rfl | exact ren_get rfl | refine kept_ob rfl ?_ | exact ⟨_, rfl, ALe.refl⟩ | refine And.intro ?_ ?_))
    intro k hk
    have hul := hus k hk
    rcases Nat.lt_or_ge k e.studs.length with hkl | hkg
    · obtain ⟨s, hs⟩ := getE hkl
      have hks := addUs_succ (out := U) hs
      have hsr : (e.studs.map fun s => [es s])[k]? = some [es s] := by rw [List.getElem?_map, hs]; rfl
      have hhas := c_has (addUs U e.studs k) s (by omega)
      have hhas : PCall Tryz.prog 68 [.pv (.sl 1 ((addUs U e.studs k).map strRow)), .pv (es s)] (fun r => r = vbool (pB (s ∈ addUs U e.studs k))) := hhas
      generalize addUs U e.studs k = W at *
      repeat' (first | (refine fv_sl ?_) | (refine fh_ob ?_) | (refine idx_sl (k := i) (at_map he) (by omega) ?_) | ((change vcFun _ _ _ _ _; refine call_slA (id := 1) (ty := 9) rfl hhas rfl ?_)) | ((refine o_app rfl rfl rfl rfl rfl rfl rfl rfl rfl rfl rfl (by rw [List.length_map]; omega) (by rw [List.length_map]; omega) ?_)) | refine o1 ?_ | refine o2 ?_ | refine k1 ?_ | refine k2 ?_ | refine k3 ?_ | refine k4 ?_ | refine k6 ?_ | refine k7 ?_ | refine k8 ?_ | refine And.intro ?_ ?_ | exact trivial | refine o3 ?_ | refine o4 ?_ | refine o5 ?_ | refine o6 ?_ | refine k5 ?_ | (intro h; first | exact Bool.noConfusion h | exact nz _ h | exact nl h | (simp at h; done) | (simp at h; first | (exfalso; omega) | skip) | skip) | (change retOk _ _ _ _; refine ret_pure rfl trivial ?_) | exact (rfl : allOne _ = true) | (refine (?_ : (0 : Int) ≤ _); omega) | (refine (?_ : _ ≠ _); omega) | (refine (?_ : srcLen _ = rowsLen _); rfl) | exact Nat.le_of_ble_eq_true rfl | exact (by kernel_rfl : drawOk _ _ = true) | refine eqv_len_map ?_ | refine eqv_size ?_ | refine eqv_put (eqv_ck ?_) | refine eqv_zero ?_ | refine eqv_wrap (by omega) (by omega) ?_ | refine eqv_u64 (by omega) (by omega) ?_ | refine eqv_u8 (by omega) (by omega) ?_ | refine eqv_to _ (set_map rfl rfl) ?_ | refine ⟨_, _, (by first | rfl | assumption), at_map (by assumption), ?_⟩ | refine ⟨_, _, (by first | rfl | assumption), (by assumption), ?_⟩ | refine ⟨_, at_map (by assumption), (by decide), ?_⟩ | refine ⟨_, at_map (by assumption), ?_⟩ | (refine (?_ : _ ≤ 140737488355328); simp [rowsLen] <;> omega) | (refine (?_ : _ ≤ 9223372036854775807); simp [rowsLen] <;> omega) | (refine (?_ : _ = rowsLen _); simp [rowsLen] <;> omega) | refine eqv_to _ (app_row rfl) (eqv_to _ app_len ?_) | refine eqv_to _ (app_first rfl) (eqv_to 1 rfl ?_) | refine idx_sl (at_map (by assumption)) (by omega) ?_ | refine idx_ms _ (by first | rfl | assumption) (by first | assumption | omega) ?_ | fail)
      · refine ⟨k + 1, hkl, by omega, ?_⟩
        rw [hks, addU_f (by assumption), map_snoc, sl_app, ob_app]
        exact back [0, 3] rfl rfl (by repeat' (first | exact trivial | exact rfl | exact ren_get rfl | refine kept_ob rfl ?_ | exact ⟨_, rfl, ALe.refl⟩ | refine And.intro ?_ ?_)) (by repeat' (first | exact trivial | exact rfl | exact ren_get rfl | refine kept_ob rfl ?_ | exact ⟨_, rfl, ALe.refl⟩ | refine And.intro ?_ ?_))
      · refine ⟨k + 1, hkl, by omega, ?_⟩
        rw [hks, addU_t (by assumption)]
        exact back [0, 1] rfl rfl (by repeat' (first | exact trivial | exact rfl | exact ren_get rfl | refine kept_ob rfl ?_ | exact ⟨_, rfl, ALe.refl⟩ | refine And.intro ?_ ?_)) (by repeat' (first | exact trivial | exact rfl | exact ren_get rfl | refine kept_ob rfl ?_ | exact ⟨_, rfl, ALe.refl⟩ | refine And.intro ?_ ?_))
    · obtain rfl : k = e.studs.length := by omega
      repeat' (first | (refine fv_sl ?_) | (refine fh_ob ?_) | (refine idx_sl (k := i) (at_map he) (by omega) ?_) | refine o1 ?_ | refine o2 ?_ | refine k1 ?_ | refine k2 ?_ | refine k3 ?_ | refine k4 ?_ | refine k6 ?_ | refine k7 ?_ | refine k8 ?_ | refine And.intro ?_ ?_ | exact trivial | refine o3 ?_ | refine o4 ?_ | refine o5 ?_ | refine o6 ?_ | refine k5 ?_ | (intro h; first | exact Bool.noConfusion h | exact nz _ h | exact nl h | (simp at h; done) | (simp at h; first | (exfalso; omega) | skip) | skip) | (change retOk _ _ _ _; refine ret_pure rfl trivial ?_) | exact (rfl : allOne _ = true) | (refine (?_ : (0 : Int) ≤ _); omega) | (refine (?_ : _ ≠ _); omega) | (refine (?_ : srcLen _ = rowsLen _); rfl) | exact Nat.le_of_ble_eq_true rfl | exact (by kernel_rfl : drawOk _ _ = true) | refine eqv_len_map ?_ | refine eqv_size ?_ | refine eqv_put (eqv_ck ?_) | refine eqv_zero ?_ | refine eqv_wrap (by omega) (by omega) ?_ | refine eqv_u64 (by omega) (by omega) ?_ | refine eqv_u8 (by omega) (by omega) ?_ | refine eqv_to _ (set_map rfl rfl) ?_ | refine ⟨_, _, (by first | rfl | assumption), at_map (by assumption), ?_⟩ | refine ⟨_, _, (by first | rfl | assumption), (by assumption), ?_⟩ | refine ⟨_, at_map (by assumption), (by decide), ?_⟩ | refine ⟨_, at_map (by assumption), ?_⟩ | (refine (?_ : _ ≤ 140737488355328); simp [rowsLen] <;> omega) | (refine (?_ : _ ≤ 9223372036854775807); simp [rowsLen] <;> omega) | (refine (?_ : _ = rowsLen _); simp [rowsLen] <;> omega) | refine eqv_to _ (app_row rfl) (eqv_to _ app_len ?_) | refine eqv_to _ (app_first rfl) (eqv_to 1 rfl ?_) | refine idx_sl (at_map (by assumption)) (by omega) ?_ | refine idx_ms _ (by first | rfl | assumption) (by first | assumption | omega) ?_ | fail)
      refine ⟨i + 1, hil, by omega, ?_⟩
      rw [hue]
      exact back [0, 1] rfl rfl (by repeat' (first | exact trivial | exact rfl | exact ren_get rfl | refine kept_ob rfl ?_ | exact ⟨_, rfl, ALe.refl⟩ | refine And.intro ?_ ?_)) (by repeat' (first | exact trivial | exact rfl | exact ren_get rfl | refine kept_ob rfl ?_ | exact ⟨_, rfl, ALe.refl⟩ | refine And.intro ?_ ?_))
  obtain rfl : i = x.exams.length := by omega
  have hne := names_eq h0
  have hasc := c_ascS (uniqX x x.exams.length) (by omega)
  rw [hne] at hasc
  have hnl : (namesX x).length ≤ 384 := by rw [← hne, ascA_len (Nat.le_refl _)]; omega
  clear hne
  generalize uniqX x x.exams.length = U at *
  generalize namesX x = NS at *
  refine forceH_in ?_
  refine ghost_seq (Γ' := [(1, .pv (.sl 5 (l.map Placed.row))), (2, .ptr 0 8 0 0), (7, .pv (.sl 1 (A.map eiN))), (12, .pv (encStrs U)), (13, vint .i64 x.exams.length)]) (H' := [some ⟨33, 8, false, .box (pvs x.cells)⟩]) (Ghost.sl (s := 12) (id := 1) rfl rfl fun H' hl hH => back [0] rfl rfl (And.intro (hH 0 (by decide)) trivial) (by repeat' (first | exact trivial | exact rfl | exact ren_get rfl | refine kept_ob rfl ?_ | exact ⟨_, rfl, ALe.refl⟩ | refine And.intro ?_ ?_))) ?_
  repeat' (first | ((change vcFun _ _ _ _ _; refine call_frz rfl (by repeat' (first | trivial | refine And.intro ?_ ?_ | (show 0 + _ ≤ List.length _; simp))) ALeL.refl hasc ?_; rintro _ rfl)) | refine o1 ?_ | refine o2 ?_ | refine k1 ?_ | refine k2 ?_ | refine k3 ?_ | refine k4 ?_ | refine k6 ?_ | refine k7 ?_ | refine k8 ?_ | refine And.intro ?_ ?_ | exact trivial | refine o3 ?_ | refine o4 ?_ | refine o5 ?_ | refine o6 ?_ | refine k5 ?_ | (intro h; first | exact Bool.noConfusion h | exact nz _ h | exact nl h | (simp at h; done) | (simp at h; first | (exfalso; omega) | skip) | skip) | (change retOk _ _ _ _; refine ret_pure rfl trivial ?_) | exact (rfl : allOne _ = true) | (refine (?_ : (0 : Int) ≤ _); omega) | (refine (?_ : _ ≠ _); omega) | (refine (?_ : srcLen _ = rowsLen _); rfl) | exact Nat.le_of_ble_eq_true rfl | exact (by kernel_rfl : drawOk _ _ = true) | refine eqv_len_map ?_ | refine eqv_size ?_ | refine eqv_put (eqv_ck ?_) | refine eqv_zero ?_ | refine eqv_wrap (by omega) (by omega) ?_ | refine eqv_u64 (by omega) (by omega) ?_ | refine eqv_u8 (by omega) (by omega) ?_ | refine eqv_to _ (set_map rfl rfl) ?_ | refine ⟨_, _, (by first | rfl | assumption), at_map (by assumption), ?_⟩ | refine ⟨_, _, (by first | rfl | assumption), (by assumption), ?_⟩ | refine ⟨_, at_map (by assumption), (by decide), ?_⟩ | refine ⟨_, at_map (by assumption), ?_⟩ | (refine (?_ : _ ≤ 140737488355328); simp [rowsLen] <;> omega) | (refine (?_ : _ ≤ 9223372036854775807); simp [rowsLen] <;> omega) | (refine (?_ : _ = rowsLen _); simp [rowsLen] <;> omega) | refine eqv_to _ (app_row rfl) (eqv_to _ app_len ?_) | refine eqv_to _ (app_first rfl) (eqv_to 1 rfl ?_) | refine idx_sl (at_map (by assumption)) (by omega) ?_ | refine idx_ms _ (by first | rfl | assumption) (by first | assumption | omega) ?_ | fail)
  refine loop_for (fun n : Nat => [(1, .pv (.sl 5 (l.map Placed.row))), (2, .ptr 0 8 0 0), (7, .pv (.sl 1 (A.map eiN))), (12, .pv (encStrs NS)), (15, slP 1 4 ((NS.take n).map (strainR x A))), (16, vint .i64 n)]) (fun n => [some ⟨33, 8, false, .box (pvs x.cells)⟩, obP 88 4 ((NS.take n).map (strainR x A))])
    (fun n => n ≤ NS.length) (fun n => NS.length - n) 0 (Nat.zero_le _) ?_ ?_
  · exact back [0, 1] rfl rfl (by repeat' (first | exact trivial | exact rfl | exact ren_get rfl | refine kept_ob rfl ?_ | exact ⟨_, rfl, ALe.refl⟩ | refine And.intro ?_ ?_)) (by repeat' (first | exact trivial | exact rfl | exact ren_get rfl | refine kept_ob rfl ?_ | exact ⟨_, rfl, ALe.refl⟩ | refine And.intro ?_ ?_))
  intro n hnn
  have hnt : (NS.take n).length ≤ n := List.length_take_le ..
  rcases Nat.lt_or_ge n NS.length with hnl2 | hng
  · obtain ⟨s, hs⟩ := getE hnl2
    have hts := take_snoc hs
    have hsr : (NS.map fun s => [es s])[n]? = some [es s] := by rw [List.getElem?_map, hs]; rfl
    have hoa := fun r => outS_all (x := x) (a := A) (s := s) (r := r)
    generalize NS.take n = NK at *
    repeat' (first | (refine fv_sl ?_) | (refine fh_ob ?_) | refine o1 ?_ | refine o2 ?_ | refine k1 ?_ | refine k2 ?_ | refine k3 ?_ | refine k4 ?_ | refine k6 ?_ | refine k7 ?_ | refine k8 ?_ | refine And.intro ?_ ?_ | exact trivial | refine o3 ?_ | refine o4 ?_ | refine o5 ?_ | refine o6 ?_ | refine k5 ?_ | (intro h; first | exact Bool.noConfusion h | exact nz _ h | exact nl h | (simp at h; done) | (simp at h; first | (exfalso; omega) | skip) | skip) | (change retOk _ _ _ _; refine ret_pure rfl trivial ?_) | exact (rfl : allOne _ = true) | (refine (?_ : (0 : Int) ≤ _); omega) | (refine (?_ : _ ≠ _); omega) | (refine (?_ : srcLen _ = rowsLen _); rfl) | exact Nat.le_of_ble_eq_true rfl | exact (by kernel_rfl : drawOk _ _ = true) | refine eqv_len_map ?_ | refine eqv_size ?_ | refine eqv_put (eqv_ck ?_) | refine eqv_zero ?_ | refine eqv_wrap (by omega) (by omega) ?_ | refine eqv_u64 (by omega) (by omega) ?_ | refine eqv_u8 (by omega) (by omega) ?_ | refine eqv_to _ (set_map rfl rfl) ?_ | refine ⟨_, _, (by first | rfl | assumption), at_map (by assumption), ?_⟩ | refine ⟨_, _, (by first | rfl | assumption), (by assumption), ?_⟩ | refine ⟨_, at_map (by assumption), (by decide), ?_⟩ | refine ⟨_, at_map (by assumption), ?_⟩ | (refine (?_ : _ ≤ 140737488355328); simp [rowsLen] <;> omega) | (refine (?_ : _ ≤ 9223372036854775807); simp [rowsLen] <;> omega) | (refine (?_ : _ = rowsLen _); simp [rowsLen] <;> omega) | refine eqv_to _ (app_row rfl) (eqv_to _ app_len ?_) | refine eqv_to _ (app_first rfl) (eqv_to 1 rfl ?_) | refine idx_sl (at_map (by assumption)) (by omega) ?_ | refine idx_ms _ (by first | rfl | assumption) (by first | assumption | omega) ?_ | fail)
    refine loop_for (fun i : Nat => [(1, .pv (.sl 5 (l.map Placed.row))), (2, .ptr 0 8 0 0), (7, .pv (.sl 1 (A.map eiN))), (12, .pv (encStrs NS)), (15, slP 1 4 (NK.map (strainR x A))), (16, vint .i64 n), (17, .ptr 2 4 0 0), (18, vint .i64 i)])
      (fun i => [some ⟨33, 8, false, .box (pvs x.cells)⟩, obP 88 4 (NK.map (strainR x A)), some ⟨88, 4, false, .box (pvs (cntRow s (outS x A s 2 i) (outS x A s 3 i) (outS x A s 4 i)))⟩])
      (fun i => i ≤ A.length) (fun i => A.length - i) 0 (Nat.zero_le _) ?_ ?_
    · exact back [0, 1, 2] rfl rfl (by repeat' (first | exact trivial | exact rfl | exact ren_get rfl | refine kept_ob rfl ?_ | exact ⟨_, rfl, ALe.refl⟩ | refine And.intro ?_ ?_)) (by repeat' (first | exact trivial | exact rfl | exact ren_get rfl | refine kept_ob rfl ?_ | exact ⟨_, rfl, ALe.refl⟩ | refine And.intro ?_ ?_))
    intro i hi
    have ou2 := outS_le (x := x) (a := A) (s := s) (r := 2) (i := i)
    have ou3 := outS_le (x := x) (a := A) (s := s) (r := 3) (i := i)
    have ou4 := outS_le (x := x) (a := A) (s := s) (r := 4) (i := i)
    have hii : i * x.exams.length ≤ 6 * 6 := Nat.mul_le_mul (by omega) (by omega)
    have oo : ∀ r, outS x A s r (i + 1) = outS x A s r i + inS x A s r i x.exams.length := fun r => rfl
    rcases Nat.lt_or_ge i A.length with hil | hig
    · obtain ⟨e, he⟩ := getE (show i < x.exams.length by omega)
      obtain ⟨q, hq⟩ := getE hil
      obtain ⟨t, ht⟩ := getE (has q (List.mem_of_getElem? hq))
      have hqe : (A.map eiN)[i]? = some (eiN q) := by rw [List.getElem?_map, hq]; rfl
      have hqd : A.getD i 0 = q := by rw [List.getD_eq_getElem?_getD, hq]; rfl
      have hes := (exam_z h0 e (List.mem_of_getElem? he)).2.2
      have hh1 := c_has e.studs s (by omega)
      have hhe := hasS_at (s := s) he
      have q2 := oo 2
      have q3 := oo 3
      have q4 := oo 4
      clear oo
      generalize outS x A s 2 i = a2 at *
      generalize outS x A s 3 i = a3 at *
      generalize outS x A s 4 i = a4 at *
      repeat' (first | (refine fv_sl ?_) | (refine fh_ob ?_) | refine o1 ?_ | refine o2 ?_ | refine k1 ?_ | refine k2 ?_ | refine k3 ?_ | refine k4 ?_ | refine k6 ?_ | refine k7 ?_ | refine k8 ?_ | refine And.intro ?_ ?_ | exact trivial | refine o3 ?_ | refine o4 ?_ | refine o5 ?_ | refine o6 ?_ | refine k5 ?_ | (intro h; first | exact Bool.noConfusion h | exact nz _ h | exact nl h | (simp at h; done) | (simp at h; first | (exfalso; omega) | skip) | skip) | (change retOk _ _ _ _; refine ret_pure rfl trivial ?_) | exact (rfl : allOne _ = true) | (refine (?_ : (0 : Int) ≤ _); omega) | (refine (?_ : _ ≠ _); omega) | (refine (?_ : srcLen _ = rowsLen _); rfl) | exact Nat.le_of_ble_eq_true rfl | exact (by kernel_rfl : drawOk _ _ = true) | refine eqv_len_map ?_ | refine eqv_size ?_ | refine eqv_put (eqv_ck ?_) | refine eqv_zero ?_ | refine eqv_wrap (by omega) (by omega) ?_ | refine eqv_u64 (by omega) (by omega) ?_ | refine eqv_u8 (by omega) (by omega) ?_ | refine eqv_to _ (set_map rfl rfl) ?_ | refine ⟨_, _, (by first | rfl | assumption), at_map (by assumption), ?_⟩ | refine ⟨_, _, (by first | rfl | assumption), (by assumption), ?_⟩ | refine ⟨_, at_map (by assumption), (by decide), ?_⟩ | refine ⟨_, at_map (by assumption), ?_⟩ | (refine (?_ : _ ≤ 140737488355328); simp [rowsLen] <;> omega) | (refine (?_ : _ ≤ 9223372036854775807); simp [rowsLen] <;> omega) | (refine (?_ : _ = rowsLen _); simp [rowsLen] <;> omega) | refine eqv_to _ (app_row rfl) (eqv_to _ app_len ?_) | refine eqv_to _ (app_first rfl) (eqv_to 1 rfl ?_) | refine idx_sl (at_map (by assumption)) (by omega) ?_ | refine idx_ms _ (by first | rfl | assumption) (by first | assumption | omega) ?_ | fail)
      refine loop_for (fun k : Nat => [(1, .pv (.sl 5 (l.map Placed.row))), (2, .ptr 0 8 0 0), (7, .pv (.sl 1 (A.map eiN))), (12, .pv (encStrs NS)), (15, slP 1 4 (NK.map (strainR x A))), (16, vint .i64 n), (17, .ptr 2 4 0 0), (18, vint .i64 i), (19, vint .i64 k)])
        (fun k => [some ⟨33, 8, false, .box (pvs x.cells)⟩, obP 88 4 (NK.map (strainR x A)), some ⟨88, 4, false, .box (pvs (cntRow s (a2 + inS x A s 2 i k) (a3 + inS x A s 3 i k) (a4 + inS x A s 4 i k)))⟩])
        (fun k => i < k ∧ k ≤ A.length) (fun k => A.length - k) (i + 1) ⟨Nat.lt_succ_self _, hil⟩ ?_ ?_
      · rw [inS_begin, inS_begin, inS_begin]
        exact back [0, 1, 2] rfl rfl (by repeat' (first | exact trivial | exact rfl | exact ren_get rfl | refine kept_ob rfl ?_ | exact ⟨_, rfl, ALe.refl⟩ | refine And.intro ?_ ?_)) (by repeat' (first | exact trivial | exact rfl | exact ren_get rfl | refine kept_ob rfl ?_ | exact ⟨_, rfl, ALe.refl⟩ | refine And.intro ?_ ?_))
      intro k ⟨hik, hk⟩
      have i2 := inS_le (x := x) (a := A) (s := s) (r := 2) (i := i) (k := k)
      have i3 := inS_le (x := x) (a := A) (s := s) (r := 3) (i := i) (k := k)
      have i4 := inS_le (x := x) (a := A) (s := s) (r := 4) (i := i) (k := k)
      have s2 := inS_succ (x := x) (a := A) (s := s) (r := 2) hik
      have s3 := inS_succ (x := x) (a := A) (s := s) (r := 3) hik
      have s4 := inS_succ (x := x) (a := A) (s := s) (r := 4) hik
      rcases Nat.lt_or_ge k A.length with hkl | hkg
      · obtain ⟨f, hf2⟩ := getE (show k < x.exams.length by omega)
        obtain ⟨p, hp⟩ := getE hkl
        obtain ⟨u, hu⟩ := getE (has p (List.mem_of_getElem? hp))
        have hpe : (A.map eiN)[k]? = some (eiN p) := by rw [List.getElem?_map, hp]; rfl
        have hpd : A.getD k 0 = p := by rw [List.getD_eq_getElem?_getD, hp]; rfl
        have hfs := (exam_z h0 f (List.mem_of_getElem? hf2)).2.2
        have hh2 := c_has f.studs s (by omega)
        have hhf := hasS_at (s := s) hf2
        have hrel := c_rrelation x q p t u hf ht hu
        have hru := relQ_at ht hu
        unfold gS at s2 s3 s4
        rw [hhe, hhf, hqd, hpd] at s2 s3 s4
        rw [← hru] at hrel
        clear hru
        generalize relQ x q p = R at *
        generalize inS x A s 2 i k = b2 at *
        generalize inS x A s 3 i k = b3 at *
        generalize inS x A s 4 i k = b4 at *
        repeat' (first | (refine fv_sl ?_) | (refine fh_ob ?_) | (refine idx_sl (k := i) hqe (by omega) ?_) | (refine idx_sl (k := k) hpe (by omega) ?_) | (refine idx_sl (k := i) (at_map he) (by omega) ?_) | (refine idx_sl (k := k) (at_map hf2) (by omega) ?_) | (refine idx_sl (k := n) hsr (by omega) ?_) | refine o1 ?_ | refine o2 ?_ | refine k1 ?_ | refine k2 ?_ | refine k3 ?_ | refine k4 ?_ | refine k6 ?_ | refine k7 ?_ | refine k8 ?_ | refine And.intro ?_ ?_ | exact trivial | refine o3 ?_ | refine o4 ?_ | refine o5 ?_ | refine o6 ?_ | refine k5 ?_ | (intro h; first | exact Bool.noConfusion h | exact nz _ h | exact nl h | (simp at h; done) | (simp at h; first | (exfalso; omega) | skip) | skip) | (change retOk _ _ _ _; refine ret_pure rfl trivial ?_) | exact (rfl : allOne _ = true) | (refine (?_ : (0 : Int) ≤ _); omega) | (refine (?_ : _ ≠ _); omega) | (refine (?_ : srcLen _ = rowsLen _); rfl) | exact Nat.le_of_ble_eq_true rfl | exact (by kernel_rfl : drawOk _ _ = true) | refine eqv_len_map ?_ | refine eqv_size ?_ | refine eqv_put (eqv_ck ?_) | refine eqv_zero ?_ | refine eqv_wrap (by omega) (by omega) ?_ | refine eqv_u64 (by omega) (by omega) ?_ | refine eqv_u8 (by omega) (by omega) ?_ | refine eqv_to _ (set_map rfl rfl) ?_ | refine ⟨_, _, (by first | rfl | assumption), at_map (by assumption), ?_⟩ | refine ⟨_, _, (by first | rfl | assumption), (by assumption), ?_⟩ | refine ⟨_, at_map (by assumption), (by decide), ?_⟩ | refine ⟨_, at_map (by assumption), ?_⟩ | (refine (?_ : _ ≤ 140737488355328); simp [rowsLen] <;> omega) | (refine (?_ : _ ≤ 9223372036854775807); simp [rowsLen] <;> omega) | (refine (?_ : _ = rowsLen _); simp [rowsLen] <;> omega) | refine eqv_to _ (app_row rfl) (eqv_to _ app_len ?_) | refine eqv_to _ (app_first rfl) (eqv_to 1 rfl ?_) | refine idx_sl (at_map (by assumption)) (by omega) ?_ | refine idx_ms _ (by first | rfl | assumption) (by first | assumption | omega) ?_ | (change vcFunD _ _ _ _ _; refine callD_eq rfl (by repeat' (first | trivial | refine And.intro ?_ ?_ | (show 0 + _ ≤ List.length _; simp))) ALeL.refl (hh1) rfl ?_) | (change vcFunD _ _ _ _ _; refine callD_eq rfl (by repeat' (first | trivial | refine And.intro ?_ ?_ | (show 0 + _ ≤ List.length _; simp))) ALeL.refl (hh2) rfl ?_) | (change vcFunD _ _ _ _ _; refine callD_eq rfl (by repeat' (first | trivial | refine And.intro ?_ ?_ | (show 0 + _ ≤ List.length _; simp))) ALeL.refl (hrel) rfl ?_) | fail)
        all_goals
          refine ⟨k + 1, ⟨by omega, hkl⟩, by omega, ?_⟩
          rw [s2, s3, s4]
          first
          | (rw [if_neg (notA (p := s ∈ e.studs) (by assumption)), if_neg (notA (p := s ∈ e.studs) (by assumption)), if_neg (notA (p := s ∈ e.studs) (by assumption))])
          | (rw [if_neg (notB (q := s ∈ f.studs) (by assumption)), if_neg (notB (q := s ∈ f.studs) (by assumption)), if_neg (notB (q := s ∈ f.studs) (by assumption))])
          | (rw [if_pos (show pB (s ∈ e.studs) = true ∧ pB (s ∈ f.studs) = true ∧ R = 2 from ⟨pB_t (by assumption), pB_t (by assumption), by omega⟩), if_neg (notC (r := R = 3) (by omega)), if_neg (notC (r := R = 4) (by omega))])
          | (rw [if_neg (notC (r := R = 2) (by omega)), if_pos (show pB (s ∈ e.studs) = true ∧ pB (s ∈ f.studs) = true ∧ R = 3 from ⟨pB_t (by assumption), pB_t (by assumption), by omega⟩), if_neg (notC (r := R = 4) (by omega))])
          | (rw [if_neg (notC (r := R = 2) (by omega)), if_neg (notC (r := R = 3) (by omega)), if_pos (show pB (s ∈ e.studs) = true ∧ pB (s ∈ f.studs) = true ∧ R = 4 from ⟨pB_t (by assumption), pB_t (by assumption), by omega⟩)])
          | (rw [if_neg (notC (r := R = 2) (by omega)), if_neg (notC (r := R = 3) (by omega)), if_neg (notC (r := R = 4) (by omega))])
          exact back [0, 1, 2] rfl rfl (by repeat' (first | exact trivial | exact rfl | exact ren_get rfl | refine kept_ob rfl ?_ | exact ⟨_, rfl, ALe.refl⟩ | refine And.intro ?_ ?_)) (by repeat' (first | exact trivial | exact rfl | exact ren_get rfl | refine kept_ob rfl ?_ | exact ⟨_, rfl, ALe.refl⟩ | refine And.intro ?_ ?_))
      · obtain rfl : k = A.length := by omega
        repeat' (first | (refine fv_sl ?_) | (refine fh_ob ?_) | refine o1 ?_ | refine o2 ?_ | refine k1 ?_ | refine k2 ?_ | refine k3 ?_ | refine k4 ?_ | refine k6 ?_ | refine k7 ?_ | refine k8 ?_ | refine And.intro ?_ ?_ | exact trivial | refine o3 ?_ | refine o4 ?_ | refine o5 ?_ | refine o6 ?_ | refine k5 ?_ | (intro h; first | exact Bool.noConfusion h | exact nz _ h | exact nl h | (simp at h; done) | (simp at h; first | (exfalso; omega) | skip) | skip) | (change retOk _ _ _ _; refine ret_pure rfl trivial ?_) | exact (rfl : allOne _ = true) | (refine (?_ : (0 : Int) ≤ _); omega) | (refine (?_ : _ ≠ _); omega) | (refine (?_ : srcLen _ = rowsLen _); rfl) | exact Nat.le_of_ble_eq_true rfl | exact (by kernel_rfl : drawOk _ _ = true) | refine eqv_len_map ?_ | refine eqv_size ?_ | refine eqv_put (eqv_ck ?_) | refine eqv_zero ?_ | refine eqv_wrap (by omega) (by omega) ?_ | refine eqv_u64 (by omega) (by omega) ?_ | refine eqv_u8 (by omega) (by omega) ?_ | refine eqv_to _ (set_map rfl rfl) ?_ | refine ⟨_, _, (by first | rfl | assumption), at_map (by assumption), ?_⟩ | refine ⟨_, _, (by first | rfl | assumption), (by assumption), ?_⟩ | refine ⟨_, at_map (by assumption), (by decide), ?_⟩ | refine ⟨_, at_map (by assumption), ?_⟩ | (refine (?_ : _ ≤ 140737488355328); simp [rowsLen] <;> omega) | (refine (?_ : _ ≤ 9223372036854775807); simp [rowsLen] <;> omega) | (refine (?_ : _ = rowsLen _); simp [rowsLen] <;> omega) | refine eqv_to _ (app_row rfl) (eqv_to _ app_len ?_) | refine eqv_to _ (app_first rfl) (eqv_to 1 rfl ?_) | refine idx_sl (at_map (by assumption)) (by omega) ?_ | refine idx_ms _ (by first | rfl | assumption) (by first | assumption | omega) ?_ | fail)
        refine ⟨i + 1, hil, by omega, ?_⟩
        rw [q2, q3, q4, ← hat]
        exact back [0, 1, 2] rfl rfl (by repeat' (first | exact trivial | exact rfl | exact ren_get rfl | refine kept_ob rfl ?_ | exact ⟨_, rfl, ALe.refl⟩ | refine And.intro ?_ ?_)) (by repeat' (first | exact trivial | exact rfl | exact ren_get rfl | refine kept_ob rfl ?_ | exact ⟨_, rfl, ALe.refl⟩ | refine And.intro ?_ ?_))
    · obtain rfl : i = A.length := by omega
      rw [hat, hoa, hoa, hoa]
      repeat' (first | (refine fv_sl ?_) | (refine fh_ob ?_) | ((refine o_app rfl rfl rfl rfl rfl rfl rfl rfl rfl rfl rfl (by rw [List.length_map]; omega) (by rw [List.length_map]; omega) ?_)) | refine o1 ?_ | refine o2 ?_ | refine k1 ?_ | refine k2 ?_ | refine k3 ?_ | refine k4 ?_ | refine k6 ?_ | refine k7 ?_ | refine k8 ?_ | refine And.intro ?_ ?_ | exact trivial | refine o3 ?_ | refine o4 ?_ | refine o5 ?_ | refine o6 ?_ | refine k5 ?_ | (intro h; first | exact Bool.noConfusion h | exact nz _ h | exact nl h | (simp at h; done) | (simp at h; first | (exfalso; omega) | skip) | skip) | (change retOk _ _ _ _; refine ret_pure rfl trivial ?_) | exact (rfl : allOne _ = true) | (refine (?_ : (0 : Int) ≤ _); omega) | (refine (?_ : _ ≠ _); omega) | (refine (?_ : srcLen _ = rowsLen _); rfl) | exact Nat.le_of_ble_eq_true rfl | exact (by kernel_rfl : drawOk _ _ = true) | refine eqv_len_map ?_ | refine eqv_size ?_ | refine eqv_put (eqv_ck ?_) | refine eqv_zero ?_ | refine eqv_wrap (by omega) (by omega) ?_ | refine eqv_u64 (by omega) (by omega) ?_ | refine eqv_u8 (by omega) (by omega) ?_ | refine eqv_to _ (set_map rfl rfl) ?_ | refine ⟨_, _, (by first | rfl | assumption), at_map (by assumption), ?_⟩ | refine ⟨_, _, (by first | rfl | assumption), (by assumption), ?_⟩ | refine ⟨_, at_map (by assumption), (by decide), ?_⟩ | refine ⟨_, at_map (by assumption), ?_⟩ | (refine (?_ : _ ≤ 140737488355328); simp [rowsLen] <;> omega) | (refine (?_ : _ ≤ 9223372036854775807); simp [rowsLen] <;> omega) | (refine (?_ : _ = rowsLen _); simp [rowsLen] <;> omega) | refine eqv_to _ (app_row rfl) (eqv_to _ app_len ?_) | refine eqv_to _ (app_first rfl) (eqv_to 1 rfl ?_) | refine idx_sl (at_map (by assumption)) (by omega) ?_ | refine idx_ms _ (by first | rfl | assumption) (by first | assumption | omega) ?_ | fail)
      refine ⟨n + 1, hnl2, by omega, ?_⟩
      rw [hts, map_snoc, sl_app, ob_app]
      exact back [0, 4] rfl rfl (by repeat' (first | exact trivial | exact rfl | exact ren_get rfl | refine kept_ob rfl ?_ | exact ⟨_, rfl, ALe.refl⟩ | refine And.intro ?_ ?_)) (by repeat' (first | exact trivial | exact rfl | exact ren_get rfl | refine kept_ob rfl ?_ | exact ⟨_, rfl, ALe.refl⟩ | refine And.intro ?_ ?_))
  · obtain rfl : n = NS.length := by omega
    rw [List.take_length]
    repeat' (first | (refine fv_sl ?_) | (refine fh_ob ?_) | refine o1 ?_ | refine o2 ?_ | refine k1 ?_ | refine k2 ?_ | refine k3 ?_ | refine k4 ?_ | refine k6 ?_ | refine k7 ?_ | refine k8 ?_ | refine And.intro ?_ ?_ | exact trivial | refine o3 ?_ | refine o4 ?_ | refine o5 ?_ | refine o6 ?_ | refine k5 ?_ | (intro h; first | exact Bool.noConfusion h | exact nz _ h | exact nl h | (simp at h; done) | (simp at h; first | (exfalso; omega) | skip) | skip) | (change retOk _ _ _ _; refine ret_pure rfl trivial ?_) | exact (rfl : allOne _ = true) | (refine (?_ : (0 : Int) ≤ _); omega) | (refine (?_ : _ ≠ _); omega) | (refine (?_ : srcLen _ = rowsLen _); rfl) | exact Nat.le_of_ble_eq_true rfl | exact (by kernel_rfl : drawOk _ _ = true) | refine eqv_len_map ?_ | refine eqv_size ?_ | refine eqv_put (eqv_ck ?_) | refine eqv_zero ?_ | refine eqv_wrap (by omega) (by omega) ?_ | refine eqv_u64 (by omega) (by omega) ?_ | refine eqv_u8 (by omega) (by omega) ?_ | refine eqv_to _ (set_map rfl rfl) ?_ | refine ⟨_, _, (by first | rfl | assumption), at_map (by assumption), ?_⟩ | refine ⟨_, _, (by first | rfl | assumption), (by assumption), ?_⟩ | refine ⟨_, at_map (by assumption), (by decide), ?_⟩ | refine ⟨_, at_map (by assumption), ?_⟩ | (refine (?_ : _ ≤ 140737488355328); simp [rowsLen] <;> omega) | (refine (?_ : _ ≤ 9223372036854775807); simp [rowsLen] <;> omega) | (refine (?_ : _ = rowsLen _); simp [rowsLen] <;> omega) | refine eqv_to _ (app_row rfl) (eqv_to _ app_len ?_) | refine eqv_to _ (app_first rfl) (eqv_to 1 rfl ?_) | refine idx_sl (at_map (by assumption)) (by omega) ?_ | refine idx_ms _ (by first | rfl | assumption) (by first | assumption | omega) ?_ | fail)
    exact ret_sl2 (id := 1) (ty := 88) rfl rfl
end Go.Proofs.YtpnghlibmpainaaGreat.Cw

/-
  The law on strains.
-/
namespace Go.Proofs.YtpnghlibmpainaaGreat.Cw
open Go Go.Cw Go.Proofs
set_option linter.unusedVariables false
set_option maxRecDepth 100000
set_option maxHeartbeats 8000000

theorem c_strains (x : Exams) (l : List Placed) (hl : l.length ≤ 100000) (h6 : x.exams.length ≤ 6) : PCall Tryz.prog 30 [ag x.cells, .pv (.sl 5 (l.map Placed.row))] (fun r => r = strainsA x l) := by
  by_cases h : examsE x = 0 ∧ l.length = x.exams.length
  · exact (c_strains0 x l h.1 h.2 h6).weak fun r h => ⟨_, h.le, rfl⟩
  · exact (c_strains1 x l h hl (by omega)).weak fun r h => ⟨_, h.le, rfl⟩
theorem c_rstrains (x : Exams) (l : List Placed) (hl : l.length ≤ 100000) (h6 : x.exams.length ≤ 6) : PCall Tryz.prog 31 [ag x.cells, .pv (.sl 5 (l.map Placed.row))] (fun r => r = strainsA x l) := by
  by_cases h : examsE x = 0 ∧ l.length = x.exams.length
  · exact (c_rstrains0 x l h.1 h.2 h6).weak fun r h => ⟨_, h.le, rfl⟩
  · exact (c_rstrains1 x l h hl (by omega)).weak fun r h => ⟨_, h.le, rfl⟩
theorem strainsV_len {x : Exams} {l : List Placed} (h6 : x.exams.length ≤ 6) : ∃ NS : List Str, strainsV x l = NS.map (strainR x (atS x l)) ∧ NS.length ≤ 10000 := by
  unfold strainsV
  by_cases h : strainsE x l = 0
  · rw [if_pos h]
    have h0 : examsE x = 0 := by
      apply Classical.byContradiction
      intro h0
      unfold strainsE at h
      rw [if_pos h0] at h
      exact h0 h
    refine ⟨namesX x, rfl, ?_⟩
    have h1 := compactS_len (sortS (allS x x.exams.length))
    have h2 := allS_len h0 (i := x.exams.length)
    rw [sortS_len] at h1
    unfold namesX
    omega
  · rw [if_neg h]; exact ⟨[], rfl, Nat.zero_le _⟩
theorem c_sameStrains (x : Exams) (a : List Nat) (NS : List Str) (hl : NS.length ≤ 10000) : PCall Tryz.prog 32 [.pv (.sl 4 (NS.map (strainR x a))), .pv (.sl 4 (NS.map (strainR x a)))] (fun r => r = vbool true) := by
  refine acall_of tok mixed 26 rfl (fn := Tryz.f32) (c := Tryz.f32.body.getD .skip) (by kernel_rfl) (by kernel_rfl) (by kernel_rfl) rfl 0 rfl ?_
  repeat' (first | refine o1 ?_ | refine o2 ?_ | refine k1 ?_ | refine k2 ?_ | refine k3 ?_ | refine k4 ?_ | refine k6 ?_ | refine k7 ?_ | refine k8 ?_ | refine And.intro ?_ ?_ | exact trivial | refine o3 ?_ | refine o4 ?_ | refine o5 ?_ | refine o6 ?_ | refine k5 ?_ | (intro h; first | exact Bool.noConfusion h | exact nz _ h | exact nl h | (simp at h; done) | (simp at h; first | (exfalso; omega) | skip) | skip) | (change retOk _ _ _ _; refine ret_pure rfl trivial ?_) | exact (rfl : allOne _ = true) | (refine (?_ : (0 : Int) ≤ _); omega) | (refine (?_ : _ ≠ _); omega) | (refine (?_ : srcLen _ = rowsLen _); rfl) | exact Nat.le_of_ble_eq_true rfl | exact (by kernel_rfl : drawOk _ _ = true) | refine eqv_len_map ?_ | refine eqv_size ?_ | refine eqv_put (eqv_ck ?_) | refine eqv_zero ?_ | refine eqv_wrap (by omega) (by omega) ?_ | refine eqv_u64 (by omega) (by omega) ?_ | refine eqv_u8 (by omega) (by omega) ?_ | refine eqv_to _ (set_map rfl rfl) ?_ | refine ⟨_, _, (by first | rfl | assumption), at_map (by assumption), ?_⟩ | refine ⟨_, _, (by first | rfl | assumption), (by assumption), ?_⟩ | refine ⟨_, at_map (by assumption), (by decide), ?_⟩ | refine ⟨_, at_map (by assumption), ?_⟩ | (refine (?_ : _ ≤ 140737488355328); simp [rowsLen] <;> omega) | (refine (?_ : _ ≤ 9223372036854775807); simp [rowsLen] <;> omega) | (refine (?_ : _ = rowsLen _); simp [rowsLen] <;> omega) | refine eqv_to _ (app_row rfl) (eqv_to _ app_len ?_) | refine eqv_to _ (app_first rfl) (eqv_to 1 rfl ?_) | refine idx_sl (at_map (by assumption)) (by omega) ?_ | refine idx_ms _ (by first | rfl | assumption) (by first | assumption | omega) ?_ | fail)
  refine loop_at (fun i : Nat => [(5, vint .i64 i)]) (fun _ => []) (fun i => i ≤ NS.length) (fun i => NS.length - i) 0 (Nat.zero_le _) (by repeat' (first | exact trivial | exact rfl | exact ⟨_, rfl, ALe.refl⟩ | refine And.intro ?_ ?_)) (by repeat' (first | exact trivial | exact rfl | exact ⟨_, rfl, ALe.refl⟩ | refine And.intro ?_ ?_)) ?_
  intro i hi
  rcases Nat.lt_or_ge i NS.length with hlt | hge
  · obtain ⟨q, hq⟩ := getE hlt
    repeat' (first | refine o1 ?_ | refine o2 ?_ | refine k1 ?_ | refine k2 ?_ | refine k3 ?_ | refine k4 ?_ | refine k6 ?_ | refine k7 ?_ | refine k8 ?_ | refine And.intro ?_ ?_ | exact trivial | refine o3 ?_ | refine o4 ?_ | refine o5 ?_ | refine o6 ?_ | refine k5 ?_ | (intro h; first | exact Bool.noConfusion h | exact nz _ h | exact nl h | (simp at h; done) | (simp at h; first | (exfalso; omega) | skip) | skip) | (change retOk _ _ _ _; refine ret_pure rfl trivial ?_) | exact (rfl : allOne _ = true) | (refine (?_ : (0 : Int) ≤ _); omega) | (refine (?_ : _ ≠ _); omega) | (refine (?_ : srcLen _ = rowsLen _); rfl) | exact Nat.le_of_ble_eq_true rfl | exact (by kernel_rfl : drawOk _ _ = true) | refine eqv_len_map ?_ | refine eqv_size ?_ | refine eqv_put (eqv_ck ?_) | refine eqv_zero ?_ | refine eqv_wrap (by omega) (by omega) ?_ | refine eqv_u64 (by omega) (by omega) ?_ | refine eqv_u8 (by omega) (by omega) ?_ | refine eqv_to _ (set_map rfl rfl) ?_ | refine ⟨_, _, (by first | rfl | assumption), at_map (by assumption), ?_⟩ | refine ⟨_, _, (by first | rfl | assumption), (by assumption), ?_⟩ | refine ⟨_, at_map (by assumption), (by decide), ?_⟩ | refine ⟨_, at_map (by assumption), ?_⟩ | (refine (?_ : _ ≤ 140737488355328); simp [rowsLen] <;> omega) | (refine (?_ : _ ≤ 9223372036854775807); simp [rowsLen] <;> omega) | (refine (?_ : _ = rowsLen _); simp [rowsLen] <;> omega) | refine eqv_to _ (app_row rfl) (eqv_to _ app_len ?_) | refine eqv_to _ (app_first rfl) (eqv_to 1 rfl ?_) | refine idx_sl (at_map (by assumption)) (by omega) ?_ | refine idx_ms _ (by first | rfl | assumption) (by first | assumption | omega) ?_ | fail)
    all_goals first
      | exact ⟨i + 1, hlt, by omega, back [] rfl rfl trivial (by repeat' (first | exact trivial | exact rfl | exact ⟨_, rfl, ALe.refl⟩ | refine And.intro ?_ ?_))⟩
      | (exfalso; exact sEq_f.1 (by assumption : sEq q q = false) rfl)
  · repeat' (first | refine o1 ?_ | refine o2 ?_ | refine k1 ?_ | refine k2 ?_ | refine k3 ?_ | refine k4 ?_ | refine k6 ?_ | refine k7 ?_ | refine k8 ?_ | refine And.intro ?_ ?_ | exact trivial | refine o3 ?_ | refine o4 ?_ | refine o5 ?_ | refine o6 ?_ | refine k5 ?_ | (intro h; first | exact Bool.noConfusion h | exact nz _ h | exact nl h | (simp at h; done) | (simp at h; first | (exfalso; omega) | skip) | skip) | (change retOk _ _ _ _; refine ret_pure rfl trivial ?_) | exact (rfl : allOne _ = true) | (refine (?_ : (0 : Int) ≤ _); omega) | (refine (?_ : _ ≠ _); omega) | (refine (?_ : srcLen _ = rowsLen _); rfl) | exact Nat.le_of_ble_eq_true rfl | exact (by kernel_rfl : drawOk _ _ = true) | refine eqv_len_map ?_ | refine eqv_size ?_ | refine eqv_put (eqv_ck ?_) | refine eqv_zero ?_ | refine eqv_wrap (by omega) (by omega) ?_ | refine eqv_u64 (by omega) (by omega) ?_ | refine eqv_u8 (by omega) (by omega) ?_ | refine eqv_to _ (set_map rfl rfl) ?_ | refine ⟨_, _, (by first | rfl | assumption), at_map (by assumption), ?_⟩ | refine ⟨_, _, (by first | rfl | assumption), (by assumption), ?_⟩ | refine ⟨_, at_map (by assumption), (by decide), ?_⟩ | refine ⟨_, at_map (by assumption), ?_⟩ | (refine (?_ : _ ≤ 140737488355328); simp [rowsLen] <;> omega) | (refine (?_ : _ ≤ 9223372036854775807); simp [rowsLen] <;> omega) | (refine (?_ : _ = rowsLen _); simp [rowsLen] <;> omega) | refine eqv_to _ (app_row rfl) (eqv_to _ app_len ?_) | refine eqv_to _ (app_first rfl) (eqv_to 1 rfl ?_) | refine idx_sl (at_map (by assumption)) (by omega) ?_ | refine idx_ms _ (by first | rfl | assumption) (by first | assumption | omega) ?_ | fail)
    rfl
theorem c_examsstrains (t : List Int) (raw : List Placed) : PCall Tryz.prog 6 [.pv (encInts t), .pv (.sl 5 (raw.map Placed.row))] (fun r => r = vbool true) := by
  refine acall_of tok mixed 142 rfl (fn := Tryz.f6) (c := Tryz.f6.body.getD .skip) (by kernel_rfl) (by kernel_rfl) (by kernel_rfl) rfl 0 rfl ?_
  repeat' (first | ((change vcFun _ _ _ _ _; refine call_new [.pv (encInts t)] rfl (c_roll t) (fun _ _ => rfl) ?_)) | ((change vcFun _ _ _ _ _; refine call_some 0 rfl (by assumption) (Nat.zero_le _) ?_; intro x ky hky hy1 hy2)) | ((change vcFun _ _ _ _ _; refine call_frz rfl (by repeat' (first | trivial | refine And.intro ?_ ?_ | (show 0 + _ ≤ List.length _; simp))) ALeL.refl (c_rbuild x hy1) ?_; rintro _ rfl)) | refine o1 ?_ | refine o2 ?_ | refine k1 ?_ | refine k2 ?_ | refine k3 ?_ | refine k4 ?_ | refine k6 ?_ | refine k7 ?_ | refine k8 ?_ | refine And.intro ?_ ?_ | exact trivial | refine o3 ?_ | refine o4 ?_ | refine o5 ?_ | refine o6 ?_ | refine k5 ?_ | (intro h; first | exact Bool.noConfusion h | exact nz _ h | exact nl h | (simp at h; done) | (simp at h; first | (exfalso; omega) | skip) | skip) | (change retOk _ _ _ _; refine ret_pure rfl trivial ?_) | exact (rfl : allOne _ = true) | (refine (?_ : (0 : Int) ≤ _); omega) | (refine (?_ : _ ≠ _); omega) | (refine (?_ : srcLen _ = rowsLen _); rfl) | exact Nat.le_of_ble_eq_true rfl | exact (by kernel_rfl : drawOk _ _ = true) | refine eqv_len_map ?_ | refine eqv_size ?_ | refine eqv_put (eqv_ck ?_) | refine eqv_zero ?_ | refine eqv_wrap (by omega) (by omega) ?_ | refine eqv_u64 (by omega) (by omega) ?_ | refine eqv_u8 (by omega) (by omega) ?_ | refine eqv_to _ (set_map rfl rfl) ?_ | refine ⟨_, _, (by first | rfl | assumption), at_map (by assumption), ?_⟩ | refine ⟨_, _, (by first | rfl | assumption), (by assumption), ?_⟩ | refine ⟨_, at_map (by assumption), (by decide), ?_⟩ | refine ⟨_, at_map (by assumption), ?_⟩ | (refine (?_ : _ ≤ 140737488355328); simp [rowsLen] <;> omega) | (refine (?_ : _ ≤ 9223372036854775807); simp [rowsLen] <;> omega) | (refine (?_ : _ = rowsLen _); simp [rowsLen] <;> omega) | refine eqv_to _ (app_row rfl) (eqv_to _ app_len ?_) | refine eqv_to _ (app_first rfl) (eqv_to 1 rfl ?_) | refine idx_sl (at_map (by assumption)) (by omega) ?_ | refine idx_ms _ (by first | rfl | assumption) (by first | assumption | omega) ?_ | (change vcFun _ _ _ _ _; refine call_eq rfl (by repeat' (first | trivial | refine And.intro ?_ ?_ | (show 0 + _ ≤ List.length _; simp))) ALeL.refl (c_light t) rfl ?_) | (change vcFun _ _ _ _ _; refine call_eq rfl (by repeat' (first | trivial | refine And.intro ?_ ?_ | (show 0 + _ ≤ List.length _; simp))) ALeL.refl (awake_ok) rfl ?_) | (change vcFunD _ _ _ _ _; refine callD_eq rfl (by repeat' (first | trivial | refine And.intro ?_ ?_ | (show 0 + _ ≤ List.length _; simp))) ALeL.refl (awake_ok) rfl ?_) | fail)
  all_goals first
    | rfl
    | skip
  have hcl := (build_laid hy1).2.cls
  have hco := (build_laid hy1).2.opt
  have hx := hy1
  generalize buildM x = M at *
  generalize buildE x = E at *
  refine loop_for (fun X : Nat × Nat × List Placed => [(1, .pv (.sl 5 (raw.map Placed.row))), (5, .ptr 0 2 0 0), (6, .ptr 1 8 0 0), (7, .ptr 2 4 0 0), (9, slP 3 5 (X.2.2.map Placed.row)), (10, vint .i64 X.1)])
    (fun X => [dice t X.2.1, some ⟨33, 8, false, .box (pvs x.cells)⟩, some ⟨51, 4, false, .box (pvs M.cells)⟩, obP 66 5 (X.2.2.map Placed.row)])
    (fun X => X.1 ≤ M.classes.length ∧ X.2.1 ≤ t.length ∧ X.2.2.length ≤ X.1) (fun X => M.classes.length - X.1) (0, ky, []) ⟨Nat.zero_le _, hky, Nat.zero_le _⟩ ?_ ?_
  · exact back [0, 1, 2, 3] rfl rfl (by repeat' (first | exact trivial | exact rfl | exact ren_get rfl | refine kept_ob rfl ?_ | exact ⟨_, rfl, ALe.refl⟩ | refine And.intro ?_ ?_)) (by repeat' (first | exact trivial | exact rfl | exact ren_get rfl | refine kept_ob rfl ?_ | exact ⟨_, rfl, ALe.refl⟩ | refine And.intro ?_ ?_))
  rintro ⟨i, k, P⟩ ⟨hi, hk, hP⟩
  dsimp only at hi hk hP ⊢
  rcases Nat.lt_or_ge i M.classes.length with hlt | hge
  · obtain ⟨c, hc⟩ := getE hlt
    have hcc := hco c (List.mem_of_getElem? hc)
    repeat' (first | (refine fv_sl ?_) | (refine fh_ob ?_) | ((change vcFunD _ _ _ _ _; refine callD_next 0 rfl (by assumption) (by assumption) (by omega) (by omega) ?_; intro v kq hv1 hv2 hkq; obtain ⟨kd, rfl⟩ := Int.eq_ofNat_of_zero_le hv1; obtain ⟨o, ho⟩ := getE (show kd < c.length by omega))) | (refine idx_sl (k := i) (at_map hc) (by omega) ?_) | (refine ⟨kd, at_map ho, ?_⟩) | ((refine o_appD rfl rfl rfl rfl rfl rfl rfl rfl rfl rfl rfl (by rw [List.length_map]; omega) (by rw [List.length_map]; omega) ?_)) | refine o1 ?_ | refine o2 ?_ | refine k1 ?_ | refine k2 ?_ | refine k3 ?_ | refine k4 ?_ | refine k6 ?_ | refine k7 ?_ | refine k8 ?_ | refine And.intro ?_ ?_ | exact trivial | refine o3 ?_ | refine o4 ?_ | refine o5 ?_ | refine o6 ?_ | refine k5 ?_ | (intro h; first | exact Bool.noConfusion h | exact nz _ h | exact nl h | (simp at h; done) | (simp at h; first | (exfalso; omega) | skip) | skip) | (change retOk _ _ _ _; refine ret_pure rfl trivial ?_) | exact (rfl : allOne _ = true) | (refine (?_ : (0 : Int) ≤ _); omega) | (refine (?_ : _ ≠ _); omega) | (refine (?_ : srcLen _ = rowsLen _); rfl) | exact Nat.le_of_ble_eq_true rfl | exact (by kernel_rfl : drawOk _ _ = true) | refine eqv_len_map ?_ | refine eqv_size ?_ | refine eqv_put (eqv_ck ?_) | refine eqv_zero ?_ | refine eqv_wrap (by omega) (by omega) ?_ | refine eqv_u64 (by omega) (by omega) ?_ | refine eqv_u8 (by omega) (by omega) ?_ | refine eqv_to _ (set_map rfl rfl) ?_ | refine ⟨_, _, (by first | rfl | assumption), at_map (by assumption), ?_⟩ | refine ⟨_, _, (by first | rfl | assumption), (by assumption), ?_⟩ | refine ⟨_, at_map (by assumption), (by decide), ?_⟩ | refine ⟨_, at_map (by assumption), ?_⟩ | (refine (?_ : _ ≤ 140737488355328); simp [rowsLen] <;> omega) | (refine (?_ : _ ≤ 9223372036854775807); simp [rowsLen] <;> omega) | (refine (?_ : _ = rowsLen _); simp [rowsLen] <;> omega) | refine eqv_to _ (app_row rfl) (eqv_to _ app_len ?_) | refine eqv_to _ (app_first rfl) (eqv_to 1 rfl ?_) | refine idx_sl (at_map (by assumption)) (by omega) ?_ | refine idx_ms _ (by first | rfl | assumption) (by first | assumption | omega) ?_ | fail)
    rotate_left 2
    · exact ⟨(i + 1, k, P), ⟨hlt, hk, by dsimp only; omega⟩, by dsimp only; omega, back [0, 1, 2, 3] rfl rfl (by repeat' (first | exact trivial | exact rfl | exact ren_get rfl | refine kept_ob rfl ?_ | exact ⟨_, rfl, ALe.refl⟩ | refine And.intro ?_ ?_)) (by repeat' (first | exact trivial | exact rfl | exact ren_get rfl | refine kept_ob rfl ?_ | exact ⟨_, rfl, ALe.refl⟩ | refine And.intro ?_ ?_))⟩
    all_goals
      refine ⟨(i + 1, kq, P ++ [o.place]), ⟨hlt, hkq, by rw [List.length_append]; simp; omega⟩, by dsimp only; omega, ?_⟩
      dsimp only
      rw [map_snoc, sl_app, ob_app]
      exact back [0, 1, 2, 5] rfl rfl (by repeat' (first | exact trivial | exact rfl | exact ren_get rfl | refine kept_ob rfl ?_ | exact ⟨_, rfl, ALe.refl⟩ | refine And.intro ?_ ?_)) (by repeat' (first | exact trivial | exact rfl | exact ren_get rfl | refine kept_ob rfl ?_ | exact ⟨_, rfl, ALe.refl⟩ | refine And.intro ?_ ?_))
  obtain rfl : i = M.classes.length := by omega
  repeat' (first | (refine fv_sl ?_) | (refine fh_ob ?_) | refine o1 ?_ | refine o2 ?_ | refine k1 ?_ | refine k2 ?_ | refine k3 ?_ | refine k4 ?_ | refine k6 ?_ | refine k7 ?_ | refine k8 ?_ | refine And.intro ?_ ?_ | exact trivial | refine o3 ?_ | refine o4 ?_ | refine o5 ?_ | refine o6 ?_ | refine k5 ?_ | (intro h; first | exact Bool.noConfusion h | exact nz _ h | exact nl h | (simp at h; done) | (simp at h; first | (exfalso; omega) | skip) | skip) | (change retOk _ _ _ _; refine ret_pure rfl trivial ?_) | exact (rfl : allOne _ = true) | (refine (?_ : (0 : Int) ≤ _); omega) | (refine (?_ : _ ≠ _); omega) | (refine (?_ : srcLen _ = rowsLen _); rfl) | exact Nat.le_of_ble_eq_true rfl | exact (by kernel_rfl : drawOk _ _ = true) | refine eqv_len_map ?_ | refine eqv_size ?_ | refine eqv_put (eqv_ck ?_) | refine eqv_zero ?_ | refine eqv_wrap (by omega) (by omega) ?_ | refine eqv_u64 (by omega) (by omega) ?_ | refine eqv_u8 (by omega) (by omega) ?_ | refine eqv_to _ (set_map rfl rfl) ?_ | refine ⟨_, _, (by first | rfl | assumption), at_map (by assumption), ?_⟩ | refine ⟨_, _, (by first | rfl | assumption), (by assumption), ?_⟩ | refine ⟨_, at_map (by assumption), (by decide), ?_⟩ | refine ⟨_, at_map (by assumption), ?_⟩ | (refine (?_ : _ ≤ 140737488355328); simp [rowsLen] <;> omega) | (refine (?_ : _ ≤ 9223372036854775807); simp [rowsLen] <;> omega) | (refine (?_ : _ = rowsLen _); simp [rowsLen] <;> omega) | refine eqv_to _ (app_row rfl) (eqv_to _ app_len ?_) | refine eqv_to _ (app_first rfl) (eqv_to 1 rfl ?_) | refine idx_sl (at_map (by assumption)) (by omega) ?_ | refine idx_ms _ (by first | rfl | assumption) (by first | assumption | omega) ?_ | fail)
  refine loop_for (fun i : Nat => [(1, .pv (.sl 5 (raw.map Placed.row))), (6, .ptr 0 8 0 0), (9, slP 1 5 (P.map Placed.row)), (12, vint .i64 i)])
    (fun i => [some ⟨33, 8, false, .box (pvs x.cells)⟩, obP 66 5 (P.map Placed.row)]) (fun i => i ≤ raw.length) (fun i => raw.length - i) 0 (Nat.zero_le _) ?_ ?_
  · exact back [1, 3] rfl rfl (by repeat' (first | exact trivial | exact rfl | exact ren_get rfl | refine kept_ob rfl ?_ | exact ⟨_, rfl, ALe.refl⟩ | refine And.intro ?_ ?_)) (by repeat' (first | exact trivial | exact rfl | exact ren_get rfl | refine kept_ob rfl ?_ | exact ⟨_, rfl, ALe.refl⟩ | refine And.intro ?_ ?_))
  intro i hi2
  rcases Nat.lt_or_ge i raw.length with hlt2 | hge2
  · obtain ⟨p, hp⟩ := getE hlt2
    have hw1 := c_Where x p
    have hw2 := c_rWhere x p (by omega)
    have hpr : (raw.map Placed.row)[i]? = some p.row := by rw [List.getElem?_map, hp]; rfl
    unfold whereA at hw1 hw2
    generalize (if pB (whereP x p) = true then sitW x p.time else 0) = w1 at *
    generalize (if pB (whereP x p) = true then p.room else 0) = w2 at *
    generalize pB (whereP x p) = w3 at *
    repeat' (first | (refine fv_sl ?_) | (refine fh_ob ?_) | refine o1 ?_ | refine o2 ?_ | refine k1 ?_ | refine k2 ?_ | refine k3 ?_ | refine k4 ?_ | refine k6 ?_ | refine k7 ?_ | refine k8 ?_ | refine And.intro ?_ ?_ | exact trivial | refine o3 ?_ | refine o4 ?_ | refine o5 ?_ | refine o6 ?_ | refine k5 ?_ | (intro h; first | exact Bool.noConfusion h | exact nz _ h | exact nl h | (simp at h; done) | (simp at h; first | (exfalso; omega) | skip) | skip) | (change retOk _ _ _ _; refine ret_pure rfl trivial ?_) | exact (rfl : allOne _ = true) | (refine (?_ : (0 : Int) ≤ _); omega) | (refine (?_ : _ ≠ _); omega) | (refine (?_ : srcLen _ = rowsLen _); rfl) | exact Nat.le_of_ble_eq_true rfl | exact (by kernel_rfl : drawOk _ _ = true) | refine eqv_len_map ?_ | refine eqv_size ?_ | refine eqv_put (eqv_ck ?_) | refine eqv_zero ?_ | refine eqv_wrap (by omega) (by omega) ?_ | refine eqv_u64 (by omega) (by omega) ?_ | refine eqv_u8 (by omega) (by omega) ?_ | refine eqv_to _ (set_map rfl rfl) ?_ | refine ⟨_, _, (by first | rfl | assumption), at_map (by assumption), ?_⟩ | refine ⟨_, _, (by first | rfl | assumption), (by assumption), ?_⟩ | refine ⟨_, at_map (by assumption), (by decide), ?_⟩ | refine ⟨_, at_map (by assumption), ?_⟩ | (refine (?_ : _ ≤ 140737488355328); simp [rowsLen] <;> omega) | (refine (?_ : _ ≤ 9223372036854775807); simp [rowsLen] <;> omega) | (refine (?_ : _ = rowsLen _); simp [rowsLen] <;> omega) | refine eqv_to _ (app_row rfl) (eqv_to _ app_len ?_) | refine eqv_to _ (app_first rfl) (eqv_to 1 rfl ?_) | refine idx_sl (at_map (by assumption)) (by omega) ?_ | refine idx_ms _ (by first | rfl | assumption) (by first | assumption | omega) ?_ | (change vcFunD _ _ _ _ _; refine callD_eq rfl (by repeat' (first | trivial | refine And.intro ?_ ?_ | (show 0 + _ ≤ List.length _; simp))) ALeL.refl (hw1) rfl ?_) | (change vcFunD _ _ _ _ _; refine callD_eq rfl (by repeat' (first | trivial | refine And.intro ?_ ?_ | (show 0 + _ ≤ List.length _; simp))) ALeL.refl (hw2) rfl ?_) | fail)
    all_goals exact ⟨i + 1, hlt2, by omega, back [0, 1] rfl rfl (by repeat' (first | exact trivial | exact rfl | exact ren_get rfl | refine kept_ob rfl ?_ | exact ⟨_, rfl, ALe.refl⟩ | refine And.intro ?_ ?_)) (by repeat' (first | exact trivial | exact rfl | exact ren_get rfl | refine kept_ob rfl ?_ | exact ⟨_, rfl, ALe.refl⟩ | refine And.intro ?_ ?_))⟩
  obtain rfl : i = raw.length := by omega
  refine forceH_in ?_
  refine ghost_seq (Γ' := [(1, .pv (.sl 5 (raw.map Placed.row))), (6, .ptr 0 8 0 0), (9, .pv (.sl 5 (P.map Placed.row))), (12, vint .i64 raw.length)]) (H' := [some ⟨33, 8, false, .box (pvs x.cells)⟩]) (Ghost.sl (s := 9) (id := 1) rfl rfl fun H' hl hH => back [0] rfl rfl (And.intro (hH 0 (by decide)) trivial) (by repeat' (first | exact trivial | exact rfl | exact ren_get rfl | refine kept_ob rfl ?_ | exact ⟨_, rfl, ALe.refl⟩ | refine And.intro ?_ ?_))) ?_
  repeat' (first | refine o1 ?_ | refine o2 ?_ | refine k1 ?_ | refine k2 ?_ | refine k3 ?_ | refine k4 ?_ | refine k6 ?_ | refine k7 ?_ | refine k8 ?_ | refine And.intro ?_ ?_ | exact trivial | refine o3 ?_ | refine o4 ?_ | refine o5 ?_ | refine o6 ?_ | refine k5 ?_ | (intro h; first | exact Bool.noConfusion h | exact nz _ h | exact nl h | (simp at h; done) | (simp at h; first | (exfalso; omega) | skip) | skip) | (change retOk _ _ _ _; refine ret_pure rfl trivial ?_) | exact (rfl : allOne _ = true) | (refine (?_ : (0 : Int) ≤ _); omega) | (refine (?_ : _ ≠ _); omega) | (refine (?_ : srcLen _ = rowsLen _); rfl) | exact Nat.le_of_ble_eq_true rfl | exact (by kernel_rfl : drawOk _ _ = true) | refine eqv_len_map ?_ | refine eqv_size ?_ | refine eqv_put (eqv_ck ?_) | refine eqv_zero ?_ | refine eqv_wrap (by omega) (by omega) ?_ | refine eqv_u64 (by omega) (by omega) ?_ | refine eqv_u8 (by omega) (by omega) ?_ | refine eqv_to _ (set_map rfl rfl) ?_ | refine ⟨_, _, (by first | rfl | assumption), at_map (by assumption), ?_⟩ | refine ⟨_, _, (by first | rfl | assumption), (by assumption), ?_⟩ | refine ⟨_, at_map (by assumption), (by decide), ?_⟩ | refine ⟨_, at_map (by assumption), ?_⟩ | (refine (?_ : _ ≤ 140737488355328); simp [rowsLen] <;> omega) | (refine (?_ : _ ≤ 9223372036854775807); simp [rowsLen] <;> omega) | (refine (?_ : _ = rowsLen _); simp [rowsLen] <;> omega) | refine eqv_to _ (app_row rfl) (eqv_to _ app_len ?_) | refine eqv_to _ (app_first rfl) (eqv_to 1 rfl ?_) | refine idx_sl (at_map (by assumption)) (by omega) ?_ | refine idx_ms _ (by first | rfl | assumption) (by first | assumption | omega) ?_ | fail)
  refine loop_for (fun j : Nat => [(6, .ptr 0 8 0 0), (113, .ms 1 1 0 2), (114, vint .i64 2), (115, vint .i64 j)]) (fun j => [some ⟨33, 8, false, .box (pvs x.cells)⟩, some ⟨60, 1, false, .p [[.sl 5 (raw.map Placed.row)], [.sl 5 (P.map Placed.row)]]⟩]) (fun j => j ≤ 2) (fun j => 2 - j) 0 (Nat.zero_le _) ?_ ?_
  · exact back [0, 1] rfl rfl (by repeat' (first | exact trivial | exact rfl | exact ren_get rfl | refine kept_ob rfl ?_ | exact ⟨_, rfl, ALe.refl⟩ | refine And.intro ?_ ?_)) (by repeat' (first | exact trivial | exact rfl | exact ren_get rfl | refine kept_ob rfl ?_ | exact ⟨_, rfl, ALe.refl⟩ | refine And.intro ?_ ?_))
  intro j hj
  rcases Nat.lt_or_ge j 2 with hj2 | hj2
  · obtain ⟨z, hz, hzl⟩ : ∃ z : List Placed, [[PV.sl 5 (raw.map Placed.row)], [.sl 5 (P.map Placed.row)]][j]? = some [.sl 5 (z.map Placed.row)] ∧ z.length ≤ 100000 := by
      match j, hj2 with
      | 0, _ => exact ⟨raw, rfl, by omega⟩
      | 1, _ => exact ⟨P, rfl, by omega⟩
    have b1 := c_strains x z hzl hx
    have b2 := c_rstrains x z hzl hx
    obtain ⟨NS, e1, e2⟩ := strainsV_len (x := x) (l := z) hx
    have b3 := c_sameStrains x (atS x z) NS e2
    unfold strainsA at b1 b2
    rw [e1] at b1 b2
    generalize NS.map (strainR x (atS x z)) = RS at *
    generalize strainsE x z = SE at *
    repeat' (first | ((change vcFun _ _ _ _ _; refine call_frz rfl (by repeat' (first | trivial | refine And.intro ?_ ?_ | (show 0 + _ ≤ List.length _; simp))) ALeL.refl b1 ?_; rintro _ rfl)) | ((change vcFun _ _ _ _ _; refine call_frz rfl (by repeat' (first | trivial | refine And.intro ?_ ?_ | (show 0 + _ ≤ List.length _; simp))) ALeL.refl b2 ?_; rintro _ rfl)) | (refine idx_ms j rfl hj2 ?_) | (refine ⟨_, hz, ?_⟩) | refine o1 ?_ | refine o2 ?_ | refine k1 ?_ | refine k2 ?_ | refine k3 ?_ | refine k4 ?_ | refine k6 ?_ | refine k7 ?_ | refine k8 ?_ | refine And.intro ?_ ?_ | exact trivial | refine o3 ?_ | refine o4 ?_ | refine o5 ?_ | refine o6 ?_ | refine k5 ?_ | (intro h; first | exact Bool.noConfusion h | exact nz _ h | exact nl h | (simp at h; done) | (simp at h; first | (exfalso; omega) | skip) | skip) | (change retOk _ _ _ _; refine ret_pure rfl trivial ?_) | exact (rfl : allOne _ = true) | (refine (?_ : (0 : Int) ≤ _); omega) | (refine (?_ : _ ≠ _); omega) | (refine (?_ : srcLen _ = rowsLen _); rfl) | exact Nat.le_of_ble_eq_true rfl | exact (by kernel_rfl : drawOk _ _ = true) | refine eqv_len_map ?_ | refine eqv_size ?_ | refine eqv_put (eqv_ck ?_) | refine eqv_zero ?_ | refine eqv_wrap (by omega) (by omega) ?_ | refine eqv_u64 (by omega) (by omega) ?_ | refine eqv_u8 (by omega) (by omega) ?_ | refine eqv_to _ (set_map rfl rfl) ?_ | refine ⟨_, _, (by first | rfl | assumption), at_map (by assumption), ?_⟩ | refine ⟨_, _, (by first | rfl | assumption), (by assumption), ?_⟩ | refine ⟨_, at_map (by assumption), (by decide), ?_⟩ | refine ⟨_, at_map (by assumption), ?_⟩ | (refine (?_ : _ ≤ 140737488355328); simp [rowsLen] <;> omega) | (refine (?_ : _ ≤ 9223372036854775807); simp [rowsLen] <;> omega) | (refine (?_ : _ = rowsLen _); simp [rowsLen] <;> omega) | refine eqv_to _ (app_row rfl) (eqv_to _ app_len ?_) | refine eqv_to _ (app_first rfl) (eqv_to 1 rfl ?_) | refine idx_sl (at_map (by assumption)) (by omega) ?_ | refine idx_ms _ (by first | rfl | assumption) (by first | assumption | omega) ?_ | (change vcFun _ _ _ _ _; refine call_eq rfl (by repeat' (first | trivial | refine And.intro ?_ ?_ | (show 0 + _ ≤ List.length _; simp))) ALeL.refl (b3) rfl ?_) | (change vcFunD _ _ _ _ _; refine callD_eq rfl (by repeat' (first | trivial | refine And.intro ?_ ?_ | (show 0 + _ ≤ List.length _; simp))) ALeL.refl (b3) rfl ?_) | fail)
    all_goals exact ⟨j + 1, by omega, by omega, back [0, 1] rfl rfl (by repeat' (first | exact trivial | exact rfl | exact ren_get rfl | refine kept_ob rfl ?_ | exact ⟨_, rfl, ALe.refl⟩ | refine And.intro ?_ ?_)) (by repeat' (first | exact trivial | exact rfl | exact ren_get rfl | refine kept_ob rfl ?_ | exact ⟨_, rfl, ALe.refl⟩ | refine And.intro ?_ ?_))⟩
  · obtain rfl : j = 2 := by omega
    repeat' (first | refine o1 ?_ | refine o2 ?_ | refine k1 ?_ | refine k2 ?_ | refine k3 ?_ | refine k4 ?_ | refine k6 ?_ | refine k7 ?_ | refine k8 ?_ | refine And.intro ?_ ?_ | exact trivial | refine o3 ?_ | refine o4 ?_ | refine o5 ?_ | refine o6 ?_ | refine k5 ?_ | (intro h; first | exact Bool.noConfusion h | exact nz _ h | exact nl h | (simp at h; done) | (simp at h; first | (exfalso; omega) | skip) | skip) | (change retOk _ _ _ _; refine ret_pure rfl trivial ?_) | exact (rfl : allOne _ = true) | (refine (?_ : (0 : Int) ≤ _); omega) | (refine (?_ : _ ≠ _); omega) | (refine (?_ : srcLen _ = rowsLen _); rfl) | exact Nat.le_of_ble_eq_true rfl | exact (by kernel_rfl : drawOk _ _ = true) | refine eqv_len_map ?_ | refine eqv_size ?_ | refine eqv_put (eqv_ck ?_) | refine eqv_zero ?_ | refine eqv_wrap (by omega) (by omega) ?_ | refine eqv_u64 (by omega) (by omega) ?_ | refine eqv_u8 (by omega) (by omega) ?_ | refine eqv_to _ (set_map rfl rfl) ?_ | refine ⟨_, _, (by first | rfl | assumption), at_map (by assumption), ?_⟩ | refine ⟨_, _, (by first | rfl | assumption), (by assumption), ?_⟩ | refine ⟨_, at_map (by assumption), (by decide), ?_⟩ | refine ⟨_, at_map (by assumption), ?_⟩ | (refine (?_ : _ ≤ 140737488355328); simp [rowsLen] <;> omega) | (refine (?_ : _ ≤ 9223372036854775807); simp [rowsLen] <;> omega) | (refine (?_ : _ = rowsLen _); simp [rowsLen] <;> omega) | refine eqv_to _ (app_row rfl) (eqv_to _ app_len ?_) | refine eqv_to _ (app_first rfl) (eqv_to 1 rfl ?_) | refine idx_sl (at_map (by assumption)) (by omega) ?_ | refine idx_ms _ (by first | rfl | assumption) (by first | assumption | omega) ?_ | (change vcFun _ _ _ _ _; refine call_eq rfl (by repeat' (first | trivial | refine And.intro ?_ ?_ | (show 0 + _ ≤ List.length _; simp))) ALeL.refl (awake_ok) rfl ?_) | (change vcFunD _ _ _ _ _; refine callD_eq rfl (by repeat' (first | trivial | refine And.intro ?_ ?_ | (show 0 + _ ≤ List.length _; simp))) ALeL.refl (awake_ok) rfl ?_) | fail)
    rfl
end Go.Proofs.YtpnghlibmpainaaGreat.Cw

/-
  What the laws of chapter 32 are handed.
-/
namespace Go.Proofs.YtpnghlibmpainaaGreat.Cw
open Go.Cw Go.Proofs
set_option linter.unusedVariables false
set_option maxRecDepth 100000

theorem in_int {qs : List PV} (h : PTy T 3 qs) : ∃ n : Int, qs = [ei n] ∧ -9223372036854775808 ≤ n ∧ n ≤ 9223372036854775807 := kd_int (by kernel_rfl) h
theorem in_int1 {qs : List PV} (h : PTy T 3 qs) : ∃ n : Int, qs = [ei n] := by
  obtain ⟨s, h, _⟩ := in_int h
  exact ⟨s, h⟩
theorem in_ints {qs : List PV} (h : PTy T 24 qs) : ∃ l : List Int, qs = [encInts l] := by
  obtain ⟨l, h, _⟩ := kd_slice (fun s => [ei s]) (fun _ => True) (e := 3) (z := 1) (by kernel_rfl) (fun r hr => by obtain ⟨s, h⟩ := in_int1 hr; exact ⟨s, h, trivial⟩) h
  exact ⟨l, h⟩
theorem in_time {qs : List PV} (h : PTy T 38 qs) : ∃ x : Time, qs = x.row := by
  obtain ⟨_, _, rfl, h1, h⟩ := kd_cons (kd_struct (ts := [3, 3, 3, 3]) (by kernel_rfl) h)
  obtain ⟨_, _, rfl, h2, h⟩ := kd_cons h
  obtain ⟨_, _, rfl, h3, h⟩ := kd_cons h
  obtain ⟨_, _, rfl, h4, h⟩ := kd_cons h
  obtain rfl := kd_nil h
  obtain ⟨a, rfl⟩ := in_int1 h1
  obtain ⟨b, rfl⟩ := in_int1 h2
  obtain ⟨c, rfl⟩ := in_int1 h3
  obtain ⟨d, rfl⟩ := in_int1 h4
  exact ⟨⟨a, b, c, d⟩, rfl⟩
theorem args_ints {ts : List TypeId} {al : List AV} (h : ArgsOk T (24 :: ts) al) : ∃ (l : List Int) (al' : _), al = .pv (encInts l) :: al' ∧ ArgsOk T ts al' := by
  obtain ⟨q, al', rfl, h1, h2⟩ := args_one (by kernel_rfl) h
  obtain ⟨l, h⟩ := in_ints h1
  injection h with h; subst h
  exact ⟨l, al', rfl, h2⟩
end Go.Proofs.YtpnghlibmpainaaGreat.Cw
