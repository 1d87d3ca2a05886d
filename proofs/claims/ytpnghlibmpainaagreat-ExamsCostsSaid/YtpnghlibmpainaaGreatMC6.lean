/-
  Part 6 of the proof (E2, E3, E4, X2, G1, G2, M2, M3, M4, M5): what later parts use. No conditions.
-/
import Derived.Test.YtpnghlibmpainaaGreatMC5

/-
  Plain laws: what valid examinations are; lists without duplicates.
-/
namespace Go.Proofs.YtpnghlibmpainaaGreat.Cw
open Go.Cw Go.Proofs
set_option linter.unusedVariables false
set_option maxRecDepth 100000

theorem bl_trans : ∀ {x y z : List UInt8}, Op.bytesLess x y = true → Op.bytesLess y z = true → Op.bytesLess x z = true
  | _, _, [], _, h => by cases ‹List UInt8› <;> simp [Op.bytesLess] at h
  | [], _, _ :: _, _, _ => by simp [Op.bytesLess]
  | _ :: _, [], _ :: _, h, _ => by simp [Op.bytesLess] at h
  | a :: x, b :: y, c :: z, h1, h2 => by
    simp only [Op.bytesLess, Bool.or_eq_true, decide_eq_true_eq, Bool.and_eq_true, beq_iff_eq] at h1 h2 ⊢
    rcases h1 with h1 | ⟨rfl, h1⟩
    · rcases h2 with h2 | ⟨rfl, h2⟩
      · exact .inl (UInt8.lt_trans h1 h2)
      · exact .inl h1
    · rcases h2 with h2 | ⟨rfl, h2⟩
      · exact .inl h2
      · exact .inr ⟨rfl, bl_trans h1 h2⟩
theorem bl_irr : ∀ {x : List UInt8}, Op.bytesLess x x = false
  | [] => rfl
  | a :: x => by simp [Op.bytesLess, bl_irr (x := x), UInt8.lt_irrefl]
theorem bl_total : ∀ {x y : List UInt8}, Op.bytesLess x y = false → (x == y) = false → Op.bytesLess y x = true
  | [], [], _, h => by simp at h
  | [], _ :: _, h, _ => by simp [Op.bytesLess] at h
  | _ :: _, [], _, _ => by simp [Op.bytesLess]
  | a :: x, b :: y, h1, h2 => by
    simp only [Op.bytesLess, Bool.or_eq_false_iff, decide_eq_false_iff_not, Bool.and_eq_false_iff] at h1
    simp only [Op.bytesLess, Bool.or_eq_true, decide_eq_true_eq, Bool.and_eq_true, beq_iff_eq]
    by_cases e : a = b
    · subst e
      right
      refine ⟨rfl, bl_total ?_ ?_⟩
      · rcases h1.2 with h | h
        · simp at h
        · exact h
      · simpa using h2
    · left
      have h3 := h1.1
      have h4 : a.toNat ≠ b.toNat := fun h => e (UInt8.toNat_inj.1 h)
      simp only [UInt8.lt_iff_toNat_lt] at h3 ⊢
      omega
theorem sLt_of {s p : Str} (h : sLe s p = false) : sLt p s = true := by
  unfold sLe at h
  simp only [Bool.or_eq_false_iff] at h
  exact bl_total h.1 h.2
theorem ris_lt {l : List Str} (h : risP l) : ∀ {i j : Nat} {p q : Str}, i < j → l[i]? = some p → l[j]? = some q → sLt p q = true
  | i, 0, _, _, hij, _, _ => by omega
  | i, j + 1, p, q, hij, hp, hq => by
    have hj := (List.getElem?_eq_some_iff.1 hq).1
    obtain ⟨m, hm⟩ := getE (show j < l.length by omega)
    have h1 := sLt_of (h j hj q m hq hm)
    rcases Nat.lt_or_ge i j with h2 | h2
    · exact bl_trans (ris_lt h h2 hp hm) h1
    · have : i = j := by omega
      subst this
      rw [hp] at hm; injection hm with hm; subst hm; exact h1
theorem ris_nodup {l : List Str} (h : risP l) : l.Nodup := by
  refine List.pairwise_iff_getElem.2 fun i j hi hj hij e => ?_
  have := ris_lt h hij (List.getElem?_eq_getElem hi) (List.getElem?_eq_getElem hj)
  rw [e] at this
  unfold sLt at this
  rw [bl_irr] at this; cases this

noncomputable def comN (a b : List Str) : Nat := a.countP (fun s => pB (s ∈ b))
theorem nodup_len {α : Type} [DecidableEq α] : ∀ {a b : List α}, a.Nodup → (∀ s ∈ a, s ∈ b) → a.length ≤ b.length
  | [], _, _, _ => Nat.zero_le _
  | x :: a, b, h, hs => by
    have hx : x ∈ b := hs x (by simp)
    have h1 := nodup_len (a := a) (b := b.erase x) (List.nodup_cons.1 h).2 fun s hsa => by
      have : s ≠ x := fun e => (List.nodup_cons.1 h).1 (e ▸ hsa)
      exact (List.mem_erase_of_ne this).2 (hs s (by simp [hsa]))
    rw [List.length_erase_of_mem hx] at h1
    have := List.length_pos_of_mem hx
    simp only [List.length_cons]; omega
theorem comN_le {a b : List Str} (ha : a.Nodup) : comN a b ≤ comN b a := by
  unfold comN
  rw [List.countP_eq_length_filter, List.countP_eq_length_filter]
  refine nodup_len (ha.filter _) fun s hs => ?_
  simp only [List.mem_filter] at hs ⊢
  exact ⟨by simpa using hs.2, by simpa using hs.1⟩
theorem comN_comm {a b : List Str} (ha : a.Nodup) (hb : b.Nodup) : comN a b = comN b a := Nat.le_antisymm (comN_le ha) (comN_le hb)

def sortP (l : List Sitting) : Prop := ∀ (i j : Nat) p q, i < j → l[i]? = some p → l[j]? = some q → lexP p q
structure Fine (x : Exams) : Prop where
  en : x.exams.length ≤ 24
  sn : x.sits.length ≤ 24
  el : ∀ (i : Nat) e, x.exams[i]? = some e → e.studs.length ≤ 64 ∧ e.studs.Nodup
  sl : ∀ (i : Nat) s, x.sits[i]? = some s → timedP s
  so : sortP x.sits
  gd : 0 ≤ x.gaps.days ∧ x.gaps.days ≤ 140

theorem exam_fine {e : Exam} (h : examE e = 0) : e.studs.length ≤ 64 ∧ e.studs.Nodup := by
  unfold examE at h
  split at h
  · split at h
    · cases h
    · split at h
      · cases h
      · split at h
        · cases h
        · split at h
          · rename_i h1 _ h2
            refine ⟨by omega, ris_nodup ?_⟩
            have : ascP e.feats ∧ ascP e.studs := by simpa using h2
            exact this.2.2
          · cases h
  · cases h
theorem sits_fine {l : List Sitting} (h : sitsE l = 0) : l.length ≤ 24 ∧ (∀ (i : Nat) s, l[i]? = some s → timedP s) ∧ sortP l := by
  unfold sitsE at h
  split at h
  · cases h
  rename_i hn
  rw [firstE_zero_iff] at h
  have key : ∀ (i : Nat) s, l[i]? = some s → timedP s ∧ ∀ k p, i = k + 1 → l[k]? = some p → lexP p s := fun i s hs => by
    have h1 := h i (List.getElem?_eq_some_iff.1 hs).1
    by_cases ht : timedP s
    · refine ⟨ht, fun k p hk hp => ?_⟩
      by_cases hc : s.cost < 0 ∨ 1000 < s.cost
      · rw [sE2 hs ht hc] at h1; cases h1
      · apply Classical.byContradiction
        intro hl
        rw [sE3 hs ht (by omega) ⟨k, p, hk, hp, hl⟩] at h1; cases h1
    · rw [sE1 hs ht] at h1; cases h1
  refine ⟨by omega, fun i s hs => (key i s hs).1, fun i j p q hij hp hq => ?_⟩
  induction j generalizing q with
  | zero => omega
  | succ j ih =>
    have hj := (List.getElem?_eq_some_iff.1 hq).1
    obtain ⟨m, hm⟩ := getE (show j < l.length by omega)
    have h1 := (key _ q hq).2 j m rfl hm
    rcases Nat.lt_or_ge i j with h2 | h2
    · have h3 := ih m h2 hm
      unfold lexP at *; omega
    · have : i = j := by omega
      subst this
      rw [hp] at hm; injection hm with hm; subst hm; exact h1
theorem fine_of {x : Exams} (h : examsE x = 0) : Fine x := by
  unfold examsE at h
  split at h
  · rename_i h1; exact absurd h h1
  split at h
  · cases h
  split at h
  · rename_i h1; exact absurd h h1
  rename_i h2 h3
  split at h
  · rename_i h1; exact absurd h h1
  rename_i h4
  have h3 : firstE (exE x.exams) x.exams.length = 0 := Classical.byContradiction fun h => h3 h
  have h4 : sitsE x.sits = 0 := Classical.byContradiction fun h => h4 h
  obtain ⟨s1, s2, s3⟩ := sits_fine h4
  rw [firstE_zero_iff] at h3
  refine ⟨by omega, s1, fun i e he => ?_, s2, s3, ?_⟩
  · have := h3 i (List.getElem?_eq_some_iff.1 he).1
    unfold exE at this
    rw [he] at this
    dsimp only at this
    split at this
    · rename_i h5; exact absurd this h5
    · rename_i h5
      exact exam_fine (Classical.byContradiction fun h => h5 h)
  · unfold gapsE at h
    split at h
    · rename_i h5; exact h5.2.2.2.2
    · cases h

noncomputable def relE (x : Exams) (a b : Nat) (s t : Sitting) : Int :=
  if pB (ovP (timeOf s) (timeOf t)) then 0
  else if s.day = t.day then (if (a : Int) - b = 1 ∨ (b : Int) - a = 1 then 2 else 3)
  else if max s.day t.day - min s.day t.day ≤ x.gaps.days then 4 else -1
theorem relE_comm {x : Exams} {a b : Nat} {s t : Sitting} : relE x a b s t = relE x b a t s := by
  unfold relE
  rw [pB_iff (ovP_comm (a := timeOf s) (b := timeOf t))]
  by_cases h0 : pB (ovP (timeOf t) (timeOf s)) = true
  · rw [if_pos h0, if_pos h0]
  · rw [if_neg h0, if_neg h0]
    by_cases h : s.day = t.day
    · rw [if_pos h, if_pos h.symm]
      by_cases h2 : (a : Int) - b = 1 ∨ (b : Int) - a = 1
      · rw [if_pos h2, if_pos h2.symm]
      · rw [if_neg h2, if_neg fun h => h2 h.symm]
    · rw [if_neg h, if_neg (fun e : t.day = s.day => h e.symm), Int.max_comm, Int.min_comm]
def amid (s t u : Sitting) : Prop := u.day = s.day ∧ min s.start t.start < u.start ∧ u.start < max s.start t.start
end Go.Proofs.YtpnghlibmpainaaGreat.Cw

/-
  Contracts: the relation of two sittings, students in common.
-/
namespace Go.Proofs.YtpnghlibmpainaaGreat.Cw
open Go.Cw Go.Proofs
set_option linter.unusedVariables false
set_option maxRecDepth 100000
set_option maxHeartbeats 1600000

section
variable {x : Exams} {a b : Nat} {s t : Sitting}
theorem rel0 (h : ovP (timeOf s) (timeOf t)) : relE x a b s t = 0 := by unfold relE; rw [pB_t h, if_pos rfl]
variable (h : ¬ ovP (timeOf s) (timeOf t))
include h
theorem relR (hd : s.day = t.day) (h2 : (a : Int) - b = 1 ∨ (b : Int) - a = 1) : relE x a b s t = 2 := by unfold relE; rw [pB_f h, if_neg (by simp), if_pos hd, if_pos h2]
theorem relD (hd : s.day = t.day) (h2 : ¬ ((a : Int) - b = 1 ∨ (b : Int) - a = 1)) : relE x a b s t = 3 := by unfold relE; rw [pB_f h, if_neg (by simp), if_pos hd, if_neg h2]
theorem relN (hd : ¬ s.day = t.day) (h2 : max s.day t.day - min s.day t.day ≤ x.gaps.days) : relE x a b s t = 4 := by unfold relE; rw [pB_f h, if_neg (by simp), if_neg hd, if_pos h2]
theorem relX (hd : ¬ s.day = t.day) (h2 : ¬ max s.day t.day - min s.day t.day ≤ x.gaps.days) : relE x a b s t = -1 := by unfold relE; rw [pB_f h, if_neg (by simp), if_neg hd, if_neg h2]
end
theorem c_relation (x : Exams) (a b : Nat) (s t : Sitting) (hf : Fine x) (ha : x.sits[a]? = some s) (hb : x.sits[b]? = some t) :
    PCall Tryz.prog 41 [ag x.cells, vint .i64 a, vint .i64 b] (fun r => r = vint .i64 (relE x a b s t)) := by
  have hn := hf.sn
  have ha1 := (List.getElem?_eq_some_iff.1 ha).1
  have hb1 := (List.getElem?_eq_some_iff.1 hb).1
  have hs := timed_b (hf.sl a s ha)
  have ht := timed_b (hf.sl b t hb)
  refine acall_of tok mixed 63 rfl (fn := Tryz.f41) (c := Tryz.f41.body.getD .skip) (by kernel_rfl) (by kernel_rfl) (by kernel_rfl) rfl 0 rfl ?_
  repeat' (first | (refine idx_sl (k := a) (at_map ha) (by omega) ?_) | (refine idx_sl (k := b) (at_map hb) (by omega) ?_) | (refine eqv_wrap (by (try dsimp only [cond]); omega) (by (try dsimp only [cond]); omega) ?_) | refine o1 ?_ | refine o2 ?_ | refine k1 ?_ | refine k2 ?_ | refine k3 ?_ | refine k4 ?_ | refine k6 ?_ | refine k7 ?_ | refine And.intro ?_ ?_ | refine o3 ?_ | refine o4 ?_ | (intro h; first | exact Bool.noConfusion h | exact nz _ h | exact nl h | (simp at h; done) | (simp at h; first | (exfalso; omega) | skip) | skip) | (change retOk _ _ _ _; refine ret_pure rfl trivial ?_) | exact (by kernel_rfl : drawOk _ _ = true) | (change vcFunD _ _ _ _ _; refine callD_eq rfl (by repeat' (first | trivial | refine And.intro ?_ ?_ | (show 0 + _ ≤ List.length _; simp))) ALeL.refl (c_time s) rfl ?_) | (change vcFunD _ _ _ _ _; refine callD_eq rfl (by repeat' (first | trivial | refine And.intro ?_ ?_ | (show 0 + _ ≤ List.length _; simp))) ALeL.refl (c_time t) rfl ?_) | (change vcFunD _ _ _ _ _; refine callD_eq rfl (by repeat' (first | trivial | refine And.intro ?_ ?_ | (show 0 + _ ≤ List.length _; simp))) ALeL.refl (c_overlap (timeOf s) (timeOf t)) rfl ?_) | fail)
  all_goals first
    | exact congrArg (vint .i64) (rel0 (by assumption)).symm
    | exact congrArg (vint .i64) (relR (by assumption) (by assumption) (by omega)).symm
    | exact congrArg (vint .i64) (relD (by assumption) (by assumption) (by omega)).symm
    | exact congrArg (vint .i64) (relN (by assumption) (by assumption) (by omega)).symm
    | exact congrArg (vint .i64) (relX (by assumption) (by assumption) (by omega)).symm

end Go.Proofs.YtpnghlibmpainaaGreat.Cw

/-
  Contracts: students in common; the relation and the common students of any numbers.
-/
namespace Go.Proofs.YtpnghlibmpainaaGreat.Cw
open Go.Cw Go.Proofs
set_option linter.unusedVariables false
set_option maxRecDepth 100000
set_option maxHeartbeats 1600000

theorem comN_t {a b : List Str} {i : Nat} {s : Str} (hs : a[i]? = some s) (h : s ∈ b) : (comN (a.take (i + 1)) b : Int) = comN (a.take i) b + 1 := by
  unfold comN
  rw [List.take_add_one, hs]
  simp [List.countP_append, h]
theorem comN_f {a b : List Str} {i : Nat} {s : Str} (hs : a[i]? = some s) (h : ¬ s ∈ b) : (comN (a.take (i + 1)) b : Int) = comN (a.take i) b := by
  unfold comN
  rw [List.take_add_one, hs]
  simp [List.countP_append, h]
theorem comN_b {a b : List Str} : comN a b ≤ a.length := List.countP_le_length
theorem comN_tb {a b : List Str} {i : Nat} : comN (a.take i) b ≤ i := by
  have := comN_b (a := a.take i) (b := b)
  rw [List.length_take] at this; omega
theorem comN_all {a b : List Str} {i : Nat} (h : a.length ≤ i) : comN (a.take i) b = comN a b := by rw [List.take_of_length_le h]

theorem c_common (x : Exams) (a b : Nat) (e f : Exam) (hf : Fine x) (ha : x.exams[a]? = some e) (hb : x.exams[b]? = some f) :
    PCall Tryz.prog 44 [ag x.cells, vint .i64 a, vint .i64 b] (fun r => r = vint .i64 (comN e.studs f.studs)) := by
  have hn := hf.en
  have ha1 := (List.getElem?_eq_some_iff.1 ha).1
  have hb1 := (List.getElem?_eq_some_iff.1 hb).1
  have hs := (hf.el a e ha).1
  have ht := (hf.el b f hb).1
  refine acall_of tok mixed 33 rfl (fn := Tryz.f44) (c := Tryz.f44.body.getD .skip) (by kernel_rfl) (by kernel_rfl) (by kernel_rfl) rfl 0 rfl ?_
  repeat' (first | (refine idx_sl (k := a) (at_map ha) (by omega) ?_) | refine o1 ?_ | refine o2 ?_ | refine k1 ?_ | refine k2 ?_ | refine k4 ?_ | refine eqv_len_map ?_ | fail)
  refine loop_at (fun i : Nat => [(7, vint .i64 (comN (e.studs.take i) f.studs)), (17, vint .i64 i)]) (fun _ => []) (fun i => i ≤ e.studs.length) (fun i => e.studs.length - i) 0 (by omega) (by repeat' (first | exact trivial | exact ⟨_, rfl, ALe.refl⟩ | refine And.intro ?_ ?_)) (by repeat' (first | exact trivial | exact rfl | refine And.intro ?_ ?_)) ?_
  intro i hi
  have hc := comN_tb (a := e.studs) (b := f.studs) (i := i)
  rcases Nat.lt_or_ge i e.studs.length with hlt | hge
  · obtain ⟨s, hs1⟩ := getE hlt
    repeat' (first | (refine idx_sl (k := b) (at_map hb) (by omega) ?_) | refine o1 ?_ | refine o2 ?_ | refine k1 ?_ | refine k2 ?_ | refine k3 ?_ | refine k4 ?_ | refine k6 ?_ | refine And.intro ?_ ?_ | (intro h; first | exact Bool.noConfusion h | exact nz _ h | exact nl h | (simp at h; done) | (simp at h; first | (exfalso; omega) | skip) | skip) | refine eqv_wrap (by omega) (by omega) ?_ | refine ⟨_, _, (by first | rfl | assumption), at_map (by assumption), ?_⟩ | (change vcFun _ _ _ _ _; refine call_eq rfl (by repeat' (first | trivial | refine And.intro ?_ ?_ | (show 0 + _ ≤ List.length _; simp))) ALeL.refl (c_contains f.studs s (by omega)) rfl ?_) | fail)
    all_goals first
      | exact ⟨i + 1, by omega, by omega, back [0] rfl rfl ⟨rfl, trivial⟩ ⟨slot_eq rfl (congrArg (vint .i64) (comN_t hs1 (by assumption)).symm), by repeat' (first | exact trivial | exact rfl | refine And.intro ?_ ?_)⟩⟩
      | exact ⟨i + 1, by omega, by omega, back [0] rfl rfl ⟨rfl, trivial⟩ ⟨slot_eq rfl (congrArg (vint .i64) (comN_f hs1 (by assumption)).symm), by repeat' (first | exact trivial | exact rfl | refine And.intro ?_ ?_)⟩⟩
  · repeat' (first | refine o1 ?_ | refine o2 ?_ | refine k1 ?_ | refine k2 ?_ | refine k3 ?_ | refine k7 ?_ | refine k8 ?_ | refine And.intro ?_ ?_ | (intro h; first | exact Bool.noConfusion h | exact nz _ h | exact nl h | (simp at h; done) | (simp at h; first | (exfalso; omega) | skip) | skip) | (change retOk _ _ _ _; refine ret_pure rfl trivial ?_) | fail)
    exact congrArg (vint .i64) (congrArg (fun n : Nat => (n : Int)) (comN_all hge))
noncomputable def relV (x : Exams) (a b : Int) : Int := match x.sits[a.toNat]?, x.sits[b.toNat]? with
  | some s, some t => relE x a.toNat b.toNat s t
  | _, _ => -2
noncomputable def comV (x : Exams) (a b : Int) : Int := match x.exams[a.toNat]?, x.exams[b.toNat]? with
  | some e, some f => comN e.studs f.studs
  | _, _ => 0
/-- What Relation answers, and Common. -/
noncomputable def relA (x : Exams) (a b : Int) : Int := if examsE x ≠ 0 ∨ a < 0 ∨ (x.sits.length : Int) ≤ a ∨ b < 0 ∨ (x.sits.length : Int) ≤ b then -2 else relV x a b
noncomputable def comA (x : Exams) (a b : Int) : Int := if examsE x ≠ 0 ∨ a < 0 ∨ (x.exams.length : Int) ≤ a ∨ b < 0 ∨ (x.exams.length : Int) ≤ b then 0 else comV x a b
end Go.Proofs.YtpnghlibmpainaaGreat.Cw

/-
  Plain: the model of examinations.
-/
namespace Go.Proofs.YtpnghlibmpainaaGreat.Cw
open Go.Cw Go.Proofs
set_option linter.unusedVariables false
set_option maxRecDepth 100000

def apartB (l : List Time) (t : Time) : Prop := ∀ x ∈ l, ¬ ovP x t
def fitX (r : Room) (e : Exam) : Prop := (∀ f ∈ e.feats, f ∈ r.feats) ∧ (e.studs.length : Int) ≤ r.seats
def suitP (e : Exam) (r : Room) (s : Sitting) : Prop := e.len ≤ s.len ∧ fitX r e ∧ apartB r.closed (timeOf s)
noncomputable def seatF (e : Exam) (i : Nat) (s : Sitting) : Nat → Room → Option Seat := fun k r => if pB (suitP e r s) then some ⟨i, k⟩ else none
noncomputable def seatsI (x : Exams) (e : Exam) (i : Nat) : List Seat := match x.sits[i]? with
  | some s => upto x.rooms (seatF e i s) x.rooms.length
  | none => []
noncomputable def seatsV (x : Exams) (e : Exam) : List Seat := gr (seatsI x e) x.sits.length
noncomputable def optS (x : Exams) (q : Seat) : Opt := match x.sits[q.sit]? with
  | some t => ⟨⟨timeOf t, q.room⟩, if 0 < t.cost then [⟨5, t.cost⟩] else []⟩
  | none => ⟨⟨⟨0, 0, 0, 0⟩, 0⟩, []⟩
/-- An option as_ it is built: no charges are nil. -/
def optB (o : Opt) : List PV := [ei o.place.time.weeks, ei o.place.time.day, ei o.place.time.start, ei o.place.time.len, ei o.place.room, match o.charges with
  | [] => .val (.slice none 0 0)
  | c :: l => .sl 2 ((c :: l).map Charge.row)]
theorem le_optB {l : List Opt} : PLeLL (l.map optB) (l.map Opt.row) := PLeLL.map fun o _ => by
  refine ⟨PLe.refl, PLe.refl, PLe.refl, PLe.refl, PLe.refl, ?_, trivial⟩
  cases o.charges with
  | nil => exact PLe.nil
  | cons c l => exact PLe.refl
noncomputable def entC (x : Exams) (u : Nat) (a b : Seat) (s t : Sitting) (e f : Exam) : Int :=
  if u = 0 ∧ 0 < comN e.studs f.studs ∧ relE x a.sit b.sit s t = 0 then 1099511627776
  else if u = 1 ∧ a.room = b.room ∧ a.sit ≠ b.sit ∧ relE x a.sit b.sit s t = 0 then 1099511627776
  else if u = 6 ∧ (a.sit = b.sit ∧ a.room = b.room) ∧ e.len ≠ f.len then x.gaps.mixed
  else if (u : Int) ≠ relE x a.sit b.sit s t then 0
  else if u = 2 then comN e.studs f.studs * x.gaps.row
  else if u = 3 then comN e.studs f.studs * x.gaps.day
  else if u = 4 then comN e.studs f.studs * x.gaps.near
  else 0
noncomputable def entX (x : Exams) : Ent := fun u i k a b => match x.sits[a.sit]?, x.sits[b.sit]?, x.exams[i]?, x.exams[k]? with
  | some s, some t, some e, some f => entC x u a b s t e f
  | _, _, _, _ => 0
theorem entX_at {x : Exams} {u i k : Nat} {a b : Seat} {s t : Sitting} {e f : Exam} (h1 : x.sits[a.sit]? = some s) (h2 : x.sits[b.sit]? = some t) (h3 : x.exams[i]? = some e) (h4 : x.exams[k]? = some f) : entX x u i k a b = entC x u a b s t e f := by
  unfold entX; rw [h1, h2, h3, h4]
theorem comN_len {a b : List Str} : comN a b ≤ a.length := List.countP_le_length
theorem gaps_ok {x : Exams} (h : examsE x = 0) : (0 ≤ x.gaps.row ∧ x.gaps.row ≤ 1000) ∧ (0 ≤ x.gaps.day ∧ x.gaps.day ≤ 1000) ∧ (0 ≤ x.gaps.near ∧ x.gaps.near ≤ 1000) ∧ (0 ≤ x.gaps.mixed ∧ x.gaps.mixed ≤ 1000) := by
  unfold examsE at h
  (repeat' split at h) <;> first | omega | skip
  all_goals
    unfold gapsE at h
    split at h
    · rename_i g; exact ⟨g.1, g.2.1, g.2.2.1, g.2.2.2.1⟩
    · cases h
theorem mul_price {n : Nat} {g : Int} (hn : n ≤ 64) (hg : 0 ≤ g ∧ g ≤ 1000) : (n : Int) * g = 0 ∨ priceP ((n : Int) * g) := by
  by_cases h : (n : Int) * g = 0
  · exact .inl h
  · refine .inr (.inl ⟨?_, ?_⟩)
    · have : 0 ≤ (n : Int) * g := Int.mul_nonneg (by omega) hg.1
      omega
    · have : (n : Int) * g ≤ 64 * 1000 := Int.mul_le_mul (by omega) hg.2 hg.1 (by decide)
      omega
theorem entC_ok {x : Exams} {u : Nat} {a b : Seat} {s t : Sitting} {e f : Exam} (h : examsE x = 0) (he : e.studs.length ≤ 64) : entC x u a b s t e f = 0 ∨ priceP (entC x u a b s t e f) := by
  obtain ⟨g1, g2, g3, g4⟩ := gaps_ok h
  have hn := comN_len (a := e.studs) (b := f.studs)
  unfold entC
  (repeat' split)
  · exact .inr (.inr rfl)
  · exact .inr (.inr rfl)
  · by_cases hm : x.gaps.mixed = 0
    · exact .inl hm
    · exact .inr (.inl ⟨by omega, by omega⟩)
  · exact .inl rfl
  · exact mul_price (by omega) g1
  · exact mul_price (by omega) g2
  · exact mul_price (by omega) g3
  · exact .inl rfl
theorem entX_ok {x : Exams} {u i k : Nat} {a b : Seat} (h : examsE x = 0) : entX x u i k a b = 0 ∨ priceP (entX x u i k a b) := by
  unfold entX
  split
  · rename_i s t e f _ _ he _
    exact entC_ok h ((fine_of h).el _ e he).1
  · exact .inl rfl
noncomputable def setsX (x : Exams) : List (List Seat) := x.exams.map (seatsV x)
noncomputable def clsX (x : Exams) : List (List Opt) := x.exams.map fun e => (seatsV x e).map (optS x)
def wtX (x : Exams) (i : Nat) : Int := match x.exams[i]? with
  | some e => e.studs.length
  | none => 0
def mostX (x : Exams) (k : Nat) : Int := match x.rooms[k]? with
  | some r => r.seats
  | none => 0
noncomputable def sizeE (x : Exams) (i : Nat) : Int := match x.exams[i]? with
  | some e => if 24 < (seatsV x e).length then 2 else 0
  | none => 0
noncomputable def buildE (x : Exams) : Int := if examsE x ≠ 0 then examsE x else firstE (sizeE x) x.exams.length
noncomputable def buildM (x : Exams) : Model := if buildE x = 0 then ⟨clsX x, prsU (setsX x) (entX x) 7, cntS (setsX x) (wtX x) (mostX x) x.rooms.length x.sits.length, 7⟩ else ⟨[], [], [], 0⟩
theorem sizeE_at {x : Exams} {i : Nat} {e : Exam} (h : x.exams[i]? = some e) : sizeE x i = if 24 < (seatsV x e).length then 2 else 0 := by unfold sizeE; rw [h]
theorem build_z {x : Exams} (h : buildE x = 0) : examsE x = 0 ∧ ∀ e ∈ x.exams, (seatsV x e).length ≤ 24 := by
  unfold buildE at h
  split at h
  · rename_i h1; exact absurd h h1
  · rename_i h1
    refine ⟨Classical.byContradiction fun k => h1 k, fun e he => ?_⟩
    obtain ⟨i, hi⟩ := List.getElem?_of_mem he
    have := firstE_zero_iff.1 h i (List.getElem?_eq_some_iff.1 hi).1
    rw [sizeE_at hi] at this
    split at this
    · cases this
    · omega
theorem rooms_ok {x : Exams} (h : examsE x = 0) : roomsE x.rooms g20 20 = 0 := by
  unfold examsE at h
  split at h
  · rename_i h1; exact absurd h h1
  · rename_i h1; exact Classical.byContradiction fun k => h1 k
theorem sits_ok {x : Exams} (h : examsE x = 0) : sitsE x.sits = 0 := by
  unfold examsE at h
  (repeat' split at h) <;> first | (exfalso; omega) | skip
  all_goals first
    | (rename_i h1; exact absurd h h1)
    | (rename_i h1; exact Classical.byContradiction fun k => h1 k)
end Go.Proofs.YtpnghlibmpainaaGreat.Cw

/-
  Plain: examinations as_ they are made are valid, and their model is built.
-/
namespace Go.Proofs.YtpnghlibmpainaaGreat.Cw
open Go.Cw Go.Proofs
set_option linter.unusedVariables false
set_option maxRecDepth 100000

/-- A letter and a number from one on. -/
def nm (a : UInt8) (n : Nat) : Str := ByteArray.mk #[a] ++ ⟨#[(49 + (n : Int)).toNat.toUInt8]⟩
theorem lt5 {n : Nat} (h : n < 5) : n = 0 ∨ n = 1 ∨ n = 2 ∨ n = 3 ∨ n = 4 := by omega
theorem code2 {a b : UInt8} (ha : chrP 0 a.toNat) (hb : chrP 1 b.toNat) : codeP ⟨#[a, b]⟩ := by
  refine ⟨by show 1 ≤ 2; decide, by show 2 ≤ 16; decide, fun i hi x hx => ?_⟩
  have hi : i < 2 := hi
  match i, hi with
  | 0, _ => cases hx; exact ha
  | 1, _ => cases hx; exact hb
theorem code1 {a : UInt8} (ha : chrP 0 a.toNat) : codeP ⟨#[a]⟩ := by
  refine ⟨by show 1 ≤ 1; decide, by show 1 ≤ 16; decide, fun i hi x hx => ?_⟩
  have hi : i < 1 := hi
  match i, hi with
  | 0, _ => cases hx; exact ha
theorem code3 {a b c : UInt8} (ha : chrP 0 a.toNat) (hb : chrP 1 b.toNat) (hc : chrP 2 c.toNat) : codeP ⟨#[a, b, c]⟩ := by
  refine ⟨by show 1 ≤ 3; decide, by show 3 ≤ 16; decide, fun i hi x hx => ?_⟩
  have hi : i < 3 := hi
  match i, hi with
  | 0, _ => cases hx; exact ha
  | 1, _ => cases hx; exact hb
  | 2, _ => cases hx; exact hc
theorem nm0 {a : UInt8} : nm a 0 = ⟨#[a, 49]⟩ := rfl
theorem nm1 {a : UInt8} : nm a 1 = ⟨#[a, 50]⟩ := rfl
theorem nm2 {a : UInt8} : nm a 2 = ⟨#[a, 51]⟩ := rfl
theorem nm3 {a : UInt8} : nm a 3 = ⟨#[a, 52]⟩ := rfl
theorem nm4 {a : UInt8} : nm a 4 = ⟨#[a, 53]⟩ := rfl
theorem nm_code {a : UInt8} {n : Nat} (ha : chrP 0 a.toNat) (h : n < 5) : codeP (nm a n) := by
  rcases lt5 h with rfl | rfl | rfl | rfl | rfl <;> exact code2 ha (by unfold chrP; decide)
theorem nm_inj {a : UInt8} {i j : Nat} (hi : i < 5) (hj : j < 5) (h : nm a i = nm a j) : i = j := by
  rcases lt5 hi with rfl | rfl | rfl | rfl | rfl <;> rcases lt5 hj with rfl | rfl | rfl | rfl | rfl <;> first
    | rfl
    | (simp only [nm0, nm1, nm2, nm3, nm4] at h; exact absurd h (by simp))
theorem nm_lt {i j : Nat} (h : i < j) (hj : j < 5) : sLe (nm 115 j) (nm 115 i) = false := by
  rcases lt5 hj with rfl | rfl | rfl | rfl | rfl <;> rcases lt5 (show i < 5 by omega) with rfl | rfl | rfl | rfl | rfl <;> first
    | (exfalso; omega)
    | kernel_rfl
theorem chr_R : chrP 0 (82 : UInt8).toNat := by unfold chrP; decide
theorem chr_E : chrP 0 (69 : UInt8).toNat := by unfold chrP; decide
theorem chr_s : chrP 0 (115 : UInt8).toNat := by unfold chrP; decide
def sB : Str := ⟨#[66]⟩
def sLab : Str := ⟨#[108, 97, 98]⟩
def s9 : Str := ⟨#[115, 57]⟩
theorem code_B : codeP sB := code1 (by unfold chrP; decide)
theorem code_lab : codeP sLab := code3 (by unfold chrP; decide) (by unfold chrP; decide) (by unfold chrP; decide)
theorem code_s9 : codeP s9 := code2 chr_s (by unfold chrP; decide)
theorem asc_nil : ascP [] := ⟨fun i hi => by simp at hi, fun i hi => by simp at hi⟩
theorem asc_one {s : Str} (h : codeP s) : ascP [s] := by
  refine ⟨fun i hi q hq => ?_, fun i hi => by simp at hi⟩
  have h0 : i = 0 := by simpa using hi
  subst h0
  cases hq; exact h
/-- Features as_ they are made. -/
def FeatG (l : List Str) : Prop := l = [] ∨ l = [sLab]
theorem featG {l : List Str} (h : FeatG l) : ascP l ∧ l.length ≤ 8 := by
  rcases h with rfl | rfl
  · exact ⟨asc_nil, by simp⟩
  · exact ⟨asc_one code_lab, by simp⟩
def ClosG (l : List Time) : Prop := l = [] ∨ ∃ w d s : Int, l = [⟨w, d, s, 1⟩] ∧ (1 ≤ w ∧ w ≤ 3) ∧ (0 ≤ d ∧ d < 3) ∧ (0 ≤ s ∧ s < 3)
theorem week20 : weekP g20 20 := by unfold weekP gridP g20; decide
theorem closG {l : List Time} (h : ClosG l) : l.length ≤ 24 ∧ ∀ t ∈ l, fitE g20 20 t = 0 := by
  rcases h with rfl | ⟨w, d, s, rfl, h1, h2, h3⟩
  · exact ⟨by simp, fun t ht => by cases ht⟩
  · refine ⟨by simp, fun t ht => ?_⟩
    rw [List.mem_singleton] at ht
    subst ht
    have h4 : (2 : Int) ^ (20 : Int).toNat = 1048576 := by decide
    have hs : setP w 20 := ⟨by decide, by decide, h1.1, by omega⟩
    unfold fitE
    rw [if_pos (pB_t week20), if_pos (pB_t ⟨⟨hs, by show 0 ≤ d; omega, by show d < 7; omega, by show 0 ≤ s; omega, by show s < 24; omega, by show (1 : Int) ≤ 1; decide, by show 1 ≤ 24 - s; omega⟩, hs, by show d < 7; omega, by show s + 1 ≤ 24; omega⟩)]
structure RoomG (i : Nat) (r : Room) : Prop where
  code : r.code = nm 82 i
  bld : r.bld = sB
  seats : 2 ≤ r.seats ∧ r.seats ≤ 5
  feats : FeatG r.feats
  closed : ClosG r.closed
theorem roomsG {l : List Room} (hn : l.length ≤ 2) (h : ∀ (i : Nat) r, l[i]? = some r → RoomG i r) : roomsE l g20 20 = 0 := by
  unfold roomsE
  rw [if_pos (pB_t week20), if_neg (by omega)]
  refine firstE_zero_iff.2 fun i hi => ?_
  obtain ⟨r, hr⟩ : ∃ r, l[i]? = some r := ⟨_, List.getElem?_eq_getElem hi⟩
  have g := h i r hr
  refine rE7 hr (by rw [g.code]; exact nm_code chr_R (by omega)) (by rw [g.bld]; exact code_B) (by have := g.seats; omega) ⟨(featG g.feats).2, (closG g.closed).1⟩ (featG g.feats).1 (closG g.closed).2 ?_
  rintro ⟨j, hj, q, hq, e⟩
  rw [(h j q hq).code, g.code] at e
  have := nm_inj (by omega) (by omega) e
  omega
structure ExamG (i : Nat) (e : Exam) : Prop where
  code : e.code = nm 69 i
  len : 1 ≤ e.len ∧ e.len ≤ 2
  feats : FeatG e.feats
  studs : ascP e.studs ∧ e.studs.length ≤ 4 ∧ e.studs ≠ []
theorem examG {i : Nat} {e : Exam} (hi : i < 5) (g : ExamG i e) : examE e = 0 :=
  xE6 (by rw [g.code]; exact nm_code chr_E hi) (by have := g.len; omega) ⟨(featG g.feats).2, by have := g.studs.2.1; omega⟩ g.studs.2.2 ⟨(featG g.feats).1, g.studs.1⟩
theorem exG {l : List Exam} (hn : l.length ≤ 4) (h : ∀ (i : Nat) e, l[i]? = some e → ExamG i e) : ∀ j, j < l.length → exE l j = 0 := by
  intro i hi
  obtain ⟨e, he⟩ : ∃ r, l[i]? = some r := ⟨_, List.getElem?_eq_getElem hi⟩
  have g := h i e he
  refine yE3 he (examG (by omega) g) (dupB_f fun j hj q hq hc => ?_)
  rw [(h j q hq).code, g.code] at hc
  have := nm_inj (by omega) (by omega) hc
  omega
/-- Sittings as_ they are made. -/
structure SitsG (l : List Sitting) : Prop where
  at_ : ∀ (i : Nat) s, l[i]? = some s → timedP s ∧ 0 ≤ s.cost ∧ s.cost ≤ 1000
  next : ∀ (i : Nat) p s, l[i]? = some p → l[i + 1]? = some s → lexP p s
theorem sitsG {l : List Sitting} (hn : l.length ≤ 4) (h : SitsG l) : sitsE l = 0 := by
  unfold sitsE
  rw [if_neg (by omega)]
  refine firstE_zero_iff.2 fun i hi => ?_
  obtain ⟨s, hs⟩ : ∃ r, l[i]? = some r := ⟨_, List.getElem?_eq_getElem hi⟩
  refine sE4 hs (h.at_ i s hs).1 (h.at_ i s hs).2 ?_
  rintro ⟨k, p, rfl, hp, hl⟩
  exact hl (h.next k p s hp hs)
/-- Examinations as_ they are made. -/
structure MadeX (x : Exams) : Prop where
  rn : x.rooms.length ≤ 2
  rooms : ∀ (i : Nat) r, x.rooms[i]? = some r → RoomG i r
  en : x.exams.length ≤ 4
  exams : ∀ (i : Nat) e, x.exams[i]? = some e → ExamG i e
  sn : x.sits.length ≤ 4
  sits : SitsG x.sits
  gaps : gapsE x.gaps = 0
theorem made_ok {x : Exams} (h : MadeX x) : examsE x = 0 := by
  rw [vE5 (roomsG h.rn h.rooms) (by have := h.en; omega) (exG h.en h.exams) (sitsG h.sn h.sits)]
  exact h.gaps
theorem seats_len {x : Exams} {e : Exam} : (seatsV x e).length ≤ x.sits.length * x.rooms.length := gr_len (F := seatsI x e) (m := x.rooms.length) (fun i => by
  unfold seatsI
  split
  · exact upto_len
  · exact Nat.zero_le _) _
theorem made_build {x : Exams} (h : MadeX x) : buildE x = 0 := by
  unfold buildE
  rw [if_neg (by rw [made_ok h]; simp)]
  refine firstE_zero_iff.2 fun i hi => ?_
  obtain ⟨e, he⟩ : ∃ r, x.exams[i]? = some r := ⟨_, List.getElem?_eq_getElem hi⟩
  rw [sizeE_at he, if_neg]
  have h1 := seats_len (x := x) (e := e)
  have h2 : x.sits.length * x.rooms.length ≤ 4 * 2 := Nat.mul_le_mul h.sn h.rn
  omega
end Go.Proofs.YtpnghlibmpainaaGreat.Cw

/-
  Made examinations are valid.
-/
namespace Go.Proofs.YtpnghlibmpainaaGreat.Cw
open Go.Cw Go.Proofs
set_option linter.unusedVariables false
set_option maxRecDepth 100000
set_option maxHeartbeats 3200000

theorem bytes_at {v : Int} {n m : Nat} {K : Str → Prop} (h1 : 0 ≤ v) (h2 : v < 256) (hn : n = m) (h : K ⟨#[v.toNat.toUInt8]⟩) : ∃ b, List.take 1 (List.drop 0 [[PV.val (.int .u8 v)]]) = bytesRows b ∧ n = m ∧ K b := by
  refine ⟨⟨#[v.toNat.toUInt8]⟩, ?_, hn, h⟩
  have : ((v.toNat.toUInt8.toNat : Nat) : Int) = v := by
    have : v.toNat.toUInt8.toNat = v.toNat := by simp [Nat.toUInt8]; omega
    omega
  show [[PV.val (.int .u8 v)]] = [[.val (.int .u8 ((v.toNat.toUInt8.toNat : Nat) : Int))]]
  rw [this]
theorem bytes_op {v : Int} {n m : Nat} {K : Str → Prop} (h1 : 0 ≤ v) (h2 : v < 256) (hn : n = m) (h : ∀ s, s = ⟨#[v.toNat.toUInt8]⟩ → K s) : ∃ b, List.take 1 (List.drop 0 [[PV.val (.int .u8 v)]]) = bytesRows b ∧ n = m ∧ K b := bytes_at h1 h2 hn (h _ rfl)
def g0 : AV := vint .i64 0
def rmG (i : Nat) (r : List PV) : Prop := ∃ s : Int, r = [es (nm 82 i), es sB, ei s, .val (.slice none 0 0), .val (.slice none 0 0)] ∧ 2 ≤ s ∧ s ≤ 5
def zeroG : Option AObj := some ⟨33, 8, false, .box [nilA, nilA, nilA, g0, g0, g0, g0, g0]⟩
/-- Rows of data of a kind. -/
def roomRG (i : Nat) (r : List PV) : Prop := ∃ x : Room, PLeL r x.row ∧ RoomG i x
theorem rmG.room {i : Nat} {r : List PV} (h : rmG i r) : roomRG i r := by
  obtain ⟨s, rfl, h1, h2⟩ := h
  exact ⟨⟨nm 82 i, sB, s, [], []⟩, ⟨PLe.refl, PLe.refl, PLe.refl, PLe.nil, PLe.nil, trivial⟩, ⟨rfl, rfl, ⟨h1, h2⟩, .inl rfl, .inl rfl⟩⟩
theorem roomsG_ex : ∀ {rs : List (List PV)} {k : Nat}, (∀ (i : Nat) r, rs[i]? = some r → roomRG (k + i) r) → ∃ l : List Room, PLeLL rs (l.map Room.row) ∧ l.length = rs.length ∧ ∀ (i : Nat) r, l[i]? = some r → RoomG (k + i) r
  | [], _, _ => ⟨[], trivial, rfl, fun i r h => by simp at h⟩
  | r :: rs, k, h => by
    obtain ⟨x, hx, hg⟩ := h 0 r rfl
    obtain ⟨l, hl, hn, hi⟩ := roomsG_ex (rs := rs) (k := k + 1) fun i q hq => by have := h (i + 1) q hq; rwa [Nat.add_assoc, Nat.add_comm 1 i]
    refine ⟨x :: l, ⟨hx, hl⟩, by simp [hn], fun i q hq => ?_⟩
    match i, hq with
    | 0, hq => cases hq; exact hg
    | i + 1, hq => have := hi i q hq; rwa [Nat.add_assoc, Nat.add_comm 1 i] at this
theorem roomsG_le {r : List PV} {rs : List (List PV)} (h : roomRG 0 r) (hs : ∀ (i : Nat) q, rs[i]? = some q → rmG (i + 1) q) : ∃ l : List Room, l.length = rs.length + 1 ∧ (∀ (i : Nat) r, l[i]? = some r → RoomG i r) ∧ ALe (.pv (.sl 5 (List.take (rs.length + 1) (List.drop 0 (r :: rs))))) (.pv (encRooms l)) := by
  obtain ⟨l, hl, hn, hi⟩ := roomsG_ex (rs := r :: rs) (k := 0) fun i q hq => by
    match i, hq with
    | 0, hq => cases hq; exact h
    | i + 1, hq => rw [Nat.zero_add]; exact (hs i q hq).room
  refine ⟨l, hn, fun i r h => by have := hi i r h; rwa [Nat.zero_add] at this, ALe.pv (PLe.sl ?_)⟩
  rw [List.drop_zero, List.take_of_length_le (by simp)]
  exact hl
theorem at_app {α : Type} {l : List α} {x y : α} {i : Nat} (h : (l ++ [x])[i]? = some y) : l[i]? = some y ∨ (i = l.length ∧ y = x) := by
  rcases Nat.lt_trichotomy i l.length with k | k | k
  · rw [List.getElem?_append_left k] at h; exact .inl h
  · subst k; rw [List.getElem?_append_right (Nat.le_refl _)] at h; simp at h; exact .inr ⟨rfl, h.symm⟩
  · rw [List.getElem?_append_right (by omega)] at h
    obtain ⟨n, hn⟩ : ∃ n, i - l.length = n + 1 := ⟨i - l.length - 1, by omega⟩
    rw [hn] at h; simp at h
/-- Sittings so far, and what comes behind them. -/
def SitsT (l : List Sitting) (day start : Int) : Prop := SitsG l ∧ ∀ (i : Nat) p, l[i]? = some p → lexP p ⟨day, start, 0, 0⟩
theorem SitsT.nil {d s : Int} : SitsT [] d s := ⟨⟨fun i s h => by simp at h, fun i p s h => by simp at h⟩, fun i p h => by simp at h⟩
theorem lexP_to {p : Sitting} {d s d2 s2 : Int} (h : lexP p ⟨d, s, 0, 0⟩) (h2 : d < d2 ∨ (d = d2 ∧ s < s2)) : lexP p ⟨d2, s2, 0, 0⟩ := by
  unfold lexP at *; dsimp only at *; omega
theorem SitsT.snoc {l : List Sitting} {d s n c d2 s2 : Int} (h : SitsT l d s) (ht : timedP ⟨d, s, n, c⟩) (hc : 0 ≤ c ∧ c ≤ 1000) (h2 : d < d2 ∨ (d = d2 ∧ s < s2)) : SitsT (l ++ [⟨d, s, n, c⟩]) d2 s2 := by
  refine ⟨⟨fun i q hq => ?_, fun i p q hp hq => ?_⟩, fun i p hp => ?_⟩
  · rcases at_app hq with hq | ⟨-, rfl⟩
    · exact h.1.at_ i q hq
    · exact ⟨ht, hc⟩
  · rcases at_app hq with hq | ⟨hi, rfl⟩
    · rcases at_app hp with hp | ⟨hj, rfl⟩
      · exact h.1.next i p q hp hq
      · have := (List.getElem?_eq_some_iff.1 hq).1
        omega
    · rcases at_app hp with hp | ⟨hj, rfl⟩
      · have := h.2 i p hp
        exact this
      · omega
  · rcases at_app hp with hp | ⟨-, rfl⟩
    · exact lexP_to (h.2 i p hp) h2
    · unfold lexP; dsimp only; exact h2
/-- Students as_ they are made, so far. -/
def StudT (i : Nat) (l : List Str) : Prop := ∃ js : List Nat, l = js.map (nm 115) ∧ js.Pairwise (· < ·) ∧ (∀ j ∈ js, j < i) ∧ js.length ≤ i
theorem StudT.nil : StudT 0 [] := ⟨[], rfl, List.Pairwise.nil, fun j h => (by cases h), Nat.le_refl _⟩
theorem StudT.skip {i : Nat} {l : List Str} (h : StudT i l) : StudT (i + 1) l := by
  obtain ⟨js, h1, h2, h3, h4⟩ := h
  exact ⟨js, h1, h2, fun j hj => Nat.lt_succ_of_lt (h3 j hj), Nat.le_succ_of_le h4⟩
theorem StudT.snoc {i : Nat} {l : List Str} (h : StudT i l) : StudT (i + 1) (l ++ [nm 115 i]) := by
  obtain ⟨js, rfl, h2, h3, h4⟩ := h
  refine ⟨js ++ [i], by simp, List.pairwise_append.2 ⟨h2, List.pairwise_singleton .., fun a ha b hb => ?_⟩, fun j hj => ?_, by simp; omega⟩
  · rw [List.mem_singleton] at hb; subst hb; exact h3 a ha
  · rcases List.mem_append.1 hj with hj | hj
    · exact Nat.lt_succ_of_lt (h3 j hj)
    · rw [List.mem_singleton] at hj; omega
theorem StudT.len {i : Nat} {l : List Str} (h : StudT i l) : l.length ≤ i := by
  obtain ⟨js, rfl, h2, h3, h4⟩ := h
  simpa using h4
theorem StudT.asc {l : List Str} (h : StudT 4 l) : ascP l ∧ l.length ≤ 4 := by
  obtain ⟨js, rfl, h2, h3, h4⟩ := h
  refine ⟨⟨fun i hi s hs => ?_, fun i hi s p hs hp => ?_⟩, by simpa using h4⟩
  · rw [List.getElem?_map, Option.map_eq_some_iff] at hs
    obtain ⟨j, hj, rfl⟩ := hs
    exact nm_code chr_s (by have := h3 j (List.mem_of_getElem? hj); omega)
  · rw [List.getElem?_map, Option.map_eq_some_iff] at hs hp
    obtain ⟨j, hj, rfl⟩ := hs
    obtain ⟨k, hk, rfl⟩ := hp
    exact nm_lt (pw_next h2 hk hj) (by have := h3 j (List.mem_of_getElem? hj); omega)
def StudG (l : List Str) : Prop := ascP l ∧ l.length ≤ 4 ∧ l ≠ []
theorem studG9 : StudG [s9] := ⟨asc_one code_s9, by decide, by simp⟩
theorem studT_all {i : Nat} {w : Str} {l : List Str} (h : StudT i (w :: l)) (h1 : i ≥ 4) (h2 : i ≤ 4) : StudG (w :: l) := by
  obtain rfl : i = 4 := by omega
  exact ⟨h.asc.1, h.asc.2, by simp⟩
theorem c_madeG (t : List Int) (k : Nat) (ht : t.length ≤ 400) (hk : k ≤ t.length) :
    ACall Tryz.prog 24 [.ptr 0 2 0 0] [dice t k] (fun r H' => ∃ (x : Exams) (k' : Nat), k' ≤ t.length ∧ MadeX x ∧ r = ag x.cells ∧ H' = [dice t k']) := by
  refine acall_of tok mixed 160 rfl (fn := Tryz.f24) (c := Tryz.f24.body.getD .skip) (by kernel_rfl) (by kernel_rfl) (by kernel_rfl) rfl 1 rfl ?_
  repeat' (first | refine o1 ?_ | refine o2 ?_ | refine k1 ?_ | refine k2 ?_ | refine k3 ?_ | refine k4 ?_ | refine k6 ?_ | refine k7 ?_ | refine k8 ?_ | refine And.intro ?_ ?_ | exact trivial | refine o3 ?_ | refine o4 ?_ | refine o5 ?_ | refine o6 ?_ | refine k5 ?_ | (intro h; first | exact Bool.noConfusion h | exact nz _ h | exact nl h | (simp at h; done) | (simp at h; first | (exfalso; omega) | skip) | skip) | (change retOk _ _ _ _; refine ret_pure rfl trivial ?_) | exact (rfl : allOne _ = true) | (refine (?_ : (0 : Int) ≤ _); omega) | (refine (?_ : _ ≠ _); omega) | (refine (?_ : srcLen _ = rowsLen _); rfl) | exact Nat.le_of_ble_eq_true rfl | exact (by kernel_rfl : drawOk _ _ = true) | refine eqv_len_map ?_ | refine eqv_size ?_ | refine eqv_put (eqv_ck ?_) | refine eqv_zero ?_ | refine eqv_wrap (by omega) (by omega) ?_ | refine eqv_u64 (by omega) (by omega) ?_ | refine eqv_u8 (by omega) (by omega) ?_ | refine eqv_to _ (set_map rfl rfl) ?_ | refine ⟨_, _, (by first | rfl | assumption), at_map (by assumption), ?_⟩ | refine ⟨_, _, (by first | rfl | assumption), (by assumption), ?_⟩ | refine ⟨_, at_map (by assumption), (by decide), ?_⟩ | refine ⟨_, at_map (by assumption), ?_⟩ | (refine (?_ : _ ≤ 140737488355328); simp [rowsLen] <;> omega) | (refine (?_ : _ ≤ 9223372036854775807); simp [rowsLen] <;> omega) | (refine (?_ : _ = rowsLen _); simp [rowsLen] <;> omega) | refine eqv_to _ (app_row rfl) (eqv_to _ app_len ?_) | refine eqv_to _ (app_first rfl) (eqv_to 1 rfl ?_) | refine idx_sl (at_map (by assumption)) (by omega) ?_ | refine idx_ms _ (by first | rfl | assumption) (by first | assumption | omega) ?_ | (change vcFun _ _ _ _ _; refine call_next 0 rfl (by assumption) (by assumption) (by omega) (by omega) ?_; intro v kq hv1 hv2 hkq) | (change vcFun _ _ _ _ _; refine call_one2 0 rfl (by assumption) (by assumption) (by omega) (by omega) ?_; intro bq kq hkq) | (change vcFunD _ _ _ _ _; refine callD_next 0 rfl (by assumption) (by assumption) (by omega) (by omega) ?_; intro v kq hv1 hv2 hkq) | (change vcFunD _ _ _ _ _; refine callD_one2 0 rfl (by assumption) (by assumption) (by omega) (by omega) ?_; intro bq kq hkq) | fail)
  refine loop_in (fun x : Nat × Nat × List (List PV) => [(4, vint .i64 x.1)]) (fun x => [dice t x.2.1, zeroG, some ⟨33, 8, false, .box [slP 3 5 x.2.2, nilA, nilA, g0, g0, g0, g0, g0]⟩, obP 72 5 x.2.2])
    (fun x => (x.1 + x.2.2.length ≤ 2 ∧ 1 ≤ x.1 + x.2.2.length) ∧ x.2.1 ≤ t.length ∧ ∀ (i : Nat) r, x.2.2[i]? = some r → rmG i r) (fun x => x.1) ((1 + v).toNat, kq, []) ⟨by simp; omega, hkq, by simp⟩ ⟨?_, ?_⟩
  · exact back [0, 1, 2, 3] rfl rfl ⟨rfl, rfl, rfl, trivial⟩ ⟨slot_eq rfl (congrArg (vint .i64) (by show _ = (((1 + v).toNat : Nat) : Int); omega)), by repeat' (first | exact trivial | exact rfl | exact ⟨_, rfl, ALe.refl⟩ | refine And.intro ?_ ?_)⟩
  rintro ⟨n, k, rs⟩ ⟨c1, c2, c3⟩
  rcases rs with _ | ⟨r, rs⟩
  · dsimp only [slP, obP, zeroG, nilA, g0, List.length_cons, List.length_nil] at c1 c2 c3 ⊢
    repeat' (first | (refine bytes_at (by omega) (by omega) rfl ?_) | ((show Nat.le (ByteArray.size _ + ByteArray.size _) _; exact Nat.le_of_ble_eq_true rfl)) | refine o1 ?_ | refine o2 ?_ | refine k1 ?_ | refine k2 ?_ | refine k3 ?_ | refine k4 ?_ | refine k6 ?_ | refine k7 ?_ | refine k8 ?_ | refine And.intro ?_ ?_ | exact trivial | refine o3 ?_ | refine o4 ?_ | refine o5 ?_ | refine o6 ?_ | refine k5 ?_ | (intro h; first | exact Bool.noConfusion h | exact nz _ h | exact nl h | (simp at h; done) | (simp at h; first | (exfalso; omega) | skip) | skip) | (change retOk _ _ _ _; refine ret_pure rfl trivial ?_) | exact (rfl : allOne _ = true) | (refine (?_ : (0 : Int) ≤ _); omega) | (refine (?_ : _ ≠ _); omega) | (refine (?_ : srcLen _ = rowsLen _); rfl) | exact Nat.le_of_ble_eq_true rfl | exact (by kernel_rfl : drawOk _ _ = true) | refine eqv_len_map ?_ | refine eqv_size ?_ | refine eqv_put (eqv_ck ?_) | refine eqv_zero ?_ | refine eqv_wrap (by omega) (by omega) ?_ | refine eqv_u64 (by omega) (by omega) ?_ | refine eqv_u8 (by omega) (by omega) ?_ | refine eqv_to _ (set_map rfl rfl) ?_ | refine ⟨_, _, (by first | rfl | assumption), at_map (by assumption), ?_⟩ | refine ⟨_, _, (by first | rfl | assumption), (by assumption), ?_⟩ | refine ⟨_, at_map (by assumption), (by decide), ?_⟩ | refine ⟨_, at_map (by assumption), ?_⟩ | (refine (?_ : _ ≤ 140737488355328); simp [rowsLen] <;> omega) | (refine (?_ : _ ≤ 9223372036854775807); simp [rowsLen] <;> omega) | (refine (?_ : _ = rowsLen _); simp [rowsLen] <;> omega) | refine eqv_to _ (app_row rfl) (eqv_to _ app_len ?_) | refine eqv_to _ (app_first rfl) (eqv_to 1 rfl ?_) | refine idx_sl (at_map (by assumption)) (by omega) ?_ | refine idx_ms _ (by first | rfl | assumption) (by first | assumption | omega) ?_ | (change vcFun _ _ _ _ _; refine call_next 0 rfl (by assumption) (by assumption) (by omega) (by omega) ?_; intro v kq hv1 hv2 hkq) | (change vcFun _ _ _ _ _; refine call_one2 0 rfl (by assumption) (by assumption) (by omega) (by omega) ?_; intro bq kq hkq) | (change vcFunD _ _ _ _ _; refine callD_next 0 rfl (by assumption) (by assumption) (by omega) (by omega) ?_; intro v kq hv1 hv2 hkq) | (change vcFunD _ _ _ _ _; refine callD_one2 0 rfl (by assumption) (by assumption) (by omega) (by omega) ?_; intro bq kq hkq) | fail)
    all_goals first
      | (exfalso; omega)
      | exact ⟨(n - 1, kq, [_]), ⟨⟨by show n - 1 + 1 ≤ 2; omega, by show 1 ≤ n - 1 + 1; omega⟩, hkq, fun i r hr => by
          rcases at_app (l := []) hr with hr | ⟨rfl, rfl⟩
          · simp at hr
          · exact ⟨_, rfl, by omega, by omega⟩⟩, (by show n - 1 < n; omega), back [0, 1, 2, 6] rfl rfl ⟨rfl, rfl, rfl, rfl, trivial⟩ ⟨slot_eq rfl (congrArg (vint .i64) (by show _ = ((n - 1 : Nat) : Int); omega)), by repeat' (first | exact trivial | exact rfl | exact ⟨_, rfl, ALe.refl⟩ | refine And.intro ?_ ?_)⟩⟩
  · dsimp only [slP, obP, zeroG, nilA, g0, List.length_cons, List.length_nil] at c1 c2 c3 ⊢
    rcases Nat.eq_zero_or_pos n with rfl | hn
    · obtain ⟨s, rfl, hs1, hs2⟩ := c3 0 r rfl
      have c3 : ∀ (i : Nat) q, rs[i]? = some q → rmG (i + 1) q := fun i q hq => c3 (i + 1) q hq
      have crs : rs.length ≤ 1 := by omega
      repeat' (first | (refine join_in (a := .seq (.region 6 _ _) _) (fun _ => []) (fun x : Nat × List PV × List (List PV) => [dice t x.1, zeroG, some ⟨33, 8, false, .box [.ms 3 5 0 (x.2.2.length + 1), nilA, nilA, g0, g0, g0, g0, g0]⟩, some ⟨72, 5, false, .p (x.2.1 :: x.2.2)⟩]) (fun x => x.1 ≤ t.length ∧ (∃ s cl ts, x.2.1 = [es (nm 82 0), es sB, ei s, .val (.slice none 0 0), cl] ∧ (2 ≤ s ∧ s ≤ 5) ∧ PLe cl (encTimes ts) ∧ ClosG ts) ∧ (∀ (i : Nat) r, x.2.2[i]? = some r → rmG (i + 1) r) ∧ x.2.2.length ≤ 1) ?_) | (refine ⟨0, rfl, Nat.succ_pos _, eqv_to 0 rfl ?_⟩) | (refine ⟨_, rfl, Nat.le_of_ble_eq_true rfl, eqv_rfl ?_⟩) | refine o1 ?_ | refine o2 ?_ | refine k1 ?_ | refine k2 ?_ | refine k3 ?_ | refine k4 ?_ | refine k6 ?_ | refine k7 ?_ | refine k8 ?_ | refine And.intro ?_ ?_ | exact trivial | refine o3 ?_ | refine o4 ?_ | refine o5 ?_ | refine o6 ?_ | refine k5 ?_ | (intro h; first | exact Bool.noConfusion h | exact nz _ h | exact nl h | (simp at h; done) | (simp at h; first | (exfalso; omega) | skip) | skip) | (change retOk _ _ _ _; refine ret_pure rfl trivial ?_) | exact (rfl : allOne _ = true) | (refine (?_ : (0 : Int) ≤ _); omega) | (refine (?_ : _ ≠ _); omega) | (refine (?_ : srcLen _ = rowsLen _); rfl) | exact Nat.le_of_ble_eq_true rfl | exact (by kernel_rfl : drawOk _ _ = true) | refine eqv_len_map ?_ | refine eqv_size ?_ | refine eqv_put (eqv_ck ?_) | refine eqv_zero ?_ | refine eqv_wrap (by omega) (by omega) ?_ | refine eqv_u64 (by omega) (by omega) ?_ | refine eqv_u8 (by omega) (by omega) ?_ | refine eqv_to _ (set_map rfl rfl) ?_ | refine ⟨_, _, (by first | rfl | assumption), at_map (by assumption), ?_⟩ | refine ⟨_, _, (by first | rfl | assumption), (by assumption), ?_⟩ | refine ⟨_, at_map (by assumption), (by decide), ?_⟩ | refine ⟨_, at_map (by assumption), ?_⟩ | (refine (?_ : _ ≤ 140737488355328); simp [rowsLen] <;> omega) | (refine (?_ : _ ≤ 9223372036854775807); simp [rowsLen] <;> omega) | (refine (?_ : _ = rowsLen _); simp [rowsLen] <;> omega) | refine eqv_to _ (app_row rfl) (eqv_to _ app_len ?_) | refine eqv_to _ (app_first rfl) (eqv_to 1 rfl ?_) | refine idx_sl (at_map (by assumption)) (by omega) ?_ | refine idx_ms _ (by first | rfl | assumption) (by first | assumption | omega) ?_ | (change vcFun _ _ _ _ _; refine call_next 0 rfl (by assumption) (by assumption) (by omega) (by omega) ?_; intro v kq hv1 hv2 hkq) | (change vcFun _ _ _ _ _; refine call_one2 0 rfl (by assumption) (by assumption) (by omega) (by omega) ?_; intro bq kq hkq) | (change vcFunD _ _ _ _ _; refine callD_next 0 rfl (by assumption) (by assumption) (by omega) (by omega) ?_; intro v kq hv1 hv2 hkq) | (change vcFunD _ _ _ _ _; refine callD_one2 0 rfl (by assumption) (by assumption) (by omega) (by omega) ?_; intro bq kq hkq) | fail)
      all_goals first
        | exact ⟨(kq, [es (nm 82 0), es sB, ei s, .val (.slice none 0 0), .val (.slice none 0 0)], rs), ⟨hkq, ⟨s, _, [], rfl, ⟨hs1, hs2⟩, PLe.nil, .inl rfl⟩, c3, crs⟩, back [0, 1, 2, 3] rfl rfl ⟨rfl, rfl, rfl, rfl, trivial⟩ (by repeat' (first | exact trivial | exact rfl | exact ⟨_, rfl, ALe.refl⟩ | refine And.intro ?_ ?_))⟩
        | skip
      · rename_i w1 q1 a1 a2 a3 w2 q2 b1 b2 b3
        refine ⟨(kq, [es (nm 82 0), es sB, ei s, .val (.slice none 0 0), .sl 4 [[ei (1 + w1), ei w2, ei v, ei 1]]], rs), ⟨hkq, ⟨s, _, [⟨1 + w1, w2, v, 1⟩], rfl, ⟨hs1, hs2⟩, PLe.refl, .inr ⟨1 + w1, w2, v, rfl, by omega, by omega, by omega⟩⟩, c3, crs⟩, Ghost.trans (Ghost.shut0 (i := 3) (c := 4) (r := [es (nm 82 0), es sB, ei s, .val (.slice none 0 0), .val (.slice none 0 0)]) (xs := rs) (x := .ms 4 4 0 1) rfl rfl (Nat.le_of_ble_eq_true rfl) rfl (by repeat' (first | trivial | refine And.intro ?_ ?_ | (show 0 + _ ≤ List.length _; simp))) ?_ ALe.refl) (back [0, 1, 2, 3] rfl rfl ⟨rfl, rfl, rfl, rfl, trivial⟩ (by repeat' (first | exact trivial | exact rfl | exact ⟨_, rfl, ALe.refl⟩ | refine And.intro ?_ ?_)))⟩
        · show ¬ (3 ∈ ([4] : List Nat))
          decide
      refine ⟨?_⟩
      rintro ⟨k, r, rs⟩ ⟨c2, ⟨s, cl, ts, e, hs, hcl, hts⟩, c3, c3n⟩
      dsimp only at c2 c3 c3n e ⊢
      subst e
      have hs1 : ∀ w : List PV, roomRG 0 w → ∃ l : List Room, l.length = rs.length + 1 ∧ (∀ (i : Nat) r, l[i]? = some r → RoomG i r) ∧ ALe (.pv (.sl 5 (List.take (rs.length + 1) (List.drop 0 (w :: rs))))) (.pv (encRooms l)) := fun w hw => roomsG_le hw c3
      repeat' (first | (refine join_in (a := .seq (.region 8 _ _) _) (fun _ => []) (fun x : Nat × List Room => [dice t x.1, zeroG, some ⟨33, 8, false, .box [.pv (encRooms x.2), nilA, nilA, g0, g0, g0, g0, g0]⟩]) (fun x => x.1 ≤ t.length ∧ x.2.length ≤ 2 ∧ ∀ (i : Nat) r, x.2[i]? = some r → RoomG i r) ?_) | (refine ⟨0, rfl, Nat.succ_pos _, eqv_to 0 rfl ?_⟩) | (refine ⟨_, rfl, Nat.le_of_ble_eq_true rfl, eqv_rfl ?_⟩) | refine o1 ?_ | refine o2 ?_ | refine k1 ?_ | refine k2 ?_ | refine k3 ?_ | refine k4 ?_ | refine k6 ?_ | refine k7 ?_ | refine k8 ?_ | refine And.intro ?_ ?_ | exact trivial | refine o3 ?_ | refine o4 ?_ | refine o5 ?_ | refine o6 ?_ | refine k5 ?_ | (intro h; first | exact Bool.noConfusion h | exact nz _ h | exact nl h | (simp at h; done) | (simp at h; first | (exfalso; omega) | skip) | skip) | (change retOk _ _ _ _; refine ret_pure rfl trivial ?_) | exact (rfl : allOne _ = true) | (refine (?_ : (0 : Int) ≤ _); omega) | (refine (?_ : _ ≠ _); omega) | (refine (?_ : srcLen _ = rowsLen _); rfl) | exact Nat.le_of_ble_eq_true rfl | exact (by kernel_rfl : drawOk _ _ = true) | refine eqv_len_map ?_ | refine eqv_size ?_ | refine eqv_put (eqv_ck ?_) | refine eqv_zero ?_ | refine eqv_wrap (by omega) (by omega) ?_ | refine eqv_u64 (by omega) (by omega) ?_ | refine eqv_u8 (by omega) (by omega) ?_ | refine eqv_to _ (set_map rfl rfl) ?_ | refine ⟨_, _, (by first | rfl | assumption), at_map (by assumption), ?_⟩ | refine ⟨_, _, (by first | rfl | assumption), (by assumption), ?_⟩ | refine ⟨_, at_map (by assumption), (by decide), ?_⟩ | refine ⟨_, at_map (by assumption), ?_⟩ | (refine (?_ : _ ≤ 140737488355328); simp [rowsLen] <;> omega) | (refine (?_ : _ ≤ 9223372036854775807); simp [rowsLen] <;> omega) | (refine (?_ : _ = rowsLen _); simp [rowsLen] <;> omega) | refine eqv_to _ (app_row rfl) (eqv_to _ app_len ?_) | refine eqv_to _ (app_first rfl) (eqv_to 1 rfl ?_) | refine idx_sl (at_map (by assumption)) (by omega) ?_ | refine idx_ms _ (by first | rfl | assumption) (by first | assumption | omega) ?_ | (change vcFun _ _ _ _ _; refine call_next 0 rfl (by assumption) (by assumption) (by omega) (by omega) ?_; intro v kq hv1 hv2 hkq) | (change vcFun _ _ _ _ _; refine call_one2 0 rfl (by assumption) (by assumption) (by omega) (by omega) ?_; intro bq kq hkq) | (change vcFunD _ _ _ _ _; refine callD_next 0 rfl (by assumption) (by assumption) (by omega) (by omega) ?_; intro v kq hv1 hv2 hkq) | (change vcFunD _ _ _ _ _; refine callD_one2 0 rfl (by assumption) (by assumption) (by omega) (by omega) ?_; intro bq kq hkq) | fail)
      · obtain ⟨l, hn, hl1, hl⟩ := hs1 [es (nm 82 0), es sB, ei s, .sl 1 [[es sLab]], cl] ⟨⟨nm 82 0, sB, s, [sLab], ts⟩, ⟨PLe.refl, PLe.refl, PLe.refl, PLe.refl, hcl, trivial⟩, ⟨rfl, rfl, hs, .inr rfl, hts⟩⟩
        refine ⟨(kq, l), ⟨hkq, (by show l.length ≤ 2; omega), hl1⟩, Ghost.trans (Ghost.shut0 (i := 3) (c := 3) (r := [es (nm 82 0), es sB, ei s, .val (.slice none 0 0), cl]) (xs := rs) (x := .ms 4 1 0 1) rfl rfl (Nat.le_of_ble_eq_true rfl) rfl (by repeat' (first | trivial | refine And.intro ?_ ?_ | (show 0 + _ ≤ List.length _; simp))) ?_ ALe.refl) (Ghost.trans (Ghost.shut (i := 2) (c := 0) (x := .ms 3 5 0 (rs.length + 1)) rfl rfl rfl (by repeat' (first | trivial | refine And.intro ?_ ?_ | (show 0 + _ ≤ List.length _; simp))) ?_ hl) (back [0, 1, 2] rfl rfl ⟨rfl, rfl, rfl, trivial⟩ (by repeat' (first | exact trivial | exact rfl | exact ⟨_, rfl, ALe.refl⟩ | refine And.intro ?_ ?_))))⟩
        · show ¬ (3 ∈ ([4] : List Nat))
          decide
        · show ¬ (2 ∈ ([3] : List Nat))
          decide
      · obtain ⟨l, hn, hl1, hl⟩ := hs1 [es (nm 82 0), es sB, ei s, .val (.slice none 0 0), cl] ⟨⟨nm 82 0, sB, s, [], ts⟩, ⟨PLe.refl, PLe.refl, PLe.refl, PLe.nil, hcl, trivial⟩, ⟨rfl, rfl, hs, .inl rfl, hts⟩⟩
        refine ⟨(kq, l), ⟨hkq, (by show l.length ≤ 2; omega), hl1⟩, Ghost.trans (Ghost.shut (i := 2) (c := 0) (x := .ms 3 5 0 (rs.length + 1)) rfl rfl rfl (by repeat' (first | trivial | refine And.intro ?_ ?_ | (show 0 + _ ≤ List.length _; simp))) ?_ hl) (back [0, 1, 2] rfl rfl ⟨rfl, rfl, rfl, trivial⟩ (by repeat' (first | exact trivial | exact rfl | exact ⟨_, rfl, ALe.refl⟩ | refine And.intro ?_ ?_)))⟩
        show ¬ (2 ∈ ([3] : List Nat))
        decide
      refine ⟨?_⟩
      rintro ⟨k, rl⟩ ⟨c2, crn, crl⟩
      dsimp only at c2 crn crl ⊢
      repeat' (first | (refine join_in (a := .seq (.region 10 _ _) _) (fun _ => []) (fun x : Nat × List Exam => [dice t x.1, zeroG, some ⟨33, 8, false, .box [.pv (encRooms rl), .pv (.sl 4 (x.2.map Exam.row)), nilA, g0, g0, g0, g0, g0]⟩]) (fun x => x.1 ≤ t.length ∧ x.2.length ≤ 4 ∧ ∀ (i : Nat) e, x.2[i]? = some e → ExamG i e) ?_) | refine o1 ?_ | refine o2 ?_ | refine k1 ?_ | refine k2 ?_ | refine k3 ?_ | refine k4 ?_ | refine k6 ?_ | refine k7 ?_ | refine k8 ?_ | refine And.intro ?_ ?_ | exact trivial | refine o3 ?_ | refine o4 ?_ | refine o5 ?_ | refine o6 ?_ | refine k5 ?_ | (intro h; first | exact Bool.noConfusion h | exact nz _ h | exact nl h | (simp at h; done) | (simp at h; first | (exfalso; omega) | skip) | skip) | (change retOk _ _ _ _; refine ret_pure rfl trivial ?_) | exact (rfl : allOne _ = true) | (refine (?_ : (0 : Int) ≤ _); omega) | (refine (?_ : _ ≠ _); omega) | (refine (?_ : srcLen _ = rowsLen _); rfl) | exact Nat.le_of_ble_eq_true rfl | exact (by kernel_rfl : drawOk _ _ = true) | refine eqv_len_map ?_ | refine eqv_size ?_ | refine eqv_put (eqv_ck ?_) | refine eqv_zero ?_ | refine eqv_wrap (by omega) (by omega) ?_ | refine eqv_u64 (by omega) (by omega) ?_ | refine eqv_u8 (by omega) (by omega) ?_ | refine eqv_to _ (set_map rfl rfl) ?_ | refine ⟨_, _, (by first | rfl | assumption), at_map (by assumption), ?_⟩ | refine ⟨_, _, (by first | rfl | assumption), (by assumption), ?_⟩ | refine ⟨_, at_map (by assumption), (by decide), ?_⟩ | refine ⟨_, at_map (by assumption), ?_⟩ | (refine (?_ : _ ≤ 140737488355328); simp [rowsLen] <;> omega) | (refine (?_ : _ ≤ 9223372036854775807); simp [rowsLen] <;> omega) | (refine (?_ : _ = rowsLen _); simp [rowsLen] <;> omega) | refine eqv_to _ (app_row rfl) (eqv_to _ app_len ?_) | refine eqv_to _ (app_first rfl) (eqv_to 1 rfl ?_) | refine idx_sl (at_map (by assumption)) (by omega) ?_ | refine idx_ms _ (by first | rfl | assumption) (by first | assumption | omega) ?_ | (change vcFun _ _ _ _ _; refine call_next 0 rfl (by assumption) (by assumption) (by omega) (by omega) ?_; intro v kq hv1 hv2 hkq) | (change vcFun _ _ _ _ _; refine call_one2 0 rfl (by assumption) (by assumption) (by omega) (by omega) ?_; intro bq kq hkq) | (change vcFunD _ _ _ _ _; refine callD_next 0 rfl (by assumption) (by assumption) (by omega) (by omega) ?_; intro v kq hv1 hv2 hkq) | (change vcFunD _ _ _ _ _; refine callD_one2 0 rfl (by assumption) (by assumption) (by omega) (by omega) ?_; intro bq kq hkq) | fail)
      · refine loop_in (fun x : Nat × Nat × List Exam => [(5, vint .i64 x.1)]) (fun x => [dice t x.2.1, zeroG, some ⟨33, 8, false, .box [.pv (encRooms rl), slP 3 4 (x.2.2.map Exam.row), nilA, g0, g0, g0, g0, g0]⟩, obP 69 4 (x.2.2.map Exam.row)])
          (fun x => x.1 + x.2.2.length ≤ 4 ∧ x.2.1 ≤ t.length ∧ ∀ (i : Nat) e, x.2.2[i]? = some e → ExamG i e) (fun x => x.1) (v.toNat, kq, []) ⟨by simp; omega, hkq, by simp⟩ ⟨?_, ?_⟩
        · exact back [0, 1, 2, 3] rfl rfl ⟨rfl, rfl, rfl, trivial⟩ ⟨slot_eq rfl (congrArg (vint .i64) (by show _ = ((v.toNat : Nat) : Int); omega)), by repeat' (first | exact trivial | exact rfl | exact ⟨_, rfl, ALe.refl⟩ | refine And.intro ?_ ?_)⟩
        rintro ⟨n, k, l⟩ ⟨c1, c2, cex⟩
        rcases l with _ | ⟨e0, l⟩
        · have hlm : (([]).map Exam.row).length = ([]).length := List.length_map ..
          dsimp only [slP, obP, zeroG, nilA, g0, List.length_cons, List.length_nil, List.map] at c1 c2 cex hlm ⊢
          rcases Nat.eq_zero_or_pos n with rfl | hn
          · repeat' (first | refine o1 ?_ | refine o2 ?_ | refine k1 ?_ | refine k2 ?_ | refine k3 ?_ | refine k4 ?_ | refine k6 ?_ | refine k7 ?_ | refine k8 ?_ | refine And.intro ?_ ?_ | exact trivial | refine o3 ?_ | refine o4 ?_ | refine o5 ?_ | refine o6 ?_ | refine k5 ?_ | (intro h; first | exact Bool.noConfusion h | exact nz _ h | exact nl h | (simp at h; done) | (simp at h; first | (exfalso; omega) | skip) | skip) | (change retOk _ _ _ _; refine ret_pure rfl trivial ?_) | exact (rfl : allOne _ = true) | (refine (?_ : (0 : Int) ≤ _); omega) | (refine (?_ : _ ≠ _); omega) | (refine (?_ : srcLen _ = rowsLen _); rfl) | exact Nat.le_of_ble_eq_true rfl | exact (by kernel_rfl : drawOk _ _ = true) | refine eqv_len_map ?_ | refine eqv_size ?_ | refine eqv_put (eqv_ck ?_) | refine eqv_zero ?_ | refine eqv_wrap (by omega) (by omega) ?_ | refine eqv_u64 (by omega) (by omega) ?_ | refine eqv_u8 (by omega) (by omega) ?_ | refine eqv_to _ (set_map rfl rfl) ?_ | refine ⟨_, _, (by first | rfl | assumption), at_map (by assumption), ?_⟩ | refine ⟨_, _, (by first | rfl | assumption), (by assumption), ?_⟩ | refine ⟨_, at_map (by assumption), (by decide), ?_⟩ | refine ⟨_, at_map (by assumption), ?_⟩ | (refine (?_ : _ ≤ 140737488355328); simp [rowsLen] <;> omega) | (refine (?_ : _ ≤ 9223372036854775807); simp [rowsLen] <;> omega) | (refine (?_ : _ = rowsLen _); simp [rowsLen] <;> omega) | refine eqv_to _ (app_row rfl) (eqv_to _ app_len ?_) | refine eqv_to _ (app_first rfl) (eqv_to 1 rfl ?_) | refine idx_sl (at_map (by assumption)) (by omega) ?_ | refine idx_ms _ (by first | rfl | assumption) (by first | assumption | omega) ?_ | (change vcFun _ _ _ _ _; refine call_next 0 rfl (by assumption) (by assumption) (by omega) (by omega) ?_; intro v kq hv1 hv2 hkq) | (change vcFun _ _ _ _ _; refine call_one2 0 rfl (by assumption) (by assumption) (by omega) (by omega) ?_; intro bq kq hkq) | (change vcFunD _ _ _ _ _; refine callD_next 0 rfl (by assumption) (by assumption) (by omega) (by omega) ?_; intro v kq hv1 hv2 hkq) | (change vcFunD _ _ _ _ _; refine callD_one2 0 rfl (by assumption) (by assumption) (by omega) (by omega) ?_; intro bq kq hkq) | fail)
            first
              | exact ⟨(k, []), ⟨c2, Nat.zero_le _, by simp⟩, Ghost.trans (Ghost.shut (i := 2) (c := 1) (x := .pv (.val (.slice none 0 0))) rfl rfl rfl (by repeat' (first | trivial | refine And.intro ?_ ?_ | (show 0 + _ ≤ List.length _; simp))) (show ¬ (2 ∈ ([] : List Nat)) by decide) (ALe.pv PLe.nil)) (back [0, 1, 2] rfl rfl ⟨rfl, rfl, rfl, trivial⟩ (by repeat' (first | exact trivial | exact rfl | exact ⟨_, rfl, ALe.refl⟩ | refine And.intro ?_ ?_)))⟩
              | (refine ⟨(k, []), ⟨c2, (by show List.length _ ≤ 4; simp only [List.length_cons]; omega), cex⟩, Ghost.trans (Ghost.shut (i := 2) (c := 1) (x := .ms 3 4 0 ((List.map Exam.row l).length + 1)) rfl rfl rfl (by repeat' (first | trivial | refine And.intro ?_ ?_ | (show 0 + _ ≤ List.length _; simp))) (show ¬ (2 ∈ ([3] : List Nat)) by decide) (ALe.pv (PLe.sl (?_ : PLeLL _ (([]).map Exam.row))))) (back [0, 1, 2] rfl rfl ⟨rfl, rfl, rfl, trivial⟩ (by repeat' (first | exact trivial | exact rfl | exact ⟨_, rfl, ALe.refl⟩ | refine And.intro ?_ ?_)))⟩
                 rw [List.drop_zero, List.take_of_length_le (by simp)]
                 exact PLeLL.refl)
          · repeat' (first | (refine bytes_at (by omega) (by omega) rfl ?_) | ((show Nat.le (ByteArray.size _ + ByteArray.size _) _; exact Nat.le_of_ble_eq_true rfl)) | refine o1 ?_ | refine o2 ?_ | refine k1 ?_ | refine k2 ?_ | refine k3 ?_ | refine k4 ?_ | refine k6 ?_ | refine k7 ?_ | refine k8 ?_ | refine And.intro ?_ ?_ | exact trivial | refine o3 ?_ | refine o4 ?_ | refine o5 ?_ | refine o6 ?_ | refine k5 ?_ | (intro h; first | exact Bool.noConfusion h | exact nz _ h | exact nl h | (simp at h; done) | (simp at h; first | (exfalso; omega) | skip) | skip) | (change retOk _ _ _ _; refine ret_pure rfl trivial ?_) | exact (rfl : allOne _ = true) | (refine (?_ : (0 : Int) ≤ _); omega) | (refine (?_ : _ ≠ _); omega) | (refine (?_ : srcLen _ = rowsLen _); rfl) | exact Nat.le_of_ble_eq_true rfl | exact (by kernel_rfl : drawOk _ _ = true) | refine eqv_len_map ?_ | refine eqv_size ?_ | refine eqv_put (eqv_ck ?_) | refine eqv_zero ?_ | refine eqv_wrap (by omega) (by omega) ?_ | refine eqv_u64 (by omega) (by omega) ?_ | refine eqv_u8 (by omega) (by omega) ?_ | refine eqv_to _ (set_map rfl rfl) ?_ | refine ⟨_, _, (by first | rfl | assumption), at_map (by assumption), ?_⟩ | refine ⟨_, _, (by first | rfl | assumption), (by assumption), ?_⟩ | refine ⟨_, at_map (by assumption), (by decide), ?_⟩ | refine ⟨_, at_map (by assumption), ?_⟩ | (refine (?_ : _ ≤ 140737488355328); simp [rowsLen] <;> omega) | (refine (?_ : _ ≤ 9223372036854775807); simp [rowsLen] <;> omega) | (refine (?_ : _ = rowsLen _); simp [rowsLen] <;> omega) | refine eqv_to _ (app_row rfl) (eqv_to _ app_len ?_) | refine eqv_to _ (app_first rfl) (eqv_to 1 rfl ?_) | refine idx_sl (at_map (by assumption)) (by omega) ?_ | refine idx_ms _ (by first | rfl | assumption) (by first | assumption | omega) ?_ | (change vcFun _ _ _ _ _; refine call_next 0 rfl (by assumption) (by assumption) (by omega) (by omega) ?_; intro v kq hv1 hv2 hkq) | (change vcFun _ _ _ _ _; refine call_one2 0 rfl (by assumption) (by assumption) (by omega) (by omega) ?_; intro bq kq hkq) | (change vcFunD _ _ _ _ _; refine callD_next 0 rfl (by assumption) (by assumption) (by omega) (by omega) ?_; intro v kq hv1 hv2 hkq) | (change vcFunD _ _ _ _ _; refine callD_one2 0 rfl (by assumption) (by assumption) (by omega) (by omega) ?_; intro bq kq hkq) | fail)
            all_goals first
              | (exfalso; omega)
              | skip
            refine loop_in (fun x : Nat × Nat × List Str => [(7, vint .i64 x.1)]) (fun x => [dice t x.2.1, zeroG, some ⟨33, 8, false, .box [.pv (encRooms rl), slP 3 4 (([]).map Exam.row), nilA, g0, g0, g0, g0, g0]⟩, obP 69 4 (([]).map Exam.row), none, some ⟨69, 4, false, .box [.pv (es (nm 69 (0))), vint .i64 (1 + v), nilA, slP 6 1 (x.2.2.map fun w => [es w])]⟩, obP 9 1 (x.2.2.map fun w => [es w])])
              (fun x => x.1 ≤ 4 ∧ x.2.1 ≤ t.length ∧ StudT x.1 x.2.2) (fun x => 4 - x.1) (0, kq, []) ⟨by simp, hkq, StudT.nil⟩ ⟨?_, ?_⟩
            · exact back [0, 1, 2, 3, 4, 5, 6] rfl rfl (by repeat' (first | exact trivial | exact rfl | exact ⟨_, rfl, ALe.refl⟩ | refine And.intro ?_ ?_)) (by repeat' (first | exact trivial | exact rfl | exact ⟨_, rfl, ALe.refl⟩ | refine And.intro ?_ ?_))
            rintro ⟨i, k, ss⟩ ⟨c3, c4, cst⟩
            rcases ss with _ | ⟨w0, ss⟩
            · dsimp only [slP, obP, zeroG, nilA, g0, List.length_cons, List.length_nil, List.map] at c3 c4 cst ⊢
              rcases Nat.lt_or_ge i 4 with hi | hi
              · repeat' (first | (refine bytes_at (by omega) (by omega) rfl ?_) | ((show Nat.le (ByteArray.size _ + ByteArray.size _) _; exact Nat.le_of_ble_eq_true rfl)) | refine o1 ?_ | refine o2 ?_ | refine k1 ?_ | refine k2 ?_ | refine k3 ?_ | refine k4 ?_ | refine k6 ?_ | refine k7 ?_ | refine k8 ?_ | refine And.intro ?_ ?_ | exact trivial | refine o3 ?_ | refine o4 ?_ | refine o5 ?_ | refine o6 ?_ | refine k5 ?_ | (intro h; first | exact Bool.noConfusion h | exact nz _ h | exact nl h | (simp at h; done) | (simp at h; first | (exfalso; omega) | skip) | skip) | (change retOk _ _ _ _; refine ret_pure rfl trivial ?_) | exact (rfl : allOne _ = true) | (refine (?_ : (0 : Int) ≤ _); omega) | (refine (?_ : _ ≠ _); omega) | (refine (?_ : srcLen _ = rowsLen _); rfl) | exact Nat.le_of_ble_eq_true rfl | exact (by kernel_rfl : drawOk _ _ = true) | refine eqv_len_map ?_ | refine eqv_size ?_ | refine eqv_put (eqv_ck ?_) | refine eqv_zero ?_ | refine eqv_wrap (by omega) (by omega) ?_ | refine eqv_u64 (by omega) (by omega) ?_ | refine eqv_u8 (by omega) (by omega) ?_ | refine eqv_to _ (set_map rfl rfl) ?_ | refine ⟨_, _, (by first | rfl | assumption), at_map (by assumption), ?_⟩ | refine ⟨_, _, (by first | rfl | assumption), (by assumption), ?_⟩ | refine ⟨_, at_map (by assumption), (by decide), ?_⟩ | refine ⟨_, at_map (by assumption), ?_⟩ | (refine (?_ : _ ≤ 140737488355328); simp [rowsLen] <;> omega) | (refine (?_ : _ ≤ 9223372036854775807); simp [rowsLen] <;> omega) | (refine (?_ : _ = rowsLen _); simp [rowsLen] <;> omega) | refine eqv_to _ (app_row rfl) (eqv_to _ app_len ?_) | refine eqv_to _ (app_first rfl) (eqv_to 1 rfl ?_) | refine idx_sl (at_map (by assumption)) (by omega) ?_ | refine idx_ms _ (by first | rfl | assumption) (by first | assumption | omega) ?_ | (change vcFun _ _ _ _ _; refine call_next 0 rfl (by assumption) (by assumption) (by omega) (by omega) ?_; intro v kq hv1 hv2 hkq) | (change vcFun _ _ _ _ _; refine call_one2 0 rfl (by assumption) (by assumption) (by omega) (by omega) ?_; intro bq kq hkq) | (change vcFunD _ _ _ _ _; refine callD_next 0 rfl (by assumption) (by assumption) (by omega) (by omega) ?_; intro v kq hv1 hv2 hkq) | (change vcFunD _ _ _ _ _; refine callD_one2 0 rfl (by assumption) (by assumption) (by omega) (by omega) ?_; intro bq kq hkq) | fail)
                all_goals first
                  | (exfalso; omega)
                  | skip
                · exact ⟨(i + 1, kq, [nm 115 i]), ⟨by show i + 1 ≤ 4; omega, hkq, cst.snoc⟩, (by show 4 - (i + 1) < 4 - i; omega), back [0, 1, 2, 3, 4, 5, 9] rfl rfl (by repeat' (first | exact trivial | exact rfl | exact ⟨_, rfl, ALe.refl⟩ | refine And.intro ?_ ?_)) (by repeat' (first | exact trivial | exact rfl | exact ⟨_, rfl, ALe.refl⟩ | refine And.intro ?_ ?_))⟩
                · exact ⟨(i + 1, kq, []), ⟨by show i + 1 ≤ 4; omega, hkq, cst.skip⟩, (by show 4 - (i + 1) < 4 - i; omega), back [0, 1, 2, 3, 4, 5, 6] rfl rfl (by repeat' (first | exact trivial | exact rfl | exact ⟨_, rfl, ALe.refl⟩ | refine And.intro ?_ ?_)) (by repeat' (first | exact trivial | exact rfl | exact ⟨_, rfl, ALe.refl⟩ | refine And.intro ?_ ?_))⟩
              · repeat' (first | (refine join_in (a := .seq (.region 19 _ _) _) (fun _ => []) (fun x : Nat × List Str => [dice t x.1, zeroG, some ⟨33, 8, false, .box [.pv (encRooms rl), slP 3 4 (([]).map Exam.row), nilA, g0, g0, g0, g0, g0]⟩, obP 69 4 (([]).map Exam.row), none, some ⟨69, 4, false, .box [.pv (es (nm 69 (0))), vint .i64 (1 + v), nilA, .pv (encStrs x.2)]⟩]) (fun x => x.1 ≤ t.length ∧ StudG x.2) ?_) | refine o1 ?_ | refine o2 ?_ | refine k1 ?_ | refine k2 ?_ | refine k3 ?_ | refine k4 ?_ | refine k6 ?_ | refine k7 ?_ | refine k8 ?_ | refine And.intro ?_ ?_ | exact trivial | refine o3 ?_ | refine o4 ?_ | refine o5 ?_ | refine o6 ?_ | refine k5 ?_ | (intro h; first | exact Bool.noConfusion h | exact nz _ h | exact nl h | (simp at h; done) | (simp at h; first | (exfalso; omega) | skip) | skip) | (change retOk _ _ _ _; refine ret_pure rfl trivial ?_) | exact (rfl : allOne _ = true) | (refine (?_ : (0 : Int) ≤ _); omega) | (refine (?_ : _ ≠ _); omega) | (refine (?_ : srcLen _ = rowsLen _); rfl) | exact Nat.le_of_ble_eq_true rfl | exact (by kernel_rfl : drawOk _ _ = true) | refine eqv_len_map ?_ | refine eqv_size ?_ | refine eqv_put (eqv_ck ?_) | refine eqv_zero ?_ | refine eqv_wrap (by omega) (by omega) ?_ | refine eqv_u64 (by omega) (by omega) ?_ | refine eqv_u8 (by omega) (by omega) ?_ | refine eqv_to _ (set_map rfl rfl) ?_ | refine ⟨_, _, (by first | rfl | assumption), at_map (by assumption), ?_⟩ | refine ⟨_, _, (by first | rfl | assumption), (by assumption), ?_⟩ | refine ⟨_, at_map (by assumption), (by decide), ?_⟩ | refine ⟨_, at_map (by assumption), ?_⟩ | (refine (?_ : _ ≤ 140737488355328); simp [rowsLen] <;> omega) | (refine (?_ : _ ≤ 9223372036854775807); simp [rowsLen] <;> omega) | (refine (?_ : _ = rowsLen _); simp [rowsLen] <;> omega) | refine eqv_to _ (app_row rfl) (eqv_to _ app_len ?_) | refine eqv_to _ (app_first rfl) (eqv_to 1 rfl ?_) | refine idx_sl (at_map (by assumption)) (by omega) ?_ | refine idx_ms _ (by first | rfl | assumption) (by first | assumption | omega) ?_ | fail)
                all_goals first
                  | (exfalso; omega)
                  | skip
                · exact ⟨(k, [s9]), ⟨c4, studG9⟩, Ghost.trans (Ghost.shut (i := 5) (c := 3) (x := .ms 7 1 0 1) rfl rfl rfl (by repeat' (first | trivial | refine And.intro ?_ ?_ | (show 0 + _ ≤ List.length _; simp))) (show ¬ (5 ∈ ([7] : List Nat)) by decide) ALe.refl) (back [0, 1, 2, 3, 4, 5] rfl rfl (by repeat' (first | exact trivial | exact rfl | exact ⟨_, rfl, ALe.refl⟩ | refine And.intro ?_ ?_)) (by repeat' (first | exact trivial | exact rfl | exact ⟨_, rfl, ALe.refl⟩ | refine And.intro ?_ ?_)))⟩
                refine ⟨?_⟩
                rintro ⟨k, us⟩ ⟨c5, cus⟩
                dsimp only [slP, obP, zeroG, nilA, g0, List.length_cons, List.length_nil, List.map] at c5 cus ⊢
                repeat' (first | (refine join_in (a := .seq (.region 21 _ _) _) (fun _ => []) (fun x : Nat × List Str => [dice t x.1, zeroG, some ⟨33, 8, false, .box [.pv (encRooms rl), slP 3 4 (([]).map Exam.row), nilA, g0, g0, g0, g0, g0]⟩, obP 69 4 (([]).map Exam.row), none, some ⟨69, 4, false, .box [.pv (es (nm 69 (0))), vint .i64 (1 + v), .pv (encStrs x.2), .pv (encStrs us)]⟩]) (fun x => x.1 ≤ t.length ∧ FeatG x.2) ?_) | refine o1 ?_ | refine o2 ?_ | refine k1 ?_ | refine k2 ?_ | refine k3 ?_ | refine k4 ?_ | refine k6 ?_ | refine k7 ?_ | refine k8 ?_ | refine And.intro ?_ ?_ | exact trivial | refine o3 ?_ | refine o4 ?_ | refine o5 ?_ | refine o6 ?_ | refine k5 ?_ | (intro h; first | exact Bool.noConfusion h | exact nz _ h | exact nl h | (simp at h; done) | (simp at h; first | (exfalso; omega) | skip) | skip) | (change retOk _ _ _ _; refine ret_pure rfl trivial ?_) | exact (rfl : allOne _ = true) | (refine (?_ : (0 : Int) ≤ _); omega) | (refine (?_ : _ ≠ _); omega) | (refine (?_ : srcLen _ = rowsLen _); rfl) | exact Nat.le_of_ble_eq_true rfl | exact (by kernel_rfl : drawOk _ _ = true) | refine eqv_len_map ?_ | refine eqv_size ?_ | refine eqv_put (eqv_ck ?_) | refine eqv_zero ?_ | refine eqv_wrap (by omega) (by omega) ?_ | refine eqv_u64 (by omega) (by omega) ?_ | refine eqv_u8 (by omega) (by omega) ?_ | refine eqv_to _ (set_map rfl rfl) ?_ | refine ⟨_, _, (by first | rfl | assumption), at_map (by assumption), ?_⟩ | refine ⟨_, _, (by first | rfl | assumption), (by assumption), ?_⟩ | refine ⟨_, at_map (by assumption), (by decide), ?_⟩ | refine ⟨_, at_map (by assumption), ?_⟩ | (refine (?_ : _ ≤ 140737488355328); simp [rowsLen] <;> omega) | (refine (?_ : _ ≤ 9223372036854775807); simp [rowsLen] <;> omega) | (refine (?_ : _ = rowsLen _); simp [rowsLen] <;> omega) | refine eqv_to _ (app_row rfl) (eqv_to _ app_len ?_) | refine eqv_to _ (app_first rfl) (eqv_to 1 rfl ?_) | refine idx_sl (at_map (by assumption)) (by omega) ?_ | refine idx_ms _ (by first | rfl | assumption) (by first | assumption | omega) ?_ | (change vcFun _ _ _ _ _; refine call_next 0 rfl (by assumption) (by assumption) (by omega) (by omega) ?_; intro v kq hv1 hv2 hkq) | (change vcFun _ _ _ _ _; refine call_one2 0 rfl (by assumption) (by assumption) (by omega) (by omega) ?_; intro bq kq hkq) | (change vcFunD _ _ _ _ _; refine callD_next 0 rfl (by assumption) (by assumption) (by omega) (by omega) ?_; intro v kq hv1 hv2 hkq) | (change vcFunD _ _ _ _ _; refine callD_one2 0 rfl (by assumption) (by assumption) (by omega) (by omega) ?_; intro bq kq hkq) | fail)
                · exact ⟨(kq, [sLab]), ⟨hkq, .inr rfl⟩, Ghost.trans (Ghost.shut (i := 5) (c := 2) (x := .ms 6 1 0 1) rfl rfl rfl (by repeat' (first | trivial | refine And.intro ?_ ?_ | (show 0 + _ ≤ List.length _; simp))) (show ¬ (5 ∈ ([6] : List Nat)) by decide) ALe.refl) (back [0, 1, 2, 3, 4, 5] rfl rfl (by repeat' (first | exact trivial | exact rfl | exact ⟨_, rfl, ALe.refl⟩ | refine And.intro ?_ ?_)) (by repeat' (first | exact trivial | exact rfl | exact ⟨_, rfl, ALe.refl⟩ | refine And.intro ?_ ?_)))⟩
                · exact ⟨(kq, []), ⟨hkq, .inl rfl⟩, Ghost.trans (Ghost.shut (i := 5) (c := 2) (x := .pv (.val (.slice none 0 0))) rfl rfl rfl (by repeat' (first | trivial | refine And.intro ?_ ?_ | (show 0 + _ ≤ List.length _; simp))) (show ¬ (5 ∈ ([] : List Nat)) by decide) (ALe.pv PLe.nil)) (back [0, 1, 2, 3, 4, 5] rfl rfl (by repeat' (first | exact trivial | exact rfl | exact ⟨_, rfl, ALe.refl⟩ | refine And.intro ?_ ?_)) (by repeat' (first | exact trivial | exact rfl | exact ⟨_, rfl, ALe.refl⟩ | refine And.intro ?_ ?_)))⟩
                refine ⟨?_⟩
                rintro ⟨k, fs⟩ ⟨c6, cfs⟩
                dsimp only [slP, obP, zeroG, nilA, g0, List.length_cons, List.length_nil, List.map] at c6 cfs ⊢
                repeat' (first | (refine app_consm (f := Exam.row) ⟨nm 69 (0), 1 + v, fs, us⟩ rfl ?_) | refine o1 ?_ | refine o2 ?_ | refine k1 ?_ | refine k2 ?_ | refine k3 ?_ | refine k4 ?_ | refine k6 ?_ | refine k7 ?_ | refine k8 ?_ | refine And.intro ?_ ?_ | exact trivial | refine o3 ?_ | refine o4 ?_ | refine o5 ?_ | refine o6 ?_ | refine k5 ?_ | (intro h; first | exact Bool.noConfusion h | exact nz _ h | exact nl h | (simp at h; done) | (simp at h; first | (exfalso; omega) | skip) | skip) | (change retOk _ _ _ _; refine ret_pure rfl trivial ?_) | exact (rfl : allOne _ = true) | (refine (?_ : (0 : Int) ≤ _); omega) | (refine (?_ : _ ≠ _); omega) | (refine (?_ : srcLen _ = rowsLen _); rfl) | exact Nat.le_of_ble_eq_true rfl | exact (by kernel_rfl : drawOk _ _ = true) | refine eqv_len_map ?_ | refine eqv_size ?_ | refine eqv_put (eqv_ck ?_) | refine eqv_zero ?_ | refine eqv_wrap (by omega) (by omega) ?_ | refine eqv_u64 (by omega) (by omega) ?_ | refine eqv_u8 (by omega) (by omega) ?_ | refine eqv_to _ (set_map rfl rfl) ?_ | refine ⟨_, _, (by first | rfl | assumption), at_map (by assumption), ?_⟩ | refine ⟨_, _, (by first | rfl | assumption), (by assumption), ?_⟩ | refine ⟨_, at_map (by assumption), (by decide), ?_⟩ | refine ⟨_, at_map (by assumption), ?_⟩ | (refine (?_ : _ ≤ 140737488355328); simp [rowsLen] <;> omega) | (refine (?_ : _ ≤ 9223372036854775807); simp [rowsLen] <;> omega) | (refine (?_ : _ = rowsLen _); simp [rowsLen] <;> omega) | refine eqv_to _ (app_row rfl) (eqv_to _ app_len ?_) | refine eqv_to _ (app_first rfl) (eqv_to 1 rfl ?_) | refine idx_sl (at_map (by assumption)) (by omega) ?_ | refine idx_ms _ (by first | rfl | assumption) (by first | assumption | omega) ?_ | fail)
                all_goals first
                  | (exfalso; omega)
                  | skip
                · exact ⟨(n - 1, k, [⟨nm 69 0, 1 + v, fs, us⟩]), ⟨by show n - 1 + List.length _ ≤ 4; simp; try omega, c6, fun i e he => by
                  rcases at_app (l := []) he with he | ⟨rfl, rfl⟩
                  · exact cex i e he
                  · exact ⟨by simp, by dsimp only; omega, cfs, cus⟩⟩, (by show n - 1 < n; omega), back [0, 1, 2, 7] rfl rfl (by repeat' (first | exact trivial | exact rfl | exact ⟨_, rfl, ALe.refl⟩ | refine And.intro ?_ ?_)) ⟨slot_eq rfl (congrArg (vint .i64) (by show _ = ((n - 1 : Nat) : Int); omega)), by repeat' (first | exact trivial | exact rfl | exact ⟨_, rfl, ALe.refl⟩ | refine And.intro ?_ ?_)⟩⟩
            · dsimp only [slP, obP, zeroG, nilA, g0, List.length_cons, List.length_nil, List.map] at c3 c4 cst ⊢
              have hln := cst.len
              simp only [List.length_cons] at hln
              rcases Nat.lt_or_ge i 4 with hi | hi
              · repeat' (first | (refine bytes_op (by omega) (by omega) rfl (fun sq hsq => ?_)) | ((show Nat.le (ByteArray.size _ + ByteArray.size _) _; rw [hsq]; exact Nat.le_of_ble_eq_true rfl)) | (refine app_consm (f := fun w => [es w]) (e0 := w0) (ByteArray.mk #[115] ++ sq) rfl ?_) | refine o1 ?_ | refine o2 ?_ | refine k1 ?_ | refine k2 ?_ | refine k3 ?_ | refine k4 ?_ | refine k6 ?_ | refine k7 ?_ | refine k8 ?_ | refine And.intro ?_ ?_ | exact trivial | refine o3 ?_ | refine o4 ?_ | refine o5 ?_ | refine o6 ?_ | refine k5 ?_ | (intro h; first | exact Bool.noConfusion h | exact nz _ h | exact nl h | (simp at h; done) | (simp at h; first | (exfalso; omega) | skip) | skip) | (change retOk _ _ _ _; refine ret_pure rfl trivial ?_) | exact (rfl : allOne _ = true) | (refine (?_ : (0 : Int) ≤ _); omega) | (refine (?_ : _ ≠ _); omega) | (refine (?_ : srcLen _ = rowsLen _); rfl) | exact Nat.le_of_ble_eq_true rfl | exact (by kernel_rfl : drawOk _ _ = true) | refine eqv_len_map ?_ | refine eqv_size ?_ | refine eqv_put (eqv_ck ?_) | refine eqv_zero ?_ | refine eqv_wrap (by omega) (by omega) ?_ | refine eqv_u64 (by omega) (by omega) ?_ | refine eqv_u8 (by omega) (by omega) ?_ | refine eqv_to _ (set_map rfl rfl) ?_ | refine ⟨_, _, (by first | rfl | assumption), at_map (by assumption), ?_⟩ | refine ⟨_, _, (by first | rfl | assumption), (by assumption), ?_⟩ | refine ⟨_, at_map (by assumption), (by decide), ?_⟩ | refine ⟨_, at_map (by assumption), ?_⟩ | (refine (?_ : _ ≤ 140737488355328); simp [rowsLen] <;> omega) | (refine (?_ : _ ≤ 9223372036854775807); simp [rowsLen] <;> omega) | (refine (?_ : _ = rowsLen _); simp [rowsLen] <;> omega) | refine eqv_to _ (app_row rfl) (eqv_to _ app_len ?_) | refine eqv_to _ (app_first rfl) (eqv_to 1 rfl ?_) | refine idx_sl (at_map (by assumption)) (by omega) ?_ | refine idx_ms _ (by first | rfl | assumption) (by first | assumption | omega) ?_ | (change vcFun _ _ _ _ _; refine call_next 0 rfl (by assumption) (by assumption) (by omega) (by omega) ?_; intro v kq hv1 hv2 hkq) | (change vcFun _ _ _ _ _; refine call_one2 0 rfl (by assumption) (by assumption) (by omega) (by omega) ?_; intro bq kq hkq) | (change vcFunD _ _ _ _ _; refine callD_next 0 rfl (by assumption) (by assumption) (by omega) (by omega) ?_; intro v kq hv1 hv2 hkq) | (change vcFunD _ _ _ _ _; refine callD_one2 0 rfl (by assumption) (by assumption) (by omega) (by omega) ?_; intro bq kq hkq) | fail)
                all_goals first
                  | (exfalso; omega)
                  | skip
                · subst hsq
                  exact ⟨(i + 1, kq, w0 :: (ss ++ [nm 115 i])), ⟨by show i + 1 ≤ 4; omega, hkq, cst.snoc⟩, (by show 4 - (i + 1) < 4 - i; omega), back [0, 1, 2, 3, 4, 5, 9] rfl rfl (by repeat' (first | exact trivial | exact rfl | exact ⟨_, rfl, ALe.refl⟩ | refine And.intro ?_ ?_)) (by repeat' (first | exact trivial | exact rfl | exact ⟨_, rfl, ALe.refl⟩ | refine And.intro ?_ ?_))⟩
                · exact ⟨(i + 1, kq, w0 :: ss), ⟨by show i + 1 ≤ 4; omega, hkq, cst.skip⟩, (by show 4 - (i + 1) < 4 - i; omega), back [0, 1, 2, 3, 4, 5, 6] rfl rfl (by repeat' (first | exact trivial | exact rfl | exact ⟨_, rfl, ALe.refl⟩ | refine And.intro ?_ ?_)) (by repeat' (first | exact trivial | exact rfl | exact ⟨_, rfl, ALe.refl⟩ | refine And.intro ?_ ?_))⟩
              · repeat' (first | (refine join_in (a := .seq (.region 19 _ _) _) (fun _ => []) (fun x : Nat × List Str => [dice t x.1, zeroG, some ⟨33, 8, false, .box [.pv (encRooms rl), slP 3 4 (([]).map Exam.row), nilA, g0, g0, g0, g0, g0]⟩, obP 69 4 (([]).map Exam.row), none, some ⟨69, 4, false, .box [.pv (es (nm 69 (0))), vint .i64 (1 + v), nilA, .pv (encStrs x.2)]⟩]) (fun x => x.1 ≤ t.length ∧ StudG x.2) ?_) | refine o1 ?_ | refine o2 ?_ | refine k1 ?_ | refine k2 ?_ | refine k3 ?_ | refine k4 ?_ | refine k6 ?_ | refine k7 ?_ | refine k8 ?_ | refine And.intro ?_ ?_ | exact trivial | refine o3 ?_ | refine o4 ?_ | refine o5 ?_ | refine o6 ?_ | refine k5 ?_ | (intro h; first | exact Bool.noConfusion h | exact nz _ h | exact nl h | (simp at h; done) | (simp at h; first | (exfalso; omega) | skip) | skip) | (change retOk _ _ _ _; refine ret_pure rfl trivial ?_) | exact (rfl : allOne _ = true) | (refine (?_ : (0 : Int) ≤ _); omega) | (refine (?_ : _ ≠ _); omega) | (refine (?_ : srcLen _ = rowsLen _); rfl) | exact Nat.le_of_ble_eq_true rfl | exact (by kernel_rfl : drawOk _ _ = true) | refine eqv_len_map ?_ | refine eqv_size ?_ | refine eqv_put (eqv_ck ?_) | refine eqv_zero ?_ | refine eqv_wrap (by omega) (by omega) ?_ | refine eqv_u64 (by omega) (by omega) ?_ | refine eqv_u8 (by omega) (by omega) ?_ | refine eqv_to _ (set_map rfl rfl) ?_ | refine ⟨_, _, (by first | rfl | assumption), at_map (by assumption), ?_⟩ | refine ⟨_, _, (by first | rfl | assumption), (by assumption), ?_⟩ | refine ⟨_, at_map (by assumption), (by decide), ?_⟩ | refine ⟨_, at_map (by assumption), ?_⟩ | (refine (?_ : _ ≤ 140737488355328); simp [rowsLen] <;> omega) | (refine (?_ : _ ≤ 9223372036854775807); simp [rowsLen] <;> omega) | (refine (?_ : _ = rowsLen _); simp [rowsLen] <;> omega) | refine eqv_to _ (app_row rfl) (eqv_to _ app_len ?_) | refine eqv_to _ (app_first rfl) (eqv_to 1 rfl ?_) | refine idx_sl (at_map (by assumption)) (by omega) ?_ | refine idx_ms _ (by first | rfl | assumption) (by first | assumption | omega) ?_ | fail)
                all_goals first
                  | (exfalso; omega)
                  | skip
                · refine ⟨(k, w0 :: ss), ⟨c4, studT_all cst hi c3⟩, Ghost.trans (Ghost.shut (i := 5) (c := 3) (x := .ms 6 1 0 ((List.map (fun w => [es w]) ss).length + 1)) rfl rfl rfl (by repeat' (first | trivial | refine And.intro ?_ ?_ | (show 0 + _ ≤ List.length _; simp))) (show ¬ (5 ∈ ([6] : List Nat)) by decide) (ALe.pv (PLe.sl (?_ : PLeLL _ ((w0 :: ss).map fun w => [es w]))))) (back [0, 1, 2, 3, 4, 5] rfl rfl (by repeat' (first | exact trivial | exact rfl | exact ⟨_, rfl, ALe.refl⟩ | refine And.intro ?_ ?_)) (by repeat' (first | exact trivial | exact rfl | exact ⟨_, rfl, ALe.refl⟩ | refine And.intro ?_ ?_)))⟩
                  rw [List.drop_zero, List.take_of_length_le (by simp)]
                  exact PLeLL.refl
                refine ⟨?_⟩
                rintro ⟨k, us⟩ ⟨c5, cus⟩
                dsimp only [slP, obP, zeroG, nilA, g0, List.length_cons, List.length_nil, List.map] at c5 cus ⊢
                repeat' (first | (refine join_in (a := .seq (.region 21 _ _) _) (fun _ => []) (fun x : Nat × List Str => [dice t x.1, zeroG, some ⟨33, 8, false, .box [.pv (encRooms rl), slP 3 4 (([]).map Exam.row), nilA, g0, g0, g0, g0, g0]⟩, obP 69 4 (([]).map Exam.row), none, some ⟨69, 4, false, .box [.pv (es (nm 69 (0))), vint .i64 (1 + v), .pv (encStrs x.2), .pv (encStrs us)]⟩]) (fun x => x.1 ≤ t.length ∧ FeatG x.2) ?_) | refine o1 ?_ | refine o2 ?_ | refine k1 ?_ | refine k2 ?_ | refine k3 ?_ | refine k4 ?_ | refine k6 ?_ | refine k7 ?_ | refine k8 ?_ | refine And.intro ?_ ?_ | exact trivial | refine o3 ?_ | refine o4 ?_ | refine o5 ?_ | refine o6 ?_ | refine k5 ?_ | (intro h; first | exact Bool.noConfusion h | exact nz _ h | exact nl h | (simp at h; done) | (simp at h; first | (exfalso; omega) | skip) | skip) | (change retOk _ _ _ _; refine ret_pure rfl trivial ?_) | exact (rfl : allOne _ = true) | (refine (?_ : (0 : Int) ≤ _); omega) | (refine (?_ : _ ≠ _); omega) | (refine (?_ : srcLen _ = rowsLen _); rfl) | exact Nat.le_of_ble_eq_true rfl | exact (by kernel_rfl : drawOk _ _ = true) | refine eqv_len_map ?_ | refine eqv_size ?_ | refine eqv_put (eqv_ck ?_) | refine eqv_zero ?_ | refine eqv_wrap (by omega) (by omega) ?_ | refine eqv_u64 (by omega) (by omega) ?_ | refine eqv_u8 (by omega) (by omega) ?_ | refine eqv_to _ (set_map rfl rfl) ?_ | refine ⟨_, _, (by first | rfl | assumption), at_map (by assumption), ?_⟩ | refine ⟨_, _, (by first | rfl | assumption), (by assumption), ?_⟩ | refine ⟨_, at_map (by assumption), (by decide), ?_⟩ | refine ⟨_, at_map (by assumption), ?_⟩ | (refine (?_ : _ ≤ 140737488355328); simp [rowsLen] <;> omega) | (refine (?_ : _ ≤ 9223372036854775807); simp [rowsLen] <;> omega) | (refine (?_ : _ = rowsLen _); simp [rowsLen] <;> omega) | refine eqv_to _ (app_row rfl) (eqv_to _ app_len ?_) | refine eqv_to _ (app_first rfl) (eqv_to 1 rfl ?_) | refine idx_sl (at_map (by assumption)) (by omega) ?_ | refine idx_ms _ (by first | rfl | assumption) (by first | assumption | omega) ?_ | (change vcFun _ _ _ _ _; refine call_next 0 rfl (by assumption) (by assumption) (by omega) (by omega) ?_; intro v kq hv1 hv2 hkq) | (change vcFun _ _ _ _ _; refine call_one2 0 rfl (by assumption) (by assumption) (by omega) (by omega) ?_; intro bq kq hkq) | (change vcFunD _ _ _ _ _; refine callD_next 0 rfl (by assumption) (by assumption) (by omega) (by omega) ?_; intro v kq hv1 hv2 hkq) | (change vcFunD _ _ _ _ _; refine callD_one2 0 rfl (by assumption) (by assumption) (by omega) (by omega) ?_; intro bq kq hkq) | fail)
                · exact ⟨(kq, [sLab]), ⟨hkq, .inr rfl⟩, Ghost.trans (Ghost.shut (i := 5) (c := 2) (x := .ms 6 1 0 1) rfl rfl rfl (by repeat' (first | trivial | refine And.intro ?_ ?_ | (show 0 + _ ≤ List.length _; simp))) (show ¬ (5 ∈ ([6] : List Nat)) by decide) ALe.refl) (back [0, 1, 2, 3, 4, 5] rfl rfl (by repeat' (first | exact trivial | exact rfl | exact ⟨_, rfl, ALe.refl⟩ | refine And.intro ?_ ?_)) (by repeat' (first | exact trivial | exact rfl | exact ⟨_, rfl, ALe.refl⟩ | refine And.intro ?_ ?_)))⟩
                · exact ⟨(kq, []), ⟨hkq, .inl rfl⟩, Ghost.trans (Ghost.shut (i := 5) (c := 2) (x := .pv (.val (.slice none 0 0))) rfl rfl rfl (by repeat' (first | trivial | refine And.intro ?_ ?_ | (show 0 + _ ≤ List.length _; simp))) (show ¬ (5 ∈ ([] : List Nat)) by decide) (ALe.pv PLe.nil)) (back [0, 1, 2, 3, 4, 5] rfl rfl (by repeat' (first | exact trivial | exact rfl | exact ⟨_, rfl, ALe.refl⟩ | refine And.intro ?_ ?_)) (by repeat' (first | exact trivial | exact rfl | exact ⟨_, rfl, ALe.refl⟩ | refine And.intro ?_ ?_)))⟩
                refine ⟨?_⟩
                rintro ⟨k, fs⟩ ⟨c6, cfs⟩
                dsimp only [slP, obP, zeroG, nilA, g0, List.length_cons, List.length_nil, List.map] at c6 cfs ⊢
                repeat' (first | (refine app_consm (f := Exam.row) ⟨nm 69 (0), 1 + v, fs, us⟩ rfl ?_) | refine o1 ?_ | refine o2 ?_ | refine k1 ?_ | refine k2 ?_ | refine k3 ?_ | refine k4 ?_ | refine k6 ?_ | refine k7 ?_ | refine k8 ?_ | refine And.intro ?_ ?_ | exact trivial | refine o3 ?_ | refine o4 ?_ | refine o5 ?_ | refine o6 ?_ | refine k5 ?_ | (intro h; first | exact Bool.noConfusion h | exact nz _ h | exact nl h | (simp at h; done) | (simp at h; first | (exfalso; omega) | skip) | skip) | (change retOk _ _ _ _; refine ret_pure rfl trivial ?_) | exact (rfl : allOne _ = true) | (refine (?_ : (0 : Int) ≤ _); omega) | (refine (?_ : _ ≠ _); omega) | (refine (?_ : srcLen _ = rowsLen _); rfl) | exact Nat.le_of_ble_eq_true rfl | exact (by kernel_rfl : drawOk _ _ = true) | refine eqv_len_map ?_ | refine eqv_size ?_ | refine eqv_put (eqv_ck ?_) | refine eqv_zero ?_ | refine eqv_wrap (by omega) (by omega) ?_ | refine eqv_u64 (by omega) (by omega) ?_ | refine eqv_u8 (by omega) (by omega) ?_ | refine eqv_to _ (set_map rfl rfl) ?_ | refine ⟨_, _, (by first | rfl | assumption), at_map (by assumption), ?_⟩ | refine ⟨_, _, (by first | rfl | assumption), (by assumption), ?_⟩ | refine ⟨_, at_map (by assumption), (by decide), ?_⟩ | refine ⟨_, at_map (by assumption), ?_⟩ | (refine (?_ : _ ≤ 140737488355328); simp [rowsLen] <;> omega) | (refine (?_ : _ ≤ 9223372036854775807); simp [rowsLen] <;> omega) | (refine (?_ : _ = rowsLen _); simp [rowsLen] <;> omega) | refine eqv_to _ (app_row rfl) (eqv_to _ app_len ?_) | refine eqv_to _ (app_first rfl) (eqv_to 1 rfl ?_) | refine idx_sl (at_map (by assumption)) (by omega) ?_ | refine idx_ms _ (by first | rfl | assumption) (by first | assumption | omega) ?_ | fail)
                all_goals first
                  | (exfalso; omega)
                  | skip
                · exact ⟨(n - 1, k, [⟨nm 69 0, 1 + v, fs, us⟩]), ⟨by show n - 1 + List.length _ ≤ 4; simp; try omega, c6, fun i e he => by
                  rcases at_app (l := []) he with he | ⟨rfl, rfl⟩
                  · exact cex i e he
                  · exact ⟨by simp, by dsimp only; omega, cfs, cus⟩⟩, (by show n - 1 < n; omega), back [0, 1, 2, 7] rfl rfl (by repeat' (first | exact trivial | exact rfl | exact ⟨_, rfl, ALe.refl⟩ | refine And.intro ?_ ?_)) ⟨slot_eq rfl (congrArg (vint .i64) (by show _ = ((n - 1 : Nat) : Int); omega)), by repeat' (first | exact trivial | exact rfl | exact ⟨_, rfl, ALe.refl⟩ | refine And.intro ?_ ?_)⟩⟩
        · have hlm : ((e0 :: l).map Exam.row).length = (e0 :: l).length := List.length_map ..
          dsimp only [slP, obP, zeroG, nilA, g0, List.length_cons, List.length_nil, List.map] at c1 c2 cex hlm ⊢
          rcases Nat.eq_zero_or_pos n with rfl | hn
          · repeat' (first | refine o1 ?_ | refine o2 ?_ | refine k1 ?_ | refine k2 ?_ | refine k3 ?_ | refine k4 ?_ | refine k6 ?_ | refine k7 ?_ | refine k8 ?_ | refine And.intro ?_ ?_ | exact trivial | refine o3 ?_ | refine o4 ?_ | refine o5 ?_ | refine o6 ?_ | refine k5 ?_ | (intro h; first | exact Bool.noConfusion h | exact nz _ h | exact nl h | (simp at h; done) | (simp at h; first | (exfalso; omega) | skip) | skip) | (change retOk _ _ _ _; refine ret_pure rfl trivial ?_) | exact (rfl : allOne _ = true) | (refine (?_ : (0 : Int) ≤ _); omega) | (refine (?_ : _ ≠ _); omega) | (refine (?_ : srcLen _ = rowsLen _); rfl) | exact Nat.le_of_ble_eq_true rfl | exact (by kernel_rfl : drawOk _ _ = true) | refine eqv_len_map ?_ | refine eqv_size ?_ | refine eqv_put (eqv_ck ?_) | refine eqv_zero ?_ | refine eqv_wrap (by omega) (by omega) ?_ | refine eqv_u64 (by omega) (by omega) ?_ | refine eqv_u8 (by omega) (by omega) ?_ | refine eqv_to _ (set_map rfl rfl) ?_ | refine ⟨_, _, (by first | rfl | assumption), at_map (by assumption), ?_⟩ | refine ⟨_, _, (by first | rfl | assumption), (by assumption), ?_⟩ | refine ⟨_, at_map (by assumption), (by decide), ?_⟩ | refine ⟨_, at_map (by assumption), ?_⟩ | (refine (?_ : _ ≤ 140737488355328); simp [rowsLen] <;> omega) | (refine (?_ : _ ≤ 9223372036854775807); simp [rowsLen] <;> omega) | (refine (?_ : _ = rowsLen _); simp [rowsLen] <;> omega) | refine eqv_to _ (app_row rfl) (eqv_to _ app_len ?_) | refine eqv_to _ (app_first rfl) (eqv_to 1 rfl ?_) | refine idx_sl (at_map (by assumption)) (by omega) ?_ | refine idx_ms _ (by first | rfl | assumption) (by first | assumption | omega) ?_ | (change vcFun _ _ _ _ _; refine call_next 0 rfl (by assumption) (by assumption) (by omega) (by omega) ?_; intro v kq hv1 hv2 hkq) | (change vcFun _ _ _ _ _; refine call_one2 0 rfl (by assumption) (by assumption) (by omega) (by omega) ?_; intro bq kq hkq) | (change vcFunD _ _ _ _ _; refine callD_next 0 rfl (by assumption) (by assumption) (by omega) (by omega) ?_; intro v kq hv1 hv2 hkq) | (change vcFunD _ _ _ _ _; refine callD_one2 0 rfl (by assumption) (by assumption) (by omega) (by omega) ?_; intro bq kq hkq) | fail)
            first
              | exact ⟨(k, []), ⟨c2, Nat.zero_le _, by simp⟩, Ghost.trans (Ghost.shut (i := 2) (c := 1) (x := .pv (.val (.slice none 0 0))) rfl rfl rfl (by repeat' (first | trivial | refine And.intro ?_ ?_ | (show 0 + _ ≤ List.length _; simp))) (show ¬ (2 ∈ ([] : List Nat)) by decide) (ALe.pv PLe.nil)) (back [0, 1, 2] rfl rfl ⟨rfl, rfl, rfl, trivial⟩ (by repeat' (first | exact trivial | exact rfl | exact ⟨_, rfl, ALe.refl⟩ | refine And.intro ?_ ?_)))⟩
              | (refine ⟨(k, e0 :: l), ⟨c2, (by show List.length _ ≤ 4; simp only [List.length_cons]; omega), cex⟩, Ghost.trans (Ghost.shut (i := 2) (c := 1) (x := .ms 3 4 0 ((List.map Exam.row l).length + 1)) rfl rfl rfl (by repeat' (first | trivial | refine And.intro ?_ ?_ | (show 0 + _ ≤ List.length _; simp))) (show ¬ (2 ∈ ([3] : List Nat)) by decide) (ALe.pv (PLe.sl (?_ : PLeLL _ ((e0 :: l).map Exam.row))))) (back [0, 1, 2] rfl rfl ⟨rfl, rfl, rfl, trivial⟩ (by repeat' (first | exact trivial | exact rfl | exact ⟨_, rfl, ALe.refl⟩ | refine And.intro ?_ ?_)))⟩
                 rw [List.drop_zero, List.take_of_length_le (by simp)]
                 exact PLeLL.refl)
          · repeat' (first | (refine bytes_at (by omega) (by omega) rfl ?_) | ((show Nat.le (ByteArray.size _ + ByteArray.size _) _; exact Nat.le_of_ble_eq_true rfl)) | refine o1 ?_ | refine o2 ?_ | refine k1 ?_ | refine k2 ?_ | refine k3 ?_ | refine k4 ?_ | refine k6 ?_ | refine k7 ?_ | refine k8 ?_ | refine And.intro ?_ ?_ | exact trivial | refine o3 ?_ | refine o4 ?_ | refine o5 ?_ | refine o6 ?_ | refine k5 ?_ | (intro h; first | exact Bool.noConfusion h | exact nz _ h | exact nl h | (simp at h; done) | (simp at h; first | (exfalso; omega) | skip) | skip) | (change retOk _ _ _ _; refine ret_pure rfl trivial ?_) | exact (rfl : allOne _ = true) | (refine (?_ : (0 : Int) ≤ _); omega) | (refine (?_ : _ ≠ _); omega) | (refine (?_ : srcLen _ = rowsLen _); rfl) | exact Nat.le_of_ble_eq_true rfl | exact (by kernel_rfl : drawOk _ _ = true) | refine eqv_len_map ?_ | refine eqv_size ?_ | refine eqv_put (eqv_ck ?_) | refine eqv_zero ?_ | refine eqv_wrap (by omega) (by omega) ?_ | refine eqv_u64 (by omega) (by omega) ?_ | refine eqv_u8 (by omega) (by omega) ?_ | refine eqv_to _ (set_map rfl rfl) ?_ | refine ⟨_, _, (by first | rfl | assumption), at_map (by assumption), ?_⟩ | refine ⟨_, _, (by first | rfl | assumption), (by assumption), ?_⟩ | refine ⟨_, at_map (by assumption), (by decide), ?_⟩ | refine ⟨_, at_map (by assumption), ?_⟩ | (refine (?_ : _ ≤ 140737488355328); simp [rowsLen] <;> omega) | (refine (?_ : _ ≤ 9223372036854775807); simp [rowsLen] <;> omega) | (refine (?_ : _ = rowsLen _); simp [rowsLen] <;> omega) | refine eqv_to _ (app_row rfl) (eqv_to _ app_len ?_) | refine eqv_to _ (app_first rfl) (eqv_to 1 rfl ?_) | refine idx_sl (at_map (by assumption)) (by omega) ?_ | refine idx_ms _ (by first | rfl | assumption) (by first | assumption | omega) ?_ | (change vcFun _ _ _ _ _; refine call_next 0 rfl (by assumption) (by assumption) (by omega) (by omega) ?_; intro v kq hv1 hv2 hkq) | (change vcFun _ _ _ _ _; refine call_one2 0 rfl (by assumption) (by assumption) (by omega) (by omega) ?_; intro bq kq hkq) | (change vcFunD _ _ _ _ _; refine callD_next 0 rfl (by assumption) (by assumption) (by omega) (by omega) ?_; intro v kq hv1 hv2 hkq) | (change vcFunD _ _ _ _ _; refine callD_one2 0 rfl (by assumption) (by assumption) (by omega) (by omega) ?_; intro bq kq hkq) | fail)
            all_goals first
              | (exfalso; omega)
              | skip
            refine loop_in (fun x : Nat × Nat × List Str => [(7, vint .i64 x.1)]) (fun x => [dice t x.2.1, zeroG, some ⟨33, 8, false, .box [.pv (encRooms rl), slP 3 4 ((e0 :: l).map Exam.row), nilA, g0, g0, g0, g0, g0]⟩, obP 69 4 ((e0 :: l).map Exam.row), none, some ⟨69, 4, false, .box [.pv (es (nm 69 ((List.map Exam.row l).length + 1))), vint .i64 (1 + v), nilA, slP 6 1 (x.2.2.map fun w => [es w])]⟩, obP 9 1 (x.2.2.map fun w => [es w])])
              (fun x => x.1 ≤ 4 ∧ x.2.1 ≤ t.length ∧ StudT x.1 x.2.2) (fun x => 4 - x.1) (0, kq, []) ⟨by simp, hkq, StudT.nil⟩ ⟨?_, ?_⟩
            · exact back [0, 1, 2, 3, 4, 5, 6] rfl rfl (by repeat' (first | exact trivial | exact rfl | exact ⟨_, rfl, ALe.refl⟩ | refine And.intro ?_ ?_)) (by repeat' (first | exact trivial | exact rfl | exact ⟨_, rfl, ALe.refl⟩ | refine And.intro ?_ ?_))
            rintro ⟨i, k, ss⟩ ⟨c3, c4, cst⟩
            rcases ss with _ | ⟨w0, ss⟩
            · dsimp only [slP, obP, zeroG, nilA, g0, List.length_cons, List.length_nil, List.map] at c3 c4 cst ⊢
              rcases Nat.lt_or_ge i 4 with hi | hi
              · repeat' (first | (refine bytes_at (by omega) (by omega) rfl ?_) | ((show Nat.le (ByteArray.size _ + ByteArray.size _) _; exact Nat.le_of_ble_eq_true rfl)) | refine o1 ?_ | refine o2 ?_ | refine k1 ?_ | refine k2 ?_ | refine k3 ?_ | refine k4 ?_ | refine k6 ?_ | refine k7 ?_ | refine k8 ?_ | refine And.intro ?_ ?_ | exact trivial | refine o3 ?_ | refine o4 ?_ | refine o5 ?_ | refine o6 ?_ | refine k5 ?_ | (intro h; first | exact Bool.noConfusion h | exact nz _ h | exact nl h | (simp at h; done) | (simp at h; first | (exfalso; omega) | skip) | skip) | (change retOk _ _ _ _; refine ret_pure rfl trivial ?_) | exact (rfl : allOne _ = true) | (refine (?_ : (0 : Int) ≤ _); omega) | (refine (?_ : _ ≠ _); omega) | (refine (?_ : srcLen _ = rowsLen _); rfl) | exact Nat.le_of_ble_eq_true rfl | exact (by kernel_rfl : drawOk _ _ = true) | refine eqv_len_map ?_ | refine eqv_size ?_ | refine eqv_put (eqv_ck ?_) | refine eqv_zero ?_ | refine eqv_wrap (by omega) (by omega) ?_ | refine eqv_u64 (by omega) (by omega) ?_ | refine eqv_u8 (by omega) (by omega) ?_ | refine eqv_to _ (set_map rfl rfl) ?_ | refine ⟨_, _, (by first | rfl | assumption), at_map (by assumption), ?_⟩ | refine ⟨_, _, (by first | rfl | assumption), (by assumption), ?_⟩ | refine ⟨_, at_map (by assumption), (by decide), ?_⟩ | refine ⟨_, at_map (by assumption), ?_⟩ | (refine (?_ : _ ≤ 140737488355328); simp [rowsLen] <;> omega) | (refine (?_ : _ ≤ 9223372036854775807); simp [rowsLen] <;> omega) | (refine (?_ : _ = rowsLen _); simp [rowsLen] <;> omega) | refine eqv_to _ (app_row rfl) (eqv_to _ app_len ?_) | refine eqv_to _ (app_first rfl) (eqv_to 1 rfl ?_) | refine idx_sl (at_map (by assumption)) (by omega) ?_ | refine idx_ms _ (by first | rfl | assumption) (by first | assumption | omega) ?_ | (change vcFun _ _ _ _ _; refine call_next 0 rfl (by assumption) (by assumption) (by omega) (by omega) ?_; intro v kq hv1 hv2 hkq) | (change vcFun _ _ _ _ _; refine call_one2 0 rfl (by assumption) (by assumption) (by omega) (by omega) ?_; intro bq kq hkq) | (change vcFunD _ _ _ _ _; refine callD_next 0 rfl (by assumption) (by assumption) (by omega) (by omega) ?_; intro v kq hv1 hv2 hkq) | (change vcFunD _ _ _ _ _; refine callD_one2 0 rfl (by assumption) (by assumption) (by omega) (by omega) ?_; intro bq kq hkq) | fail)
                all_goals first
                  | (exfalso; omega)
                  | skip
                · exact ⟨(i + 1, kq, [nm 115 i]), ⟨by show i + 1 ≤ 4; omega, hkq, cst.snoc⟩, (by show 4 - (i + 1) < 4 - i; omega), back [0, 1, 2, 3, 4, 5, 9] rfl rfl (by repeat' (first | exact trivial | exact rfl | exact ⟨_, rfl, ALe.refl⟩ | refine And.intro ?_ ?_)) (by repeat' (first | exact trivial | exact rfl | exact ⟨_, rfl, ALe.refl⟩ | refine And.intro ?_ ?_))⟩
                · exact ⟨(i + 1, kq, []), ⟨by show i + 1 ≤ 4; omega, hkq, cst.skip⟩, (by show 4 - (i + 1) < 4 - i; omega), back [0, 1, 2, 3, 4, 5, 6] rfl rfl (by repeat' (first | exact trivial | exact rfl | exact ⟨_, rfl, ALe.refl⟩ | refine And.intro ?_ ?_)) (by repeat' (first | exact trivial | exact rfl | exact ⟨_, rfl, ALe.refl⟩ | refine And.intro ?_ ?_))⟩
              · repeat' (first | (refine join_in (a := .seq (.region 19 _ _) _) (fun _ => []) (fun x : Nat × List Str => [dice t x.1, zeroG, some ⟨33, 8, false, .box [.pv (encRooms rl), slP 3 4 ((e0 :: l).map Exam.row), nilA, g0, g0, g0, g0, g0]⟩, obP 69 4 ((e0 :: l).map Exam.row), none, some ⟨69, 4, false, .box [.pv (es (nm 69 ((List.map Exam.row l).length + 1))), vint .i64 (1 + v), nilA, .pv (encStrs x.2)]⟩]) (fun x => x.1 ≤ t.length ∧ StudG x.2) ?_) | refine o1 ?_ | refine o2 ?_ | refine k1 ?_ | refine k2 ?_ | refine k3 ?_ | refine k4 ?_ | refine k6 ?_ | refine k7 ?_ | refine k8 ?_ | refine And.intro ?_ ?_ | exact trivial | refine o3 ?_ | refine o4 ?_ | refine o5 ?_ | refine o6 ?_ | refine k5 ?_ | (intro h; first | exact Bool.noConfusion h | exact nz _ h | exact nl h | (simp at h; done) | (simp at h; first | (exfalso; omega) | skip) | skip) | (change retOk _ _ _ _; refine ret_pure rfl trivial ?_) | exact (rfl : allOne _ = true) | (refine (?_ : (0 : Int) ≤ _); omega) | (refine (?_ : _ ≠ _); omega) | (refine (?_ : srcLen _ = rowsLen _); rfl) | exact Nat.le_of_ble_eq_true rfl | exact (by kernel_rfl : drawOk _ _ = true) | refine eqv_len_map ?_ | refine eqv_size ?_ | refine eqv_put (eqv_ck ?_) | refine eqv_zero ?_ | refine eqv_wrap (by omega) (by omega) ?_ | refine eqv_u64 (by omega) (by omega) ?_ | refine eqv_u8 (by omega) (by omega) ?_ | refine eqv_to _ (set_map rfl rfl) ?_ | refine ⟨_, _, (by first | rfl | assumption), at_map (by assumption), ?_⟩ | refine ⟨_, _, (by first | rfl | assumption), (by assumption), ?_⟩ | refine ⟨_, at_map (by assumption), (by decide), ?_⟩ | refine ⟨_, at_map (by assumption), ?_⟩ | (refine (?_ : _ ≤ 140737488355328); simp [rowsLen] <;> omega) | (refine (?_ : _ ≤ 9223372036854775807); simp [rowsLen] <;> omega) | (refine (?_ : _ = rowsLen _); simp [rowsLen] <;> omega) | refine eqv_to _ (app_row rfl) (eqv_to _ app_len ?_) | refine eqv_to _ (app_first rfl) (eqv_to 1 rfl ?_) | refine idx_sl (at_map (by assumption)) (by omega) ?_ | refine idx_ms _ (by first | rfl | assumption) (by first | assumption | omega) ?_ | fail)
                all_goals first
                  | (exfalso; omega)
                  | skip
                · exact ⟨(k, [s9]), ⟨c4, studG9⟩, Ghost.trans (Ghost.shut (i := 5) (c := 3) (x := .ms 7 1 0 1) rfl rfl rfl (by repeat' (first | trivial | refine And.intro ?_ ?_ | (show 0 + _ ≤ List.length _; simp))) (show ¬ (5 ∈ ([7] : List Nat)) by decide) ALe.refl) (back [0, 1, 2, 3, 4, 5] rfl rfl (by repeat' (first | exact trivial | exact rfl | exact ⟨_, rfl, ALe.refl⟩ | refine And.intro ?_ ?_)) (by repeat' (first | exact trivial | exact rfl | exact ⟨_, rfl, ALe.refl⟩ | refine And.intro ?_ ?_)))⟩
                refine ⟨?_⟩
                rintro ⟨k, us⟩ ⟨c5, cus⟩
                dsimp only [slP, obP, zeroG, nilA, g0, List.length_cons, List.length_nil, List.map] at c5 cus ⊢
                repeat' (first | (refine join_in (a := .seq (.region 21 _ _) _) (fun _ => []) (fun x : Nat × List Str => [dice t x.1, zeroG, some ⟨33, 8, false, .box [.pv (encRooms rl), slP 3 4 ((e0 :: l).map Exam.row), nilA, g0, g0, g0, g0, g0]⟩, obP 69 4 ((e0 :: l).map Exam.row), none, some ⟨69, 4, false, .box [.pv (es (nm 69 ((List.map Exam.row l).length + 1))), vint .i64 (1 + v), .pv (encStrs x.2), .pv (encStrs us)]⟩]) (fun x => x.1 ≤ t.length ∧ FeatG x.2) ?_) | refine o1 ?_ | refine o2 ?_ | refine k1 ?_ | refine k2 ?_ | refine k3 ?_ | refine k4 ?_ | refine k6 ?_ | refine k7 ?_ | refine k8 ?_ | refine And.intro ?_ ?_ | exact trivial | refine o3 ?_ | refine o4 ?_ | refine o5 ?_ | refine o6 ?_ | refine k5 ?_ | (intro h; first | exact Bool.noConfusion h | exact nz _ h | exact nl h | (simp at h; done) | (simp at h; first | (exfalso; omega) | skip) | skip) | (change retOk _ _ _ _; refine ret_pure rfl trivial ?_) | exact (rfl : allOne _ = true) | (refine (?_ : (0 : Int) ≤ _); omega) | (refine (?_ : _ ≠ _); omega) | (refine (?_ : srcLen _ = rowsLen _); rfl) | exact Nat.le_of_ble_eq_true rfl | exact (by kernel_rfl : drawOk _ _ = true) | refine eqv_len_map ?_ | refine eqv_size ?_ | refine eqv_put (eqv_ck ?_) | refine eqv_zero ?_ | refine eqv_wrap (by omega) (by omega) ?_ | refine eqv_u64 (by omega) (by omega) ?_ | refine eqv_u8 (by omega) (by omega) ?_ | refine eqv_to _ (set_map rfl rfl) ?_ | refine ⟨_, _, (by first | rfl | assumption), at_map (by assumption), ?_⟩ | refine ⟨_, _, (by first | rfl | assumption), (by assumption), ?_⟩ | refine ⟨_, at_map (by assumption), (by decide), ?_⟩ | refine ⟨_, at_map (by assumption), ?_⟩ | (refine (?_ : _ ≤ 140737488355328); simp [rowsLen] <;> omega) | (refine (?_ : _ ≤ 9223372036854775807); simp [rowsLen] <;> omega) | (refine (?_ : _ = rowsLen _); simp [rowsLen] <;> omega) | refine eqv_to _ (app_row rfl) (eqv_to _ app_len ?_) | refine eqv_to _ (app_first rfl) (eqv_to 1 rfl ?_) | refine idx_sl (at_map (by assumption)) (by omega) ?_ | refine idx_ms _ (by first | rfl | assumption) (by first | assumption | omega) ?_ | (change vcFun _ _ _ _ _; refine call_next 0 rfl (by assumption) (by assumption) (by omega) (by omega) ?_; intro v kq hv1 hv2 hkq) | (change vcFun _ _ _ _ _; refine call_one2 0 rfl (by assumption) (by assumption) (by omega) (by omega) ?_; intro bq kq hkq) | (change vcFunD _ _ _ _ _; refine callD_next 0 rfl (by assumption) (by assumption) (by omega) (by omega) ?_; intro v kq hv1 hv2 hkq) | (change vcFunD _ _ _ _ _; refine callD_one2 0 rfl (by assumption) (by assumption) (by omega) (by omega) ?_; intro bq kq hkq) | fail)
                · exact ⟨(kq, [sLab]), ⟨hkq, .inr rfl⟩, Ghost.trans (Ghost.shut (i := 5) (c := 2) (x := .ms 6 1 0 1) rfl rfl rfl (by repeat' (first | trivial | refine And.intro ?_ ?_ | (show 0 + _ ≤ List.length _; simp))) (show ¬ (5 ∈ ([6] : List Nat)) by decide) ALe.refl) (back [0, 1, 2, 3, 4, 5] rfl rfl (by repeat' (first | exact trivial | exact rfl | exact ⟨_, rfl, ALe.refl⟩ | refine And.intro ?_ ?_)) (by repeat' (first | exact trivial | exact rfl | exact ⟨_, rfl, ALe.refl⟩ | refine And.intro ?_ ?_)))⟩
                · exact ⟨(kq, []), ⟨hkq, .inl rfl⟩, Ghost.trans (Ghost.shut (i := 5) (c := 2) (x := .pv (.val (.slice none 0 0))) rfl rfl rfl (by repeat' (first | trivial | refine And.intro ?_ ?_ | (show 0 + _ ≤ List.length _; simp))) (show ¬ (5 ∈ ([] : List Nat)) by decide) (ALe.pv PLe.nil)) (back [0, 1, 2, 3, 4, 5] rfl rfl (by repeat' (first | exact trivial | exact rfl | exact ⟨_, rfl, ALe.refl⟩ | refine And.intro ?_ ?_)) (by repeat' (first | exact trivial | exact rfl | exact ⟨_, rfl, ALe.refl⟩ | refine And.intro ?_ ?_)))⟩
                refine ⟨?_⟩
                rintro ⟨k, fs⟩ ⟨c6, cfs⟩
                dsimp only [slP, obP, zeroG, nilA, g0, List.length_cons, List.length_nil, List.map] at c6 cfs ⊢
                repeat' (first | (refine app_consm (f := Exam.row) ⟨nm 69 ((List.map Exam.row l).length + 1), 1 + v, fs, us⟩ rfl ?_) | refine o1 ?_ | refine o2 ?_ | refine k1 ?_ | refine k2 ?_ | refine k3 ?_ | refine k4 ?_ | refine k6 ?_ | refine k7 ?_ | refine k8 ?_ | refine And.intro ?_ ?_ | exact trivial | refine o3 ?_ | refine o4 ?_ | refine o5 ?_ | refine o6 ?_ | refine k5 ?_ | (intro h; first | exact Bool.noConfusion h | exact nz _ h | exact nl h | (simp at h; done) | (simp at h; first | (exfalso; omega) | skip) | skip) | (change retOk _ _ _ _; refine ret_pure rfl trivial ?_) | exact (rfl : allOne _ = true) | (refine (?_ : (0 : Int) ≤ _); omega) | (refine (?_ : _ ≠ _); omega) | (refine (?_ : srcLen _ = rowsLen _); rfl) | exact Nat.le_of_ble_eq_true rfl | exact (by kernel_rfl : drawOk _ _ = true) | refine eqv_len_map ?_ | refine eqv_size ?_ | refine eqv_put (eqv_ck ?_) | refine eqv_zero ?_ | refine eqv_wrap (by omega) (by omega) ?_ | refine eqv_u64 (by omega) (by omega) ?_ | refine eqv_u8 (by omega) (by omega) ?_ | refine eqv_to _ (set_map rfl rfl) ?_ | refine ⟨_, _, (by first | rfl | assumption), at_map (by assumption), ?_⟩ | refine ⟨_, _, (by first | rfl | assumption), (by assumption), ?_⟩ | refine ⟨_, at_map (by assumption), (by decide), ?_⟩ | refine ⟨_, at_map (by assumption), ?_⟩ | (refine (?_ : _ ≤ 140737488355328); simp [rowsLen] <;> omega) | (refine (?_ : _ ≤ 9223372036854775807); simp [rowsLen] <;> omega) | (refine (?_ : _ = rowsLen _); simp [rowsLen] <;> omega) | refine eqv_to _ (app_row rfl) (eqv_to _ app_len ?_) | refine eqv_to _ (app_first rfl) (eqv_to 1 rfl ?_) | refine idx_sl (at_map (by assumption)) (by omega) ?_ | refine idx_ms _ (by first | rfl | assumption) (by first | assumption | omega) ?_ | fail)
                all_goals first
                  | (exfalso; omega)
                  | skip
                · exact ⟨(n - 1, k, e0 :: (l ++ [⟨nm 69 ((List.map Exam.row l).length + 1), 1 + v, fs, us⟩])), ⟨by show n - 1 + List.length _ ≤ 4; simp; try omega, c6, fun i e he => by
                  rcases at_app (l := e0 :: l) he with he | ⟨rfl, rfl⟩
                  · exact cex i e he
                  · exact ⟨by simp, by dsimp only; omega, cfs, cus⟩⟩, (by show n - 1 < n; omega), back [0, 1, 2, 7] rfl rfl (by repeat' (first | exact trivial | exact rfl | exact ⟨_, rfl, ALe.refl⟩ | refine And.intro ?_ ?_)) ⟨slot_eq rfl (congrArg (vint .i64) (by show _ = ((n - 1 : Nat) : Int); omega)), by repeat' (first | exact trivial | exact rfl | exact ⟨_, rfl, ALe.refl⟩ | refine And.intro ?_ ?_)⟩⟩
            · dsimp only [slP, obP, zeroG, nilA, g0, List.length_cons, List.length_nil, List.map] at c3 c4 cst ⊢
              have hln := cst.len
              simp only [List.length_cons] at hln
              rcases Nat.lt_or_ge i 4 with hi | hi
              · repeat' (first | (refine bytes_op (by omega) (by omega) rfl (fun sq hsq => ?_)) | ((show Nat.le (ByteArray.size _ + ByteArray.size _) _; rw [hsq]; exact Nat.le_of_ble_eq_true rfl)) | (refine app_consm (f := fun w => [es w]) (e0 := w0) (ByteArray.mk #[115] ++ sq) rfl ?_) | refine o1 ?_ | refine o2 ?_ | refine k1 ?_ | refine k2 ?_ | refine k3 ?_ | refine k4 ?_ | refine k6 ?_ | refine k7 ?_ | refine k8 ?_ | refine And.intro ?_ ?_ | exact trivial | refine o3 ?_ | refine o4 ?_ | refine o5 ?_ | refine o6 ?_ | refine k5 ?_ | (intro h; first | exact Bool.noConfusion h | exact nz _ h | exact nl h | (simp at h; done) | (simp at h; first | (exfalso; omega) | skip) | skip) | (change retOk _ _ _ _; refine ret_pure rfl trivial ?_) | exact (rfl : allOne _ = true) | (refine (?_ : (0 : Int) ≤ _); omega) | (refine (?_ : _ ≠ _); omega) | (refine (?_ : srcLen _ = rowsLen _); rfl) | exact Nat.le_of_ble_eq_true rfl | exact (by kernel_rfl : drawOk _ _ = true) | refine eqv_len_map ?_ | refine eqv_size ?_ | refine eqv_put (eqv_ck ?_) | refine eqv_zero ?_ | refine eqv_wrap (by omega) (by omega) ?_ | refine eqv_u64 (by omega) (by omega) ?_ | refine eqv_u8 (by omega) (by omega) ?_ | refine eqv_to _ (set_map rfl rfl) ?_ | refine ⟨_, _, (by first | rfl | assumption), at_map (by assumption), ?_⟩ | refine ⟨_, _, (by first | rfl | assumption), (by assumption), ?_⟩ | refine ⟨_, at_map (by assumption), (by decide), ?_⟩ | refine ⟨_, at_map (by assumption), ?_⟩ | (refine (?_ : _ ≤ 140737488355328); simp [rowsLen] <;> omega) | (refine (?_ : _ ≤ 9223372036854775807); simp [rowsLen] <;> omega) | (refine (?_ : _ = rowsLen _); simp [rowsLen] <;> omega) | refine eqv_to _ (app_row rfl) (eqv_to _ app_len ?_) | refine eqv_to _ (app_first rfl) (eqv_to 1 rfl ?_) | refine idx_sl (at_map (by assumption)) (by omega) ?_ | refine idx_ms _ (by first | rfl | assumption) (by first | assumption | omega) ?_ | (change vcFun _ _ _ _ _; refine call_next 0 rfl (by assumption) (by assumption) (by omega) (by omega) ?_; intro v kq hv1 hv2 hkq) | (change vcFun _ _ _ _ _; refine call_one2 0 rfl (by assumption) (by assumption) (by omega) (by omega) ?_; intro bq kq hkq) | (change vcFunD _ _ _ _ _; refine callD_next 0 rfl (by assumption) (by assumption) (by omega) (by omega) ?_; intro v kq hv1 hv2 hkq) | (change vcFunD _ _ _ _ _; refine callD_one2 0 rfl (by assumption) (by assumption) (by omega) (by omega) ?_; intro bq kq hkq) | fail)
                all_goals first
                  | (exfalso; omega)
                  | skip
                · subst hsq
                  exact ⟨(i + 1, kq, w0 :: (ss ++ [nm 115 i])), ⟨by show i + 1 ≤ 4; omega, hkq, cst.snoc⟩, (by show 4 - (i + 1) < 4 - i; omega), back [0, 1, 2, 3, 4, 5, 9] rfl rfl (by repeat' (first | exact trivial | exact rfl | exact ⟨_, rfl, ALe.refl⟩ | refine And.intro ?_ ?_)) (by repeat' (first | exact trivial | exact rfl | exact ⟨_, rfl, ALe.refl⟩ | refine And.intro ?_ ?_))⟩
                · exact ⟨(i + 1, kq, w0 :: ss), ⟨by show i + 1 ≤ 4; omega, hkq, cst.skip⟩, (by show 4 - (i + 1) < 4 - i; omega), back [0, 1, 2, 3, 4, 5, 6] rfl rfl (by repeat' (first | exact trivial | exact rfl | exact ⟨_, rfl, ALe.refl⟩ | refine And.intro ?_ ?_)) (by repeat' (first | exact trivial | exact rfl | exact ⟨_, rfl, ALe.refl⟩ | refine And.intro ?_ ?_))⟩
              · repeat' (first | (refine join_in (a := .seq (.region 19 _ _) _) (fun _ => []) (fun x : Nat × List Str => [dice t x.1, zeroG, some ⟨33, 8, false, .box [.pv (encRooms rl), slP 3 4 ((e0 :: l).map Exam.row), nilA, g0, g0, g0, g0, g0]⟩, obP 69 4 ((e0 :: l).map Exam.row), none, some ⟨69, 4, false, .box [.pv (es (nm 69 ((List.map Exam.row l).length + 1))), vint .i64 (1 + v), nilA, .pv (encStrs x.2)]⟩]) (fun x => x.1 ≤ t.length ∧ StudG x.2) ?_) | refine o1 ?_ | refine o2 ?_ | refine k1 ?_ | refine k2 ?_ | refine k3 ?_ | refine k4 ?_ | refine k6 ?_ | refine k7 ?_ | refine k8 ?_ | refine And.intro ?_ ?_ | exact trivial | refine o3 ?_ | refine o4 ?_ | refine o5 ?_ | refine o6 ?_ | refine k5 ?_ | (intro h; first | exact Bool.noConfusion h | exact nz _ h | exact nl h | (simp at h; done) | (simp at h; first | (exfalso; omega) | skip) | skip) | (change retOk _ _ _ _; refine ret_pure rfl trivial ?_) | exact (rfl : allOne _ = true) | (refine (?_ : (0 : Int) ≤ _); omega) | (refine (?_ : _ ≠ _); omega) | (refine (?_ : srcLen _ = rowsLen _); rfl) | exact Nat.le_of_ble_eq_true rfl | exact (by kernel_rfl : drawOk _ _ = true) | refine eqv_len_map ?_ | refine eqv_size ?_ | refine eqv_put (eqv_ck ?_) | refine eqv_zero ?_ | refine eqv_wrap (by omega) (by omega) ?_ | refine eqv_u64 (by omega) (by omega) ?_ | refine eqv_u8 (by omega) (by omega) ?_ | refine eqv_to _ (set_map rfl rfl) ?_ | refine ⟨_, _, (by first | rfl | assumption), at_map (by assumption), ?_⟩ | refine ⟨_, _, (by first | rfl | assumption), (by assumption), ?_⟩ | refine ⟨_, at_map (by assumption), (by decide), ?_⟩ | refine ⟨_, at_map (by assumption), ?_⟩ | (refine (?_ : _ ≤ 140737488355328); simp [rowsLen] <;> omega) | (refine (?_ : _ ≤ 9223372036854775807); simp [rowsLen] <;> omega) | (refine (?_ : _ = rowsLen _); simp [rowsLen] <;> omega) | refine eqv_to _ (app_row rfl) (eqv_to _ app_len ?_) | refine eqv_to _ (app_first rfl) (eqv_to 1 rfl ?_) | refine idx_sl (at_map (by assumption)) (by omega) ?_ | refine idx_ms _ (by first | rfl | assumption) (by first | assumption | omega) ?_ | fail)
                all_goals first
                  | (exfalso; omega)
                  | skip
                · refine ⟨(k, w0 :: ss), ⟨c4, studT_all cst hi c3⟩, Ghost.trans (Ghost.shut (i := 5) (c := 3) (x := .ms 6 1 0 ((List.map (fun w => [es w]) ss).length + 1)) rfl rfl rfl (by repeat' (first | trivial | refine And.intro ?_ ?_ | (show 0 + _ ≤ List.length _; simp))) (show ¬ (5 ∈ ([6] : List Nat)) by decide) (ALe.pv (PLe.sl (?_ : PLeLL _ ((w0 :: ss).map fun w => [es w]))))) (back [0, 1, 2, 3, 4, 5] rfl rfl (by repeat' (first | exact trivial | exact rfl | exact ⟨_, rfl, ALe.refl⟩ | refine And.intro ?_ ?_)) (by repeat' (first | exact trivial | exact rfl | exact ⟨_, rfl, ALe.refl⟩ | refine And.intro ?_ ?_)))⟩
                  rw [List.drop_zero, List.take_of_length_le (by simp)]
                  exact PLeLL.refl
                refine ⟨?_⟩
                rintro ⟨k, us⟩ ⟨c5, cus⟩
                dsimp only [slP, obP, zeroG, nilA, g0, List.length_cons, List.length_nil, List.map] at c5 cus ⊢
                repeat' (first | (refine join_in (a := .seq (.region 21 _ _) _) (fun _ => []) (fun x : Nat × List Str => [dice t x.1, zeroG, some ⟨33, 8, false, .box [.pv (encRooms rl), slP 3 4 ((e0 :: l).map Exam.row), nilA, g0, g0, g0, g0, g0]⟩, obP 69 4 ((e0 :: l).map Exam.row), none, some ⟨69, 4, false, .box [.pv (es (nm 69 ((List.map Exam.row l).length + 1))), vint .i64 (1 + v), .pv (encStrs x.2), .pv (encStrs us)]⟩]) (fun x => x.1 ≤ t.length ∧ FeatG x.2) ?_) | refine o1 ?_ | refine o2 ?_ | refine k1 ?_ | refine k2 ?_ | refine k3 ?_ | refine k4 ?_ | refine k6 ?_ | refine k7 ?_ | refine k8 ?_ | refine And.intro ?_ ?_ | exact trivial | refine o3 ?_ | refine o4 ?_ | refine o5 ?_ | refine o6 ?_ | refine k5 ?_ | (intro h; first | exact Bool.noConfusion h | exact nz _ h | exact nl h | (simp at h; done) | (simp at h; first | (exfalso; omega) | skip) | skip) | (change retOk _ _ _ _; refine ret_pure rfl trivial ?_) | exact (rfl : allOne _ = true) | (refine (?_ : (0 : Int) ≤ _); omega) | (refine (?_ : _ ≠ _); omega) | (refine (?_ : srcLen _ = rowsLen _); rfl) | exact Nat.le_of_ble_eq_true rfl | exact (by kernel_rfl : drawOk _ _ = true) | refine eqv_len_map ?_ | refine eqv_size ?_ | refine eqv_put (eqv_ck ?_) | refine eqv_zero ?_ | refine eqv_wrap (by omega) (by omega) ?_ | refine eqv_u64 (by omega) (by omega) ?_ | refine eqv_u8 (by omega) (by omega) ?_ | refine eqv_to _ (set_map rfl rfl) ?_ | refine ⟨_, _, (by first | rfl | assumption), at_map (by assumption), ?_⟩ | refine ⟨_, _, (by first | rfl | assumption), (by assumption), ?_⟩ | refine ⟨_, at_map (by assumption), (by decide), ?_⟩ | refine ⟨_, at_map (by assumption), ?_⟩ | (refine (?_ : _ ≤ 140737488355328); simp [rowsLen] <;> omega) | (refine (?_ : _ ≤ 9223372036854775807); simp [rowsLen] <;> omega) | (refine (?_ : _ = rowsLen _); simp [rowsLen] <;> omega) | refine eqv_to _ (app_row rfl) (eqv_to _ app_len ?_) | refine eqv_to _ (app_first rfl) (eqv_to 1 rfl ?_) | refine idx_sl (at_map (by assumption)) (by omega) ?_ | refine idx_ms _ (by first | rfl | assumption) (by first | assumption | omega) ?_ | (change vcFun _ _ _ _ _; refine call_next 0 rfl (by assumption) (by assumption) (by omega) (by omega) ?_; intro v kq hv1 hv2 hkq) | (change vcFun _ _ _ _ _; refine call_one2 0 rfl (by assumption) (by assumption) (by omega) (by omega) ?_; intro bq kq hkq) | (change vcFunD _ _ _ _ _; refine callD_next 0 rfl (by assumption) (by assumption) (by omega) (by omega) ?_; intro v kq hv1 hv2 hkq) | (change vcFunD _ _ _ _ _; refine callD_one2 0 rfl (by assumption) (by assumption) (by omega) (by omega) ?_; intro bq kq hkq) | fail)
                · exact ⟨(kq, [sLab]), ⟨hkq, .inr rfl⟩, Ghost.trans (Ghost.shut (i := 5) (c := 2) (x := .ms 6 1 0 1) rfl rfl rfl (by repeat' (first | trivial | refine And.intro ?_ ?_ | (show 0 + _ ≤ List.length _; simp))) (show ¬ (5 ∈ ([6] : List Nat)) by decide) ALe.refl) (back [0, 1, 2, 3, 4, 5] rfl rfl (by repeat' (first | exact trivial | exact rfl | exact ⟨_, rfl, ALe.refl⟩ | refine And.intro ?_ ?_)) (by repeat' (first | exact trivial | exact rfl | exact ⟨_, rfl, ALe.refl⟩ | refine And.intro ?_ ?_)))⟩
                · exact ⟨(kq, []), ⟨hkq, .inl rfl⟩, Ghost.trans (Ghost.shut (i := 5) (c := 2) (x := .pv (.val (.slice none 0 0))) rfl rfl rfl (by repeat' (first | trivial | refine And.intro ?_ ?_ | (show 0 + _ ≤ List.length _; simp))) (show ¬ (5 ∈ ([] : List Nat)) by decide) (ALe.pv PLe.nil)) (back [0, 1, 2, 3, 4, 5] rfl rfl (by repeat' (first | exact trivial | exact rfl | exact ⟨_, rfl, ALe.refl⟩ | refine And.intro ?_ ?_)) (by repeat' (first | exact trivial | exact rfl | exact ⟨_, rfl, ALe.refl⟩ | refine And.intro ?_ ?_)))⟩
                refine ⟨?_⟩
                rintro ⟨k, fs⟩ ⟨c6, cfs⟩
                dsimp only [slP, obP, zeroG, nilA, g0, List.length_cons, List.length_nil, List.map] at c6 cfs ⊢
                repeat' (first | (refine app_consm (f := Exam.row) ⟨nm 69 ((List.map Exam.row l).length + 1), 1 + v, fs, us⟩ rfl ?_) | refine o1 ?_ | refine o2 ?_ | refine k1 ?_ | refine k2 ?_ | refine k3 ?_ | refine k4 ?_ | refine k6 ?_ | refine k7 ?_ | refine k8 ?_ | refine And.intro ?_ ?_ | exact trivial | refine o3 ?_ | refine o4 ?_ | refine o5 ?_ | refine o6 ?_ | refine k5 ?_ | (intro h; first | exact Bool.noConfusion h | exact nz _ h | exact nl h | (simp at h; done) | (simp at h; first | (exfalso; omega) | skip) | skip) | (change retOk _ _ _ _; refine ret_pure rfl trivial ?_) | exact (rfl : allOne _ = true) | (refine (?_ : (0 : Int) ≤ _); omega) | (refine (?_ : _ ≠ _); omega) | (refine (?_ : srcLen _ = rowsLen _); rfl) | exact Nat.le_of_ble_eq_true rfl | exact (by kernel_rfl : drawOk _ _ = true) | refine eqv_len_map ?_ | refine eqv_size ?_ | refine eqv_put (eqv_ck ?_) | refine eqv_zero ?_ | refine eqv_wrap (by omega) (by omega) ?_ | refine eqv_u64 (by omega) (by omega) ?_ | refine eqv_u8 (by omega) (by omega) ?_ | refine eqv_to _ (set_map rfl rfl) ?_ | refine ⟨_, _, (by first | rfl | assumption), at_map (by assumption), ?_⟩ | refine ⟨_, _, (by first | rfl | assumption), (by assumption), ?_⟩ | refine ⟨_, at_map (by assumption), (by decide), ?_⟩ | refine ⟨_, at_map (by assumption), ?_⟩ | (refine (?_ : _ ≤ 140737488355328); simp [rowsLen] <;> omega) | (refine (?_ : _ ≤ 9223372036854775807); simp [rowsLen] <;> omega) | (refine (?_ : _ = rowsLen _); simp [rowsLen] <;> omega) | refine eqv_to _ (app_row rfl) (eqv_to _ app_len ?_) | refine eqv_to _ (app_first rfl) (eqv_to 1 rfl ?_) | refine idx_sl (at_map (by assumption)) (by omega) ?_ | refine idx_ms _ (by first | rfl | assumption) (by first | assumption | omega) ?_ | fail)
                all_goals first
                  | (exfalso; omega)
                  | skip
                · exact ⟨(n - 1, k, e0 :: (l ++ [⟨nm 69 ((List.map Exam.row l).length + 1), 1 + v, fs, us⟩])), ⟨by show n - 1 + List.length _ ≤ 4; simp; try omega, c6, fun i e he => by
                  rcases at_app (l := e0 :: l) he with he | ⟨rfl, rfl⟩
                  · exact cex i e he
                  · exact ⟨by simp, by dsimp only; omega, cfs, cus⟩⟩, (by show n - 1 < n; omega), back [0, 1, 2, 7] rfl rfl (by repeat' (first | exact trivial | exact rfl | exact ⟨_, rfl, ALe.refl⟩ | refine And.intro ?_ ?_)) ⟨slot_eq rfl (congrArg (vint .i64) (by show _ = ((n - 1 : Nat) : Int); omega)), by repeat' (first | exact trivial | exact rfl | exact ⟨_, rfl, ALe.refl⟩ | refine And.intro ?_ ?_)⟩⟩
      refine ⟨?_⟩
      rintro ⟨k, l⟩ ⟨c3, cle, cex⟩
      dsimp only [slP, obP, zeroG, nilA, g0, List.length_cons, List.length_nil] at c3 cle cex ⊢
      repeat' (first | (refine join_in (a := .seq (.region 25 _ _) _) (fun _ => []) (fun x : Nat × List Sitting => [dice t x.1, zeroG, some ⟨33, 8, false, .box [.pv (encRooms rl), .pv (.sl 4 (l.map Exam.row)), .pv (.sl 4 (x.2.map Sitting.row)), g0, g0, g0, g0, g0]⟩]) (fun x => x.1 ≤ t.length ∧ x.2.length ≤ 4 ∧ SitsG x.2) ?_) | refine o1 ?_ | refine o2 ?_ | refine k1 ?_ | refine k2 ?_ | refine k3 ?_ | refine k4 ?_ | refine k6 ?_ | refine k7 ?_ | refine k8 ?_ | refine And.intro ?_ ?_ | exact trivial | refine o3 ?_ | refine o4 ?_ | refine o5 ?_ | refine o6 ?_ | refine k5 ?_ | (intro h; first | exact Bool.noConfusion h | exact nz _ h | exact nl h | (simp at h; done) | (simp at h; first | (exfalso; omega) | skip) | skip) | (change retOk _ _ _ _; refine ret_pure rfl trivial ?_) | exact (rfl : allOne _ = true) | (refine (?_ : (0 : Int) ≤ _); omega) | (refine (?_ : _ ≠ _); omega) | (refine (?_ : srcLen _ = rowsLen _); rfl) | exact Nat.le_of_ble_eq_true rfl | exact (by kernel_rfl : drawOk _ _ = true) | refine eqv_len_map ?_ | refine eqv_size ?_ | refine eqv_put (eqv_ck ?_) | refine eqv_zero ?_ | refine eqv_wrap (by omega) (by omega) ?_ | refine eqv_u64 (by omega) (by omega) ?_ | refine eqv_u8 (by omega) (by omega) ?_ | refine eqv_to _ (set_map rfl rfl) ?_ | refine ⟨_, _, (by first | rfl | assumption), at_map (by assumption), ?_⟩ | refine ⟨_, _, (by first | rfl | assumption), (by assumption), ?_⟩ | refine ⟨_, at_map (by assumption), (by decide), ?_⟩ | refine ⟨_, at_map (by assumption), ?_⟩ | (refine (?_ : _ ≤ 140737488355328); simp [rowsLen] <;> omega) | (refine (?_ : _ ≤ 9223372036854775807); simp [rowsLen] <;> omega) | (refine (?_ : _ = rowsLen _); simp [rowsLen] <;> omega) | refine eqv_to _ (app_row rfl) (eqv_to _ app_len ?_) | refine eqv_to _ (app_first rfl) (eqv_to 1 rfl ?_) | refine idx_sl (at_map (by assumption)) (by omega) ?_ | refine idx_ms _ (by first | rfl | assumption) (by first | assumption | omega) ?_ | (change vcFun _ _ _ _ _; refine call_next 0 rfl (by assumption) (by assumption) (by omega) (by omega) ?_; intro v kq hv1 hv2 hkq) | (change vcFun _ _ _ _ _; refine call_one2 0 rfl (by assumption) (by assumption) (by omega) (by omega) ?_; intro bq kq hkq) | (change vcFunD _ _ _ _ _; refine callD_next 0 rfl (by assumption) (by assumption) (by omega) (by omega) ?_; intro v kq hv1 hv2 hkq) | (change vcFunD _ _ _ _ _; refine callD_one2 0 rfl (by assumption) (by assumption) (by omega) (by omega) ?_; intro bq kq hkq) | fail)
      · refine loop_in (fun x : Nat × Int × Int × Nat × List (List PV) => [(8, vint .i64 x.2.1), (9, vint .i64 x.2.2.1), (10, vint .i64 x.1)]) (fun x => [dice t x.2.2.2.1, zeroG, some ⟨33, 8, false, .box [.pv (encRooms rl), .pv (.sl 4 (l.map Exam.row)), slP 3 4 x.2.2.2.2, g0, g0, g0, g0, g0]⟩, obP 23 4 x.2.2.2.2])
          (fun x => (x.1 + x.2.2.2.2.length ≤ 4 ∧ 0 ≤ x.2.1 ∧ x.2.1 + 10 * x.1 ≤ 100 ∧ 0 ≤ x.2.2.1 ∧ x.2.2.1 + 3 * x.1 ≤ 14) ∧ x.2.2.2.1 ≤ t.length ∧ ∃ sl : List Sitting, x.2.2.2.2 = sl.map Sitting.row ∧ SitsT sl x.2.1 x.2.2.1) (fun x => x.1) ((1 + v).toNat, 0, 0, kq, []) ⟨⟨by simp; omega, by simp, by simp; omega, by simp, by simp; omega⟩, hkq, ⟨[], rfl, SitsT.nil⟩⟩ ⟨?_, ?_⟩
        · exact back [0, 1, 2, 3] rfl rfl ⟨rfl, rfl, rfl, trivial⟩ ⟨rfl, rfl, slot_eq rfl (congrArg (vint .i64) (by show _ = (((1 + v).toNat : Nat) : Int); omega)), by repeat' (first | exact trivial | exact rfl | exact ⟨_, rfl, ALe.refl⟩ | refine And.intro ?_ ?_)⟩
        rintro ⟨n, day, start, k, rs⟩ ⟨c4, c5, c6⟩
        rcases rs with _ | ⟨r, rs⟩
        · dsimp only [slP, obP, zeroG, nilA, g0, List.length_cons, List.length_nil] at c4 c5 c6 ⊢
          rcases Nat.eq_zero_or_pos n with rfl | hn
          · obtain ⟨sl, hsl, hst⟩ := c6
            repeat' (first | refine o1 ?_ | refine o2 ?_ | refine k1 ?_ | refine k2 ?_ | refine k3 ?_ | refine k4 ?_ | refine k6 ?_ | refine k7 ?_ | refine k8 ?_ | refine And.intro ?_ ?_ | exact trivial | refine o3 ?_ | refine o4 ?_ | refine o5 ?_ | refine o6 ?_ | refine k5 ?_ | (intro h; first | exact Bool.noConfusion h | exact nz _ h | exact nl h | (simp at h; done) | (simp at h; first | (exfalso; omega) | skip) | skip) | (change retOk _ _ _ _; refine ret_pure rfl trivial ?_) | exact (rfl : allOne _ = true) | (refine (?_ : (0 : Int) ≤ _); omega) | (refine (?_ : _ ≠ _); omega) | (refine (?_ : srcLen _ = rowsLen _); rfl) | exact Nat.le_of_ble_eq_true rfl | exact (by kernel_rfl : drawOk _ _ = true) | refine eqv_len_map ?_ | refine eqv_size ?_ | refine eqv_put (eqv_ck ?_) | refine eqv_zero ?_ | refine eqv_wrap (by omega) (by omega) ?_ | refine eqv_u64 (by omega) (by omega) ?_ | refine eqv_u8 (by omega) (by omega) ?_ | refine eqv_to _ (set_map rfl rfl) ?_ | refine ⟨_, _, (by first | rfl | assumption), at_map (by assumption), ?_⟩ | refine ⟨_, _, (by first | rfl | assumption), (by assumption), ?_⟩ | refine ⟨_, at_map (by assumption), (by decide), ?_⟩ | refine ⟨_, at_map (by assumption), ?_⟩ | (refine (?_ : _ ≤ 140737488355328); simp [rowsLen] <;> omega) | (refine (?_ : _ ≤ 9223372036854775807); simp [rowsLen] <;> omega) | (refine (?_ : _ = rowsLen _); simp [rowsLen] <;> omega) | refine eqv_to _ (app_row rfl) (eqv_to _ app_len ?_) | refine eqv_to _ (app_first rfl) (eqv_to 1 rfl ?_) | refine idx_sl (at_map (by assumption)) (by omega) ?_ | refine idx_ms _ (by first | rfl | assumption) (by first | assumption | omega) ?_ | (change vcFun _ _ _ _ _; refine call_next 0 rfl (by assumption) (by assumption) (by omega) (by omega) ?_; intro v kq hv1 hv2 hkq) | (change vcFun _ _ _ _ _; refine call_one2 0 rfl (by assumption) (by assumption) (by omega) (by omega) ?_; intro bq kq hkq) | (change vcFunD _ _ _ _ _; refine callD_next 0 rfl (by assumption) (by assumption) (by omega) (by omega) ?_; intro v kq hv1 hv2 hkq) | (change vcFunD _ _ _ _ _; refine callD_one2 0 rfl (by assumption) (by assumption) (by omega) (by omega) ?_; intro bq kq hkq) | fail)
            first
              | exact ⟨(k, []), ⟨c5, Nat.zero_le _, (SitsT.nil (d := 0) (s := 0)).1⟩, Ghost.trans (Ghost.shut (i := 2) (c := 2) (x := .pv (.val (.slice none 0 0))) rfl rfl rfl (by repeat' (first | trivial | refine And.intro ?_ ?_ | (show 0 + _ ≤ List.length _; simp))) (show ¬ (2 ∈ ([] : List Nat)) by decide) (ALe.pv PLe.nil)) (back [0, 1, 2] rfl rfl ⟨rfl, rfl, rfl, trivial⟩ (by repeat' (first | exact trivial | exact rfl | exact ⟨_, rfl, ALe.refl⟩ | refine And.intro ?_ ?_)))⟩
              | (refine ⟨(k, sl), ⟨c5, (by have := congrArg List.length hsl; simp only [List.length_cons, List.length_map] at this; show sl.length ≤ 4; omega), hst.1⟩, Ghost.trans (Ghost.shut (i := 2) (c := 2) (x := .ms 3 4 0 (rs.length + 1)) rfl rfl rfl (by repeat' (first | trivial | refine And.intro ?_ ?_ | (show 0 + _ ≤ List.length _; simp))) (show ¬ (2 ∈ ([3] : List Nat)) by decide) (ALe.pv (PLe.sl (?_ : PLeLL _ (sl.map Sitting.row))))) (back [0, 1, 2] rfl rfl ⟨rfl, rfl, rfl, trivial⟩ (by repeat' (first | exact trivial | exact rfl | exact ⟨_, rfl, ALe.refl⟩ | refine And.intro ?_ ?_)))⟩
                 rw [← hsl, List.drop_zero, List.take_of_length_le (by simp)]
                 exact PLeLL.refl)
          · obtain ⟨sl, hsl, hst⟩ := c6
            repeat' (first | (refine app_cons ?_) | refine o1 ?_ | refine o2 ?_ | refine k1 ?_ | refine k2 ?_ | refine k3 ?_ | refine k4 ?_ | refine k6 ?_ | refine k7 ?_ | refine k8 ?_ | refine And.intro ?_ ?_ | exact trivial | refine o3 ?_ | refine o4 ?_ | refine o5 ?_ | refine o6 ?_ | refine k5 ?_ | (intro h; first | exact Bool.noConfusion h | exact nz _ h | exact nl h | (simp at h; done) | (simp at h; first | (exfalso; omega) | skip) | skip) | (change retOk _ _ _ _; refine ret_pure rfl trivial ?_) | exact (rfl : allOne _ = true) | (refine (?_ : (0 : Int) ≤ _); omega) | (refine (?_ : _ ≠ _); omega) | (refine (?_ : srcLen _ = rowsLen _); rfl) | exact Nat.le_of_ble_eq_true rfl | exact (by kernel_rfl : drawOk _ _ = true) | refine eqv_len_map ?_ | refine eqv_size ?_ | refine eqv_put (eqv_ck ?_) | refine eqv_zero ?_ | refine eqv_wrap (by omega) (by omega) ?_ | refine eqv_u64 (by omega) (by omega) ?_ | refine eqv_u8 (by omega) (by omega) ?_ | refine eqv_to _ (set_map rfl rfl) ?_ | refine ⟨_, _, (by first | rfl | assumption), at_map (by assumption), ?_⟩ | refine ⟨_, _, (by first | rfl | assumption), (by assumption), ?_⟩ | refine ⟨_, at_map (by assumption), (by decide), ?_⟩ | refine ⟨_, at_map (by assumption), ?_⟩ | (refine (?_ : _ ≤ 140737488355328); simp [rowsLen] <;> omega) | (refine (?_ : _ ≤ 9223372036854775807); simp [rowsLen] <;> omega) | (refine (?_ : _ = rowsLen _); simp [rowsLen] <;> omega) | refine eqv_to _ (app_row rfl) (eqv_to _ app_len ?_) | refine eqv_to _ (app_first rfl) (eqv_to 1 rfl ?_) | refine idx_sl (at_map (by assumption)) (by omega) ?_ | refine idx_ms _ (by first | rfl | assumption) (by first | assumption | omega) ?_ | (change vcFun _ _ _ _ _; refine call_next 0 rfl (by assumption) (by assumption) (by omega) (by omega) ?_; intro v kq hv1 hv2 hkq) | (change vcFun _ _ _ _ _; refine call_one2 0 rfl (by assumption) (by assumption) (by omega) (by omega) ?_; intro bq kq hkq) | (change vcFunD _ _ _ _ _; refine callD_next 0 rfl (by assumption) (by assumption) (by omega) (by omega) ?_; intro v kq hv1 hv2 hkq) | (change vcFunD _ _ _ _ _; refine callD_one2 0 rfl (by assumption) (by assumption) (by omega) (by omega) ?_; intro bq kq hkq) | fail)
            all_goals first
              | (exfalso; omega)
              | skip
            all_goals refine ⟨(n - 1, _, _, kq, [_]), ⟨⟨(by show n - 1 + List.length _ ≤ 4; simp; try omega), ?_, ?_, ?_, ?_⟩, hkq, ⟨sl ++ [⟨day, start, _, _⟩], (by rw [List.map_append, ← hsl]; rfl), hst.snoc ?_ ?_ ?_⟩⟩, (by show n - 1 < n; omega), back [0, 1, 2, 6] rfl rfl ⟨rfl, rfl, rfl, rfl, trivial⟩ ⟨rfl, rfl, slot_eq rfl (congrArg (vint .i64) (by show _ = ((n - 1 : Nat) : Int); omega)), by repeat' (first | exact trivial | exact rfl | exact ⟨_, rfl, ALe.refl⟩ | refine And.intro ?_ ?_)⟩⟩
            all_goals first
              | omega
              | (dsimp only; omega)
              | (unfold timedP; dsimp only; omega)
        · dsimp only [slP, obP, zeroG, nilA, g0, List.length_cons, List.length_nil] at c4 c5 c6 ⊢
          rcases Nat.eq_zero_or_pos n with rfl | hn
          · obtain ⟨sl, hsl, hst⟩ := c6
            repeat' (first | refine o1 ?_ | refine o2 ?_ | refine k1 ?_ | refine k2 ?_ | refine k3 ?_ | refine k4 ?_ | refine k6 ?_ | refine k7 ?_ | refine k8 ?_ | refine And.intro ?_ ?_ | exact trivial | refine o3 ?_ | refine o4 ?_ | refine o5 ?_ | refine o6 ?_ | refine k5 ?_ | (intro h; first | exact Bool.noConfusion h | exact nz _ h | exact nl h | (simp at h; done) | (simp at h; first | (exfalso; omega) | skip) | skip) | (change retOk _ _ _ _; refine ret_pure rfl trivial ?_) | exact (rfl : allOne _ = true) | (refine (?_ : (0 : Int) ≤ _); omega) | (refine (?_ : _ ≠ _); omega) | (refine (?_ : srcLen _ = rowsLen _); rfl) | exact Nat.le_of_ble_eq_true rfl | exact (by kernel_rfl : drawOk _ _ = true) | refine eqv_len_map ?_ | refine eqv_size ?_ | refine eqv_put (eqv_ck ?_) | refine eqv_zero ?_ | refine eqv_wrap (by omega) (by omega) ?_ | refine eqv_u64 (by omega) (by omega) ?_ | refine eqv_u8 (by omega) (by omega) ?_ | refine eqv_to _ (set_map rfl rfl) ?_ | refine ⟨_, _, (by first | rfl | assumption), at_map (by assumption), ?_⟩ | refine ⟨_, _, (by first | rfl | assumption), (by assumption), ?_⟩ | refine ⟨_, at_map (by assumption), (by decide), ?_⟩ | refine ⟨_, at_map (by assumption), ?_⟩ | (refine (?_ : _ ≤ 140737488355328); simp [rowsLen] <;> omega) | (refine (?_ : _ ≤ 9223372036854775807); simp [rowsLen] <;> omega) | (refine (?_ : _ = rowsLen _); simp [rowsLen] <;> omega) | refine eqv_to _ (app_row rfl) (eqv_to _ app_len ?_) | refine eqv_to _ (app_first rfl) (eqv_to 1 rfl ?_) | refine idx_sl (at_map (by assumption)) (by omega) ?_ | refine idx_ms _ (by first | rfl | assumption) (by first | assumption | omega) ?_ | (change vcFun _ _ _ _ _; refine call_next 0 rfl (by assumption) (by assumption) (by omega) (by omega) ?_; intro v kq hv1 hv2 hkq) | (change vcFun _ _ _ _ _; refine call_one2 0 rfl (by assumption) (by assumption) (by omega) (by omega) ?_; intro bq kq hkq) | (change vcFunD _ _ _ _ _; refine callD_next 0 rfl (by assumption) (by assumption) (by omega) (by omega) ?_; intro v kq hv1 hv2 hkq) | (change vcFunD _ _ _ _ _; refine callD_one2 0 rfl (by assumption) (by assumption) (by omega) (by omega) ?_; intro bq kq hkq) | fail)
            first
              | exact ⟨(k, []), ⟨c5, Nat.zero_le _, (SitsT.nil (d := 0) (s := 0)).1⟩, Ghost.trans (Ghost.shut (i := 2) (c := 2) (x := .pv (.val (.slice none 0 0))) rfl rfl rfl (by repeat' (first | trivial | refine And.intro ?_ ?_ | (show 0 + _ ≤ List.length _; simp))) (show ¬ (2 ∈ ([] : List Nat)) by decide) (ALe.pv PLe.nil)) (back [0, 1, 2] rfl rfl ⟨rfl, rfl, rfl, trivial⟩ (by repeat' (first | exact trivial | exact rfl | exact ⟨_, rfl, ALe.refl⟩ | refine And.intro ?_ ?_)))⟩
              | (refine ⟨(k, sl), ⟨c5, (by have := congrArg List.length hsl; simp only [List.length_cons, List.length_map] at this; show sl.length ≤ 4; omega), hst.1⟩, Ghost.trans (Ghost.shut (i := 2) (c := 2) (x := .ms 3 4 0 (rs.length + 1)) rfl rfl rfl (by repeat' (first | trivial | refine And.intro ?_ ?_ | (show 0 + _ ≤ List.length _; simp))) (show ¬ (2 ∈ ([3] : List Nat)) by decide) (ALe.pv (PLe.sl (?_ : PLeLL _ (sl.map Sitting.row))))) (back [0, 1, 2] rfl rfl ⟨rfl, rfl, rfl, trivial⟩ (by repeat' (first | exact trivial | exact rfl | exact ⟨_, rfl, ALe.refl⟩ | refine And.intro ?_ ?_)))⟩
                 rw [← hsl, List.drop_zero, List.take_of_length_le (by simp)]
                 exact PLeLL.refl)
          · obtain ⟨sl, hsl, hst⟩ := c6
            repeat' (first | (refine app_cons ?_) | refine o1 ?_ | refine o2 ?_ | refine k1 ?_ | refine k2 ?_ | refine k3 ?_ | refine k4 ?_ | refine k6 ?_ | refine k7 ?_ | refine k8 ?_ | refine And.intro ?_ ?_ | exact trivial | refine o3 ?_ | refine o4 ?_ | refine o5 ?_ | refine o6 ?_ | refine k5 ?_ | (intro h; first | exact Bool.noConfusion h | exact nz _ h | exact nl h | (simp at h; done) | (simp at h; first | (exfalso; omega) | skip) | skip) | (change retOk _ _ _ _; refine ret_pure rfl trivial ?_) | exact (rfl : allOne _ = true) | (refine (?_ : (0 : Int) ≤ _); omega) | (refine (?_ : _ ≠ _); omega) | (refine (?_ : srcLen _ = rowsLen _); rfl) | exact Nat.le_of_ble_eq_true rfl | exact (by kernel_rfl : drawOk _ _ = true) | refine eqv_len_map ?_ | refine eqv_size ?_ | refine eqv_put (eqv_ck ?_) | refine eqv_zero ?_ | refine eqv_wrap (by omega) (by omega) ?_ | refine eqv_u64 (by omega) (by omega) ?_ | refine eqv_u8 (by omega) (by omega) ?_ | refine eqv_to _ (set_map rfl rfl) ?_ | refine ⟨_, _, (by first | rfl | assumption), at_map (by assumption), ?_⟩ | refine ⟨_, _, (by first | rfl | assumption), (by assumption), ?_⟩ | refine ⟨_, at_map (by assumption), (by decide), ?_⟩ | refine ⟨_, at_map (by assumption), ?_⟩ | (refine (?_ : _ ≤ 140737488355328); simp [rowsLen] <;> omega) | (refine (?_ : _ ≤ 9223372036854775807); simp [rowsLen] <;> omega) | (refine (?_ : _ = rowsLen _); simp [rowsLen] <;> omega) | refine eqv_to _ (app_row rfl) (eqv_to _ app_len ?_) | refine eqv_to _ (app_first rfl) (eqv_to 1 rfl ?_) | refine idx_sl (at_map (by assumption)) (by omega) ?_ | refine idx_ms _ (by first | rfl | assumption) (by first | assumption | omega) ?_ | (change vcFun _ _ _ _ _; refine call_next 0 rfl (by assumption) (by assumption) (by omega) (by omega) ?_; intro v kq hv1 hv2 hkq) | (change vcFun _ _ _ _ _; refine call_one2 0 rfl (by assumption) (by assumption) (by omega) (by omega) ?_; intro bq kq hkq) | (change vcFunD _ _ _ _ _; refine callD_next 0 rfl (by assumption) (by assumption) (by omega) (by omega) ?_; intro v kq hv1 hv2 hkq) | (change vcFunD _ _ _ _ _; refine callD_one2 0 rfl (by assumption) (by assumption) (by omega) (by omega) ?_; intro bq kq hkq) | fail)
            all_goals first
              | (exfalso; omega)
              | skip
            all_goals refine ⟨(n - 1, _, _, kq, r :: (rs ++ [_])), ⟨⟨(by show n - 1 + List.length _ ≤ 4; simp; try omega), ?_, ?_, ?_, ?_⟩, hkq, ⟨sl ++ [⟨day, start, _, _⟩], (by rw [List.map_append, ← hsl]; rfl), hst.snoc ?_ ?_ ?_⟩⟩, (by show n - 1 < n; omega), back [0, 1, 2, 6] rfl rfl ⟨rfl, rfl, rfl, rfl, trivial⟩ ⟨rfl, rfl, slot_eq rfl (congrArg (vint .i64) (by show _ = ((n - 1 : Nat) : Int); omega)), by repeat' (first | exact trivial | exact rfl | exact ⟨_, rfl, ALe.refl⟩ | refine And.intro ?_ ?_)⟩⟩
            all_goals first
              | omega
              | (dsimp only; omega)
              | (unfold timedP; dsimp only; omega)
      · refine ⟨?_⟩
        rintro ⟨k, sl⟩ ⟨c4, csl, cst⟩
        dsimp only [slP, obP, zeroG, nilA, g0, List.length_cons, List.length_nil] at c4 csl ⊢
        repeat' (first | refine o1 ?_ | refine o2 ?_ | refine k1 ?_ | refine k2 ?_ | refine k3 ?_ | refine k4 ?_ | refine k6 ?_ | refine k7 ?_ | refine k8 ?_ | refine And.intro ?_ ?_ | exact trivial | refine o3 ?_ | refine o4 ?_ | refine o5 ?_ | refine o6 ?_ | refine k5 ?_ | (intro h; first | exact Bool.noConfusion h | exact nz _ h | exact nl h | (simp at h; done) | (simp at h; first | (exfalso; omega) | skip) | skip) | (change retOk _ _ _ _; refine ret_pure rfl trivial ?_) | exact (rfl : allOne _ = true) | (refine (?_ : (0 : Int) ≤ _); omega) | (refine (?_ : _ ≠ _); omega) | (refine (?_ : srcLen _ = rowsLen _); rfl) | exact Nat.le_of_ble_eq_true rfl | exact (by kernel_rfl : drawOk _ _ = true) | refine eqv_len_map ?_ | refine eqv_size ?_ | refine eqv_put (eqv_ck ?_) | refine eqv_zero ?_ | refine eqv_wrap (by omega) (by omega) ?_ | refine eqv_u64 (by omega) (by omega) ?_ | refine eqv_u8 (by omega) (by omega) ?_ | refine eqv_to _ (set_map rfl rfl) ?_ | refine ⟨_, _, (by first | rfl | assumption), at_map (by assumption), ?_⟩ | refine ⟨_, _, (by first | rfl | assumption), (by assumption), ?_⟩ | refine ⟨_, at_map (by assumption), (by decide), ?_⟩ | refine ⟨_, at_map (by assumption), ?_⟩ | (refine (?_ : _ ≤ 140737488355328); simp [rowsLen] <;> omega) | (refine (?_ : _ ≤ 9223372036854775807); simp [rowsLen] <;> omega) | (refine (?_ : _ = rowsLen _); simp [rowsLen] <;> omega) | refine eqv_to _ (app_row rfl) (eqv_to _ app_len ?_) | refine eqv_to _ (app_first rfl) (eqv_to 1 rfl ?_) | refine idx_sl (at_map (by assumption)) (by omega) ?_ | refine idx_ms _ (by first | rfl | assumption) (by first | assumption | omega) ?_ | (change vcFun _ _ _ _ _; refine call_next 0 rfl (by assumption) (by assumption) (by omega) (by omega) ?_; intro v kq hv1 hv2 hkq) | (change vcFun _ _ _ _ _; refine call_one2 0 rfl (by assumption) (by assumption) (by omega) (by omega) ?_; intro bq kq hkq) | (change vcFunD _ _ _ _ _; refine callD_next 0 rfl (by assumption) (by assumption) (by omega) (by omega) ?_; intro v kq hv1 hv2 hkq) | (change vcFunD _ _ _ _ _; refine callD_one2 0 rfl (by assumption) (by assumption) (by omega) (by omega) ?_; intro bq kq hkq) | fail)
        rename_i w1 q1 a1 a2 a3 w2 q2 b1 b2 b3 w3 q3 d1 d2 d3 w4 q4 e1 e2 e3
        exact ret_obj [0] [dice t kq] rfl rfl ⟨rfl, trivial⟩ (r' := ag (Exams.cells ⟨rl, l, sl, ⟨w1, w2, w3, w4, v⟩⟩)) rfl ⟨⟨rl, l, sl, ⟨w1, w2, w3, w4, v⟩⟩, kq, hkq, ⟨crn, crl, cle, cex, csl, cst, gE0 (by dsimp only; omega)⟩, rfl, rfl⟩
    · repeat' (first | (refine bytes_at (by omega) (by omega) rfl ?_) | ((show Nat.le (ByteArray.size _ + ByteArray.size _) _; exact Nat.le_of_ble_eq_true rfl)) | (refine app_cons ?_) | refine o1 ?_ | refine o2 ?_ | refine k1 ?_ | refine k2 ?_ | refine k3 ?_ | refine k4 ?_ | refine k6 ?_ | refine k7 ?_ | refine k8 ?_ | refine And.intro ?_ ?_ | exact trivial | refine o3 ?_ | refine o4 ?_ | refine o5 ?_ | refine o6 ?_ | refine k5 ?_ | (intro h; first | exact Bool.noConfusion h | exact nz _ h | exact nl h | (simp at h; done) | (simp at h; first | (exfalso; omega) | skip) | skip) | (change retOk _ _ _ _; refine ret_pure rfl trivial ?_) | exact (rfl : allOne _ = true) | (refine (?_ : (0 : Int) ≤ _); omega) | (refine (?_ : _ ≠ _); omega) | (refine (?_ : srcLen _ = rowsLen _); rfl) | exact Nat.le_of_ble_eq_true rfl | exact (by kernel_rfl : drawOk _ _ = true) | refine eqv_len_map ?_ | refine eqv_size ?_ | refine eqv_put (eqv_ck ?_) | refine eqv_zero ?_ | refine eqv_wrap (by omega) (by omega) ?_ | refine eqv_u64 (by omega) (by omega) ?_ | refine eqv_u8 (by omega) (by omega) ?_ | refine eqv_to _ (set_map rfl rfl) ?_ | refine ⟨_, _, (by first | rfl | assumption), at_map (by assumption), ?_⟩ | refine ⟨_, _, (by first | rfl | assumption), (by assumption), ?_⟩ | refine ⟨_, at_map (by assumption), (by decide), ?_⟩ | refine ⟨_, at_map (by assumption), ?_⟩ | (refine (?_ : _ ≤ 140737488355328); simp [rowsLen] <;> omega) | (refine (?_ : _ ≤ 9223372036854775807); simp [rowsLen] <;> omega) | (refine (?_ : _ = rowsLen _); simp [rowsLen] <;> omega) | refine eqv_to _ (app_row rfl) (eqv_to _ app_len ?_) | refine eqv_to _ (app_first rfl) (eqv_to 1 rfl ?_) | refine idx_sl (at_map (by assumption)) (by omega) ?_ | refine idx_ms _ (by first | rfl | assumption) (by first | assumption | omega) ?_ | (change vcFun _ _ _ _ _; refine call_next 0 rfl (by assumption) (by assumption) (by omega) (by omega) ?_; intro v kq hv1 hv2 hkq) | (change vcFun _ _ _ _ _; refine call_one2 0 rfl (by assumption) (by assumption) (by omega) (by omega) ?_; intro bq kq hkq) | (change vcFunD _ _ _ _ _; refine callD_next 0 rfl (by assumption) (by assumption) (by omega) (by omega) ?_; intro v kq hv1 hv2 hkq) | (change vcFunD _ _ _ _ _; refine callD_one2 0 rfl (by assumption) (by assumption) (by omega) (by omega) ?_; intro bq kq hkq) | fail)
      all_goals first
        | (exfalso; omega)
        | skip
      exact ⟨(n - 1, kq, r :: (rs ++ [_])), ⟨⟨by show n - 1 + (r :: (rs ++ [_])).length ≤ 2; simp; omega, by show 1 ≤ n - 1 + (r :: (rs ++ [_])).length; simp; try omega⟩, hkq, fun i q hq => by
        rcases at_app (l := r :: rs) hq with hq | ⟨hi, rfl⟩
        · exact c3 i q hq
        · subst hi; exact ⟨_, rfl, by omega, by omega⟩⟩, (by show n - 1 < n; omega), back [0, 1, 2, 6] rfl rfl ⟨rfl, rfl, rfl, rfl, trivial⟩ ⟨slot_eq rfl (congrArg (vint .i64) (by show _ = ((n - 1 : Nat) : Int); omega)), by repeat' (first | exact trivial | exact rfl | exact ⟨_, rfl, ALe.refl⟩ | refine And.intro ?_ ?_)⟩⟩
end Go.Proofs.YtpnghlibmpainaaGreat.Cw

/-
  Contracts: prices, rules, options of models.
-/
namespace Go.Proofs.YtpnghlibmpainaaGreat.Cw
open Go.Cw Go.Proofs
set_option linter.unusedVariables false
set_option maxRecDepth 100000
set_option maxHeartbeats 800000

theorem c_cost (n : Int) : PCall Tryz.prog 98 [vint .i64 n] (fun r => r = vbool (pB (priceP n))) := by
  refine acall_of tok mixed 13 rfl (fn := Tryz.f98) (c := Tryz.f98.body.getD .skip) (by kernel_rfl) (by kernel_rfl) (by kernel_rfl) rfl 0 rfl ?_
  repeat' (first | refine o1 ?_ | refine o2 ?_ | refine k1 ?_ | refine k2 ?_ | refine k7 ?_ | refine And.intro ?_ ?_ | (intro h; first | exact Bool.noConfusion h | exact nz _ h | exact nl h | (simp at h; done) | (simp at h; first | (exfalso; omega) | skip) | skip) | (change retOk _ _ _ _; refine ret_pure rfl trivial ?_) | fail)
  all_goals (refine congrArg vbool (pB_eq ?_); unfold priceP; simp; omega)
theorem c_rcost (n : Int) : PCall Tryz.prog 112 [vint .i64 n] (fun r => r = vbool (pB (priceP n))) := by
  refine acall_of tok mixed 13 rfl (fn := Tryz.f112) (c := Tryz.f112.body.getD .skip) (by kernel_rfl) (by kernel_rfl) (by kernel_rfl) rfl 0 rfl ?_
  repeat' (first | refine o1 ?_ | refine o2 ?_ | refine k1 ?_ | refine k2 ?_ | refine k7 ?_ | refine And.intro ?_ ?_ | (intro h; first | exact Bool.noConfusion h | exact nz _ h | exact nl h | (simp at h; done) | (simp at h; first | (exfalso; omega) | skip) | skip) | (change retOk _ _ _ _; refine ret_pure rfl trivial ?_) | fail)
  all_goals (refine congrArg vbool (pB_eq ?_); unfold priceP; simp; omega)
theorem c_named (m : Model) (n : Int) : PCall Tryz.prog 97 [ag m.cells, vint .i64 n] (fun r => r = vbool (pB (ruleP m n))) := by
  refine acall_of tok mixed 13 rfl (fn := Tryz.f97) (c := Tryz.f97.body.getD .skip) (by kernel_rfl) (by kernel_rfl) (by kernel_rfl) rfl 0 rfl ?_
  repeat' (first | refine o1 ?_ | refine o2 ?_ | refine k1 ?_ | refine k2 ?_ | refine k7 ?_ | refine And.intro ?_ ?_ | (intro h; first | exact Bool.noConfusion h | exact nz _ h | exact nl h | (simp at h; done) | (simp at h; first | (exfalso; omega) | skip) | skip) | (change retOk _ _ _ _; refine ret_pure rfl trivial ?_) | fail)
  all_goals (refine congrArg vbool (pB_eq ?_); unfold ruleP; simp; omega)
theorem c_rnamed (m : Model) (n : Int) : PCall Tryz.prog 111 [ag m.cells, vint .i64 n] (fun r => r = vbool (pB (ruleP m n))) := by
  refine acall_of tok mixed 13 rfl (fn := Tryz.f111) (c := Tryz.f111.body.getD .skip) (by kernel_rfl) (by kernel_rfl) (by kernel_rfl) rfl 0 rfl ?_
  repeat' (first | refine o1 ?_ | refine o2 ?_ | refine k1 ?_ | refine k2 ?_ | refine k7 ?_ | refine And.intro ?_ ?_ | (intro h; first | exact Bool.noConfusion h | exact nz _ h | exact nl h | (simp at h; done) | (simp at h; first | (exfalso; omega) | skip) | skip) | (change retOk _ _ _ _; refine ret_pure rfl trivial ?_) | fail)
  all_goals (refine congrArg vbool (pB_eq ?_); unfold ruleP; simp; omega)
theorem option_iff {m : Model} {n : Nat} {o : Int} {l : List Opt} (hl : m.classes[n]? = some l) : optionP m n o ↔ 0 ≤ o ∧ o < l.length := by
  unfold optionP
  rw [Int.toNat_natCast, hl]
  constructor
  · rintro ⟨h1, h2, l', h3, h4⟩; cases h3; exact ⟨h2, h4⟩
  · rintro ⟨h1, h2⟩; exact ⟨by omega, h1, l, rfl, h2⟩
theorem option_f {m : Model} {c o : Int} (h : ¬ (0 ≤ c ∧ c < m.classes.length)) : ¬ optionP m c o := fun ⟨h1, h2, l, h3, h4⟩ => by
  have := (List.getElem?_eq_some_iff.1 h3).1
  omega
theorem c_option (m : Model) (c o : Int) : PCall Tryz.prog 104 [ag m.cells, vint .i64 c, vint .i64 o] (fun r => r = vbool (pB (optionP m c o))) := by
  by_cases h : 0 ≤ c ∧ c < m.classes.length
  · obtain ⟨h1, h2⟩ := h
    obtain ⟨n, rfl⟩ := Int.eq_ofNat_of_zero_le h1
    obtain ⟨l, hl⟩ := getE (show n < m.classes.length by omega)
    refine acall_of tok mixed 30 rfl (fn := Tryz.f104) (c := Tryz.f104.body.getD .skip) (by kernel_rfl) (by kernel_rfl) (by kernel_rfl) rfl 0 rfl ?_
    rw [pB_iff (option_iff hl)]
    repeat' (first | (refine idx_sl (k := n) (at_map hl) (by omega) ?_) | refine o1 ?_ | refine o2 ?_ | refine k1 ?_ | refine k2 ?_ | refine k7 ?_ | refine And.intro ?_ ?_ | (intro h; first | exact Bool.noConfusion h | exact nz _ h | exact nl h | (simp at h; done) | (simp at h; first | (exfalso; omega) | skip) | skip) | (change retOk _ _ _ _; refine ret_pure rfl trivial ?_) | refine eqv_len_map ?_ | fail)
    all_goals first
      | (exfalso; omega)
      | (refine congrArg vbool (pB_eq ?_); simp; omega)
  · refine acall_of tok mixed 30 rfl (fn := Tryz.f104) (c := Tryz.f104.body.getD .skip) (by kernel_rfl) (by kernel_rfl) (by kernel_rfl) rfl 0 rfl ?_
    rw [pB_f (option_f h)]
    repeat' (first | refine o1 ?_ | refine o2 ?_ | refine k1 ?_ | refine k2 ?_ | refine k7 ?_ | refine And.intro ?_ ?_ | (intro h; first | exact Bool.noConfusion h | exact nz _ h | exact nl h | (simp at h; done) | (simp at h; first | (exfalso; omega) | skip) | skip) | (change retOk _ _ _ _; refine ret_pure rfl trivial ?_) | refine eqv_len_map ?_ | fail)
    all_goals first
      | exact rfl
      | (exfalso; omega)
theorem c_roption (m : Model) (c o : Int) : PCall Tryz.prog 115 [ag m.cells, vint .i64 c, vint .i64 o] (fun r => r = vbool (pB (optionP m c o))) := by
  by_cases h : 0 ≤ c ∧ c < m.classes.length
  · obtain ⟨h1, h2⟩ := h
    obtain ⟨n, rfl⟩ := Int.eq_ofNat_of_zero_le h1
    obtain ⟨l, hl⟩ := getE (show n < m.classes.length by omega)
    refine acall_of tok mixed 30 rfl (fn := Tryz.f115) (c := Tryz.f115.body.getD .skip) (by kernel_rfl) (by kernel_rfl) (by kernel_rfl) rfl 0 rfl ?_
    rw [pB_iff (option_iff hl)]
    repeat' (first | (refine idx_sl (k := n) (at_map hl) (by omega) ?_) | refine o1 ?_ | refine o2 ?_ | refine k1 ?_ | refine k2 ?_ | refine k7 ?_ | refine And.intro ?_ ?_ | (intro h; first | exact Bool.noConfusion h | exact nz _ h | exact nl h | (simp at h; done) | (simp at h; first | (exfalso; omega) | skip) | skip) | (change retOk _ _ _ _; refine ret_pure rfl trivial ?_) | refine eqv_len_map ?_ | fail)
    all_goals first
      | (exfalso; omega)
      | (refine congrArg vbool (pB_eq ?_); simp; omega)
  · refine acall_of tok mixed 30 rfl (fn := Tryz.f115) (c := Tryz.f115.body.getD .skip) (by kernel_rfl) (by kernel_rfl) (by kernel_rfl) rfl 0 rfl ?_
    rw [pB_f (option_f h)]
    repeat' (first | refine o1 ?_ | refine o2 ?_ | refine k1 ?_ | refine k2 ?_ | refine k7 ?_ | refine And.intro ?_ ?_ | (intro h; first | exact Bool.noConfusion h | exact nz _ h | exact nl h | (simp at h; done) | (simp at h; first | (exfalso; omega) | skip) | skip) | (change retOk _ _ _ _; refine ret_pure rfl trivial ?_) | refine eqv_len_map ?_ | fail)
    all_goals first
      | exact rfl
      | (exfalso; omega)
end Go.Proofs.YtpnghlibmpainaaGreat.Cw

/-
  Contracts: searching the lists of models; charges; sizes.
-/
namespace Go.Proofs.YtpnghlibmpainaaGreat.Cw
open Go.Cw Go.Proofs
set_option linter.unusedVariables false
set_option maxRecDepth 100000
set_option maxHeartbeats 800000

theorem c_index_opt (l : List Opt) (f : FuncId) (caps : List PV) (p : Opt → Bool) (hl : l.length ≤ 100000) (hf : ∀ x ∈ l, PCall Tryz.prog f (ag (Opt.row x) :: pvs caps) (fun r => r = vbool (p x))) :
    PCall Tryz.prog 96 [.pv (.sl 6 (l.map Opt.row)), .pv (.fn f caps)] (fun r => r = vint .i64 (idxB p l)) := by
  refine acall_of tok mixed 19 rfl (fn := Tryz.f96) (c := Tryz.f96.body.getD .skip) (by kernel_rfl) (by kernel_rfl) (by kernel_rfl) rfl 0 rfl ?_
  repeat' (first | refine o1 ?_ | refine o2 ?_ | refine k1 ?_ | refine k2 ?_ | refine k4 ?_ | refine eqv_len_map ?_ | fail)
  refine loop_at (fun i : Nat => [(8, vint .i64 i)]) (fun _ => []) (fun i => i ≤ l.length ∧ ∀ j, j < i → ∀ y, l[j]? = some y → p y = false) (fun i => l.length - i) 0 ⟨by omega, fun j hj => by omega⟩ (by repeat' (first | exact trivial | exact ⟨_, rfl, ALe.refl⟩ | refine And.intro ?_ ?_)) (by repeat' (first | exact trivial)) ?_
  intro i ⟨hi, hall⟩
  rcases Nat.lt_or_ge i l.length with hlt | hge
  · obtain ⟨x, hx⟩ := getE hlt
    have hm := List.mem_of_getElem? hx
    repeat' (first | refine o1 ?_ | refine o2 ?_ | refine k1 ?_ | refine k2 ?_ | refine k3 ?_ | refine k4 ?_ | refine k6 ?_ | refine k7 ?_ | refine And.intro ?_ ?_ | (intro h; first | exact Bool.noConfusion h | exact nz _ h | exact nl h | (simp at h; done) | (simp at h; first | (exfalso; omega) | skip) | skip) | (change retOk _ _ _ _; refine ret_pure rfl trivial ?_) | refine eqv_wrap (by omega) (by omega) ?_ | refine ⟨_, _, (by first | rfl | assumption), at_map (by assumption), ?_⟩ | (change vcFun _ _ (_ ++ pvs _) _ _; refine call_cap rfl (by repeat' (first | trivial | refine And.intro ?_ ?_ | (show 0 + _ ≤ List.length _; simp))) (hf x hm) rfl ?_) | fail)
    all_goals first
      | exact ⟨i + 1, ⟨by omega, all_lt_succ hall fun y hy => by rw [hx] at hy; cases hy; assumption⟩, by omega, back [] rfl rfl trivial (by repeat' (first | exact trivial | exact rfl | refine And.intro ?_ ?_))⟩
      | exact congrArg (vint .i64) (idxB_at hall hx (by assumption)).symm
  · repeat' (first | refine o1 ?_ | refine o2 ?_ | refine k1 ?_ | refine k2 ?_ | refine k3 ?_ | refine k7 ?_ | refine k8 ?_ | refine And.intro ?_ ?_ | (intro h; first | exact Bool.noConfusion h | exact nz _ h | exact nl h | (simp at h; done) | (simp at h; first | (exfalso; omega) | skip) | skip) | (change retOk _ _ _ _; refine ret_pure rfl trivial ?_) | fail)
    exact congrArg (vint .i64) (idxB_none fun j hj => hall j (by omega)).symm

theorem c_any_opt (l : List Opt) (f : FuncId) (caps : List PV) (p : Opt → Bool) (hl : l.length ≤ 100000) (hf : ∀ x ∈ l, PCall Tryz.prog f (ag (Opt.row x) :: pvs caps) (fun r => r = vbool (p x))) :
    PCall Tryz.prog 54 [.pv (.sl 6 (l.map Opt.row)), .pv (.fn f caps)] (fun r => r = vbool (l.any p)) := by
  refine acall_of tok mixed 9 rfl (fn := Tryz.f54) (c := Tryz.f54.body.getD .skip) (by kernel_rfl) (by kernel_rfl) (by kernel_rfl) rfl 0 rfl ?_
  repeat' (first | refine o1 ?_ | refine o2 ?_ | refine k1 ?_ | refine k2 ?_ | refine k7 ?_ | (change retOk _ _ _ _; refine ret_pure rfl trivial ?_) | (change vcFun _ _ _ _ _; refine call_eq rfl (by repeat' (first | trivial | refine And.intro ?_ ?_ | (show 0 + _ ≤ List.length _; simp))) ALeL.refl (c_index_opt l f caps p hl hf) rfl ?_) | fail)
  exact congrArg vbool idxB_any

theorem c_index_count (l : List Count) (f : FuncId) (caps : List PV) (p : Count → Bool) (hl : l.length ≤ 100000) (hf : ∀ x ∈ l, PCall Tryz.prog f (ag (Count.row x) :: pvs caps) (fun r => r = vbool (p x))) :
    PCall Tryz.prog 103 [.pv (.sl 4 (l.map Count.row)), .pv (.fn f caps)] (fun r => r = vint .i64 (idxB p l)) := by
  refine acall_of tok mixed 19 rfl (fn := Tryz.f103) (c := Tryz.f103.body.getD .skip) (by kernel_rfl) (by kernel_rfl) (by kernel_rfl) rfl 0 rfl ?_
  repeat' (first | refine o1 ?_ | refine o2 ?_ | refine k1 ?_ | refine k2 ?_ | refine k4 ?_ | refine eqv_len_map ?_ | fail)
  refine loop_at (fun i : Nat => [(8, vint .i64 i)]) (fun _ => []) (fun i => i ≤ l.length ∧ ∀ j, j < i → ∀ y, l[j]? = some y → p y = false) (fun i => l.length - i) 0 ⟨by omega, fun j hj => by omega⟩ (by repeat' (first | exact trivial | exact ⟨_, rfl, ALe.refl⟩ | refine And.intro ?_ ?_)) (by repeat' (first | exact trivial)) ?_
  intro i ⟨hi, hall⟩
  rcases Nat.lt_or_ge i l.length with hlt | hge
  · obtain ⟨x, hx⟩ := getE hlt
    have hm := List.mem_of_getElem? hx
    repeat' (first | refine o1 ?_ | refine o2 ?_ | refine k1 ?_ | refine k2 ?_ | refine k3 ?_ | refine k4 ?_ | refine k6 ?_ | refine k7 ?_ | refine And.intro ?_ ?_ | (intro h; first | exact Bool.noConfusion h | exact nz _ h | exact nl h | (simp at h; done) | (simp at h; first | (exfalso; omega) | skip) | skip) | (change retOk _ _ _ _; refine ret_pure rfl trivial ?_) | refine eqv_wrap (by omega) (by omega) ?_ | refine ⟨_, _, (by first | rfl | assumption), at_map (by assumption), ?_⟩ | (change vcFun _ _ (_ ++ pvs _) _ _; refine call_cap rfl (by repeat' (first | trivial | refine And.intro ?_ ?_ | (show 0 + _ ≤ List.length _; simp))) (hf x hm) rfl ?_) | fail)
    all_goals first
      | exact ⟨i + 1, ⟨by omega, all_lt_succ hall fun y hy => by rw [hx] at hy; cases hy; assumption⟩, by omega, back [] rfl rfl trivial (by repeat' (first | exact trivial | exact rfl | refine And.intro ?_ ?_))⟩
      | exact congrArg (vint .i64) (idxB_at hall hx (by assumption)).symm
  · repeat' (first | refine o1 ?_ | refine o2 ?_ | refine k1 ?_ | refine k2 ?_ | refine k3 ?_ | refine k7 ?_ | refine k8 ?_ | refine And.intro ?_ ?_ | (intro h; first | exact Bool.noConfusion h | exact nz _ h | exact nl h | (simp at h; done) | (simp at h; first | (exfalso; omega) | skip) | skip) | (change retOk _ _ _ _; refine ret_pure rfl trivial ?_) | fail)
    exact congrArg (vint .i64) (idxB_none fun j hj => hall j (by omega)).symm

theorem c_any_count (l : List Count) (f : FuncId) (caps : List PV) (p : Count → Bool) (hl : l.length ≤ 100000) (hf : ∀ x ∈ l, PCall Tryz.prog f (ag (Count.row x) :: pvs caps) (fun r => r = vbool (p x))) :
    PCall Tryz.prog 59 [.pv (.sl 4 (l.map Count.row)), .pv (.fn f caps)] (fun r => r = vbool (l.any p)) := by
  refine acall_of tok mixed 9 rfl (fn := Tryz.f59) (c := Tryz.f59.body.getD .skip) (by kernel_rfl) (by kernel_rfl) (by kernel_rfl) rfl 0 rfl ?_
  repeat' (first | refine o1 ?_ | refine o2 ?_ | refine k1 ?_ | refine k2 ?_ | refine k7 ?_ | (change retOk _ _ _ _; refine ret_pure rfl trivial ?_) | (change vcFun _ _ _ _ _; refine call_eq rfl (by repeat' (first | trivial | refine And.intro ?_ ?_ | (show 0 + _ ≤ List.length _; simp))) ALeL.refl (c_index_count l f caps p hl hf) rfl ?_) | fail)
  exact congrArg vbool idxB_any

theorem c_index_opts (l : List (List Opt)) (f : FuncId) (caps : List PV) (p : (List Opt) → Bool) (hl : l.length ≤ 100000) (hf : ∀ x ∈ l, PCall Tryz.prog f (AV.pv (PV.sl 6 (List.map Opt.row x)) :: pvs caps) (fun r => r = vbool (p x))) :
    PCall Tryz.prog 137 [.pv (.sl 1 (l.map optsRow)), .pv (.fn f caps)] (fun r => r = vint .i64 (idxB p l)) := by
  refine acall_of tok mixed 19 rfl (fn := Tryz.f137) (c := Tryz.f137.body.getD .skip) (by kernel_rfl) (by kernel_rfl) (by kernel_rfl) rfl 0 rfl ?_
  repeat' (first | refine o1 ?_ | refine o2 ?_ | refine k1 ?_ | refine k2 ?_ | refine k4 ?_ | refine eqv_len_map ?_ | fail)
  refine loop_at (fun i : Nat => [(8, vint .i64 i)]) (fun _ => []) (fun i => i ≤ l.length ∧ ∀ j, j < i → ∀ y, l[j]? = some y → p y = false) (fun i => l.length - i) 0 ⟨by omega, fun j hj => by omega⟩ (by repeat' (first | exact trivial | exact ⟨_, rfl, ALe.refl⟩ | refine And.intro ?_ ?_)) (by repeat' (first | exact trivial)) ?_
  intro i ⟨hi, hall⟩
  rcases Nat.lt_or_ge i l.length with hlt | hge
  · obtain ⟨x, hx⟩ := getE hlt
    have hm := List.mem_of_getElem? hx
    repeat' (first | refine o1 ?_ | refine o2 ?_ | refine k1 ?_ | refine k2 ?_ | refine k3 ?_ | refine k4 ?_ | refine k6 ?_ | refine k7 ?_ | refine And.intro ?_ ?_ | (intro h; first | exact Bool.noConfusion h | exact nz _ h | exact nl h | (simp at h; done) | (simp at h; first | (exfalso; omega) | skip) | skip) | (change retOk _ _ _ _; refine ret_pure rfl trivial ?_) | refine eqv_wrap (by omega) (by omega) ?_ | refine ⟨_, _, (by first | rfl | assumption), at_map (by assumption), ?_⟩ | (change vcFun _ _ (_ ++ pvs _) _ _; refine call_cap rfl (by repeat' (first | trivial | refine And.intro ?_ ?_ | (show 0 + _ ≤ List.length _; simp))) (hf x hm) rfl ?_) | fail)
    all_goals first
      | exact ⟨i + 1, ⟨by omega, all_lt_succ hall fun y hy => by rw [hx] at hy; cases hy; assumption⟩, by omega, back [] rfl rfl trivial (by repeat' (first | exact trivial | exact rfl | refine And.intro ?_ ?_))⟩
      | exact congrArg (vint .i64) (idxB_at hall hx (by assumption)).symm
  · repeat' (first | refine o1 ?_ | refine o2 ?_ | refine k1 ?_ | refine k2 ?_ | refine k3 ?_ | refine k7 ?_ | refine k8 ?_ | refine And.intro ?_ ?_ | (intro h; first | exact Bool.noConfusion h | exact nz _ h | exact nl h | (simp at h; done) | (simp at h; first | (exfalso; omega) | skip) | skip) | (change retOk _ _ _ _; refine ret_pure rfl trivial ?_) | fail)
    exact congrArg (vint .i64) (idxB_none fun j hj => hall j (by omega)).symm

theorem c_any_opts (l : List (List Opt)) (f : FuncId) (caps : List PV) (p : (List Opt) → Bool) (hl : l.length ≤ 100000) (hf : ∀ x ∈ l, PCall Tryz.prog f (AV.pv (PV.sl 6 (List.map Opt.row x)) :: pvs caps) (fun r => r = vbool (p x))) :
    PCall Tryz.prog 95 [.pv (.sl 1 (l.map optsRow)), .pv (.fn f caps)] (fun r => r = vbool (l.any p)) := by
  refine acall_of tok mixed 9 rfl (fn := Tryz.f95) (c := Tryz.f95.body.getD .skip) (by kernel_rfl) (by kernel_rfl) (by kernel_rfl) rfl 0 rfl ?_
  repeat' (first | refine o1 ?_ | refine o2 ?_ | refine k1 ?_ | refine k2 ?_ | refine k7 ?_ | (change retOk _ _ _ _; refine ret_pure rfl trivial ?_) | (change vcFun _ _ _ _ _; refine call_eq rfl (by repeat' (first | trivial | refine And.intro ?_ ?_ | (show 0 + _ ≤ List.length _; simp))) ALeL.refl (c_index_opts l f caps p hl hf) rfl ?_) | fail)
  exact congrArg vbool idxB_any

theorem c_index_int (l : List Int) (f : FuncId) (caps : List PV) (p : Int → Bool) (hl : l.length ≤ 100000) (hf : ∀ x ∈ l, PCall Tryz.prog f (vint .i64 x :: pvs caps) (fun r => r = vbool (p x))) :
    PCall Tryz.prog 138 [.pv (.sl 1 (l.map (fun n => [ei n]))), .pv (.fn f caps)] (fun r => r = vint .i64 (idxB p l)) := by
  refine acall_of tok mixed 19 rfl (fn := Tryz.f138) (c := Tryz.f138.body.getD .skip) (by kernel_rfl) (by kernel_rfl) (by kernel_rfl) rfl 0 rfl ?_
  repeat' (first | refine o1 ?_ | refine o2 ?_ | refine k1 ?_ | refine k2 ?_ | refine k4 ?_ | refine eqv_len_map ?_ | fail)
  refine loop_at (fun i : Nat => [(8, vint .i64 i)]) (fun _ => []) (fun i => i ≤ l.length ∧ ∀ j, j < i → ∀ y, l[j]? = some y → p y = false) (fun i => l.length - i) 0 ⟨by omega, fun j hj => by omega⟩ (by repeat' (first | exact trivial | exact ⟨_, rfl, ALe.refl⟩ | refine And.intro ?_ ?_)) (by repeat' (first | exact trivial)) ?_
  intro i ⟨hi, hall⟩
  rcases Nat.lt_or_ge i l.length with hlt | hge
  · obtain ⟨x, hx⟩ := getE hlt
    have hm := List.mem_of_getElem? hx
    repeat' (first | refine o1 ?_ | refine o2 ?_ | refine k1 ?_ | refine k2 ?_ | refine k3 ?_ | refine k4 ?_ | refine k6 ?_ | refine k7 ?_ | refine And.intro ?_ ?_ | (intro h; first | exact Bool.noConfusion h | exact nz _ h | exact nl h | (simp at h; done) | (simp at h; first | (exfalso; omega) | skip) | skip) | (change retOk _ _ _ _; refine ret_pure rfl trivial ?_) | refine eqv_wrap (by omega) (by omega) ?_ | refine ⟨_, _, (by first | rfl | assumption), at_map (by assumption), ?_⟩ | (change vcFun _ _ (_ ++ pvs _) _ _; refine call_cap rfl (by repeat' (first | trivial | refine And.intro ?_ ?_ | (show 0 + _ ≤ List.length _; simp))) (hf x hm) rfl ?_) | fail)
    all_goals first
      | exact ⟨i + 1, ⟨by omega, all_lt_succ hall fun y hy => by rw [hx] at hy; cases hy; assumption⟩, by omega, back [] rfl rfl trivial (by repeat' (first | exact trivial | exact rfl | refine And.intro ?_ ?_))⟩
      | exact congrArg (vint .i64) (idxB_at hall hx (by assumption)).symm
  · repeat' (first | refine o1 ?_ | refine o2 ?_ | refine k1 ?_ | refine k2 ?_ | refine k3 ?_ | refine k7 ?_ | refine k8 ?_ | refine And.intro ?_ ?_ | (intro h; first | exact Bool.noConfusion h | exact nz _ h | exact nl h | (simp at h; done) | (simp at h; first | (exfalso; omega) | skip) | skip) | (change retOk _ _ _ _; refine ret_pure rfl trivial ?_) | fail)
    exact congrArg (vint .i64) (idxB_none fun j hj => hall j (by omega)).symm

theorem c_any_int (l : List Int) (f : FuncId) (caps : List PV) (p : Int → Bool) (hl : l.length ≤ 100000) (hf : ∀ x ∈ l, PCall Tryz.prog f (vint .i64 x :: pvs caps) (fun r => r = vbool (p x))) :
    PCall Tryz.prog 99 [.pv (.sl 1 (l.map (fun n => [ei n]))), .pv (.fn f caps)] (fun r => r = vbool (l.any p)) := by
  refine acall_of tok mixed 9 rfl (fn := Tryz.f99) (c := Tryz.f99.body.getD .skip) (by kernel_rfl) (by kernel_rfl) (by kernel_rfl) rfl 0 rfl ?_
  repeat' (first | refine o1 ?_ | refine o2 ?_ | refine k1 ?_ | refine k2 ?_ | refine k7 ?_ | (change retOk _ _ _ _; refine ret_pure rfl trivial ?_) | (change vcFun _ _ _ _ _; refine call_eq rfl (by repeat' (first | trivial | refine And.intro ?_ ?_ | (show 0 + _ ≤ List.length _; simp))) ALeL.refl (c_index_int l f caps p hl hf) rfl ?_) | fail)
  exact congrArg vbool idxB_any

theorem charge_zero {m : Model} {l : List Charge} {c : Charge} (hc : l[0]? = some c) (h1 : ruleP m c.rule) (h2 : priceP c.cost) : chargeAt m l 0 := fun c' h' => by
  rw [hc] at h'; cases h'
  exact ⟨h1, h2, fun k b e => by omega⟩
theorem charge_next {m : Model} {l : List Charge} {k : Nat} {c b : Charge} (hc : l[k + 1]? = some c) (hb : l[k]? = some b) (h1 : ruleP m c.rule) (h2 : priceP c.cost) (h3 : b.rule < c.rule) : chargeAt m l (k + 1) := fun c' h' => by
  rw [hc] at h'; cases h'
  refine ⟨h1, h2, fun k' b' e hb' => ?_⟩
  obtain rfl : k = k' := by omega
  rw [hb] at hb'; cases hb'; exact h3
theorem sizedP_iff {m : Model} (h : ∀ l ∈ m.classes, l.length ≤ 24) : sizedP m ↔ m.classes.length ≤ 24 ∧ m.pairs.length ≤ 4000 ∧ m.counts.length ≤ 800 ∧ 0 ≤ m.rules ∧ m.rules ≤ 56 :=
  ⟨fun ⟨a, _, b⟩ => ⟨a, b⟩, fun ⟨a, b⟩ => ⟨a, h, b⟩⟩
theorem c_charged (m : Model) (o : Opt) (ho : o.charges.length ≤ 9223372036854775807) : PCall Tryz.prog 56 [ag m.cells, ag o.row] (fun r => r = vbool (pB (chargesP m o))) := by
  refine acall_of tok mixed 43 rfl (fn := Tryz.f56) (c := Tryz.f56.body.getD .skip) (by kernel_rfl) (by kernel_rfl) (by kernel_rfl) rfl 0 rfl ?_
  repeat' (first | refine o1 ?_ | refine o2 ?_ | refine k1 ?_ | refine k2 ?_ | refine k4 ?_ | refine eqv_len_map ?_ | fail)
  refine loop_at (fun i : Nat => [(10, vint .i64 i)]) (fun _ => []) (fun i => i ≤ o.charges.length ∧ ∀ j, j < i → chargeAt m o.charges j) (fun i => o.charges.length - i) 0 ⟨by omega, fun j hj => by omega⟩ (by repeat' (first | exact trivial | exact ⟨_, rfl, ALe.refl⟩ | refine And.intro ?_ ?_)) (by repeat' (first | exact trivial | exact rfl | refine And.intro ?_ ?_)) ?_
  intro i ⟨hi, hall⟩
  rcases Nat.lt_or_ge i o.charges.length with hlt | hge
  · obtain ⟨c, hc⟩ := getE hlt
    rcases i with _ | k
    · repeat' (first | refine o1 ?_ | refine o2 ?_ | refine k1 ?_ | refine k2 ?_ | refine k3 ?_ | refine k4 ?_ | refine k6 ?_ | refine k7 ?_ | refine k8 ?_ | refine And.intro ?_ ?_ | refine o3 ?_ | refine o4 ?_ | (intro h; first | exact Bool.noConfusion h | exact nz _ h | exact nl h | (simp at h; done) | (simp at h; first | (exfalso; omega) | skip) | skip) | (change retOk _ _ _ _; refine ret_pure rfl trivial ?_) | exact (by kernel_rfl : drawOk _ _ = true) | refine eqv_wrap (by omega) (by omega) ?_ | refine ⟨_, _, (by first | rfl | assumption), at_map (by assumption), ?_⟩ | (change vcFunD _ _ _ _ _; refine callD_eq rfl (by repeat' (first | trivial | refine And.intro ?_ ?_ | (show 0 + _ ≤ List.length _; simp))) ALeL.refl (c_named m c.rule) rfl ?_) | (change vcFunD _ _ _ _ _; refine callD_eq rfl (by repeat' (first | trivial | refine And.intro ?_ ?_ | (show 0 + _ ≤ List.length _; simp))) ALeL.refl (c_cost c.cost) rfl ?_) | fail)
      all_goals first
        | (exfalso; omega)
        | (refine congrArg vbool (pB_f fun h => ?_).symm; obtain ⟨g1, g2, g3⟩ := h _ hlt c hc; first | exact absurd g1 (by assumption) | exact absurd g2 (by assumption))
        | exact ⟨1, ⟨by omega, all_lt_succ hall (charge_zero hc (by assumption) (by assumption))⟩, by omega, back [0, 1] rfl rfl ⟨rfl, rfl, trivial⟩ (by repeat' (first | exact trivial | exact rfl | refine And.intro ?_ ?_))⟩
        | (exfalso; simp_all; done)
    · obtain ⟨b, hb⟩ := getE (show k < o.charges.length by omega)
      repeat' (first | (refine idx_sl (k := k + 1) (at_map hc) (by omega) ?_) | (refine idx_sl (k := k) (at_map hb) (by omega) ?_) | refine o1 ?_ | refine o2 ?_ | refine k1 ?_ | refine k2 ?_ | refine k3 ?_ | refine k4 ?_ | refine k6 ?_ | refine k7 ?_ | refine And.intro ?_ ?_ | refine o3 ?_ | refine o4 ?_ | (intro h; first | exact Bool.noConfusion h | exact nz _ h | exact nl h | (simp at h; done) | (simp at h; first | (exfalso; omega) | skip) | skip) | (change retOk _ _ _ _; refine ret_pure rfl trivial ?_) | exact (by kernel_rfl : drawOk _ _ = true) | refine eqv_wrap (by omega) (by omega) ?_ | (change vcFunD _ _ _ _ _; refine callD_eq rfl (by repeat' (first | trivial | refine And.intro ?_ ?_ | (show 0 + _ ≤ List.length _; simp))) ALeL.refl (c_named m c.rule) rfl ?_) | (change vcFunD _ _ _ _ _; refine callD_eq rfl (by repeat' (first | trivial | refine And.intro ?_ ?_ | (show 0 + _ ≤ List.length _; simp))) ALeL.refl (c_cost c.cost) rfl ?_) | fail)
      all_goals first
        | (exfalso; omega)
        | (refine congrArg vbool (pB_f fun h => ?_).symm; obtain ⟨g1, g2, g3⟩ := h _ hlt c hc; first | exact absurd g1 (by assumption) | exact absurd g2 (by assumption) | (have := g3 k b rfl hb; omega))
        | exact ⟨k + 2, ⟨by omega, all_lt_succ hall (charge_next hc hb (by assumption) (by assumption) (by omega))⟩, by omega, back [0, 1] rfl rfl ⟨rfl, rfl, trivial⟩ (by repeat' (first | exact trivial | exact rfl | refine And.intro ?_ ?_))⟩
  · repeat' (first | refine o1 ?_ | refine o2 ?_ | refine k1 ?_ | refine k2 ?_ | refine k3 ?_ | refine k7 ?_ | refine k8 ?_ | refine And.intro ?_ ?_ | (intro h; first | exact Bool.noConfusion h | exact nz _ h | exact nl h | (simp at h; done) | (simp at h; first | (exfalso; omega) | skip) | skip) | (change retOk _ _ _ _; refine ret_pure rfl trivial ?_) | fail)
    all_goals first
      | exact congrArg vbool (pB_t fun j hj => hall j (by omega)).symm
theorem c_many (l : List Opt) : PCall Tryz.prog 94 [.pv (.sl 6 (l.map Opt.row))] (fun r => r = vbool (decide (24 < l.length))) := by
  refine acall_of tok mixed 6 rfl (fn := Tryz.f94) (c := Tryz.f94.body.getD .skip) (by kernel_rfl) (by kernel_rfl) (by kernel_rfl) rfl 0 rfl ?_
  repeat' (first | refine o1 ?_ | refine o2 ?_ | refine k1 ?_ | refine k2 ?_ | refine k7 ?_ | (change retOk _ _ _ _; refine ret_pure rfl trivial ?_) | refine eqv_len_map ?_ | fail)
  all_goals (refine congrArg vbool (decide_eq_decide.2 ?_); omega)
theorem c_large (m : Model) : PCall Tryz.prog 53 [ag m.cells] (fun r => r = vbool (pB (¬ sizedP m))) := by
  refine acall_of tok mixed 36 rfl (fn := Tryz.f53) (c := Tryz.f53.body.getD .skip) (by kernel_rfl) (by kernel_rfl) (by kernel_rfl) rfl 0 rfl ?_
  repeat' (first | refine o1 ?_ | refine o2 ?_ | refine k1 ?_ | refine k2 ?_ | refine k7 ?_ | refine And.intro ?_ ?_ | (intro h; first | exact Bool.noConfusion h | exact nz _ h | exact nl h | (simp at h; done) | (simp at h; first | (exfalso; omega) | skip) | skip) | (change retOk _ _ _ _; refine ret_pure rfl trivial ?_) | refine eqv_len_map ?_ | (change vcFun _ _ _ _ _; refine call_eq rfl (by repeat' (first | trivial | refine And.intro ?_ ?_ | (show 0 + _ ≤ List.length _; simp))) ALeL.refl (c_any_opts m.classes 94 [] (fun x => decide (24 < x.length)) (by omega) (fun x _ => c_many x)) rfl ?_) | fail)
  all_goals first
    | (refine congrArg vbool (pB_eq ?_); rw [sizedP_iff (by assumption), decide_eq_true_iff]; omega)
    | (refine congrArg vbool (pB_t fun h => ?_).symm; obtain ⟨h1, h2, h3, h4, h5, h6⟩ := h; omega)
    | (refine congrArg vbool (pB_t fun h => ?_).symm; obtain ⟨x, hx, h7⟩ := (by assumption : ∃ x, x ∈ m.classes ∧ 24 < List.length x); have := h.2.1 x hx; omega)
theorem c_sized (m : Model) (hm : Laid m) : PCall Tryz.prog 110 [ag m.cells] (fun r => r = vbool (pB (sizedP m))) := by
  have hn := hm.cn
  refine acall_of tok mixed 44 rfl (fn := Tryz.f110) (c := Tryz.f110.body.getD .skip) (by kernel_rfl) (by kernel_rfl) (by kernel_rfl) rfl 0 rfl ?_
  repeat' (first | refine o1 ?_ | refine o2 ?_ | refine k1 ?_ | refine k2 ?_ | refine k4 ?_ | fail)
  refine loop_at (fun i : Nat => [(3, vint .i64 i)]) (fun _ => []) (fun i => i ≤ m.classes.length ∧ ∀ j, j < i → ∀ l, m.classes[j]? = some l → l.length ≤ 24) (fun i => m.classes.length - i) 0 ⟨by omega, fun j hj => by omega⟩ (by repeat' (first | exact trivial | exact ⟨_, rfl, ALe.refl⟩ | refine And.intro ?_ ?_)) (by repeat' (first | exact trivial | exact rfl | refine And.intro ?_ ?_)) ?_
  intro i ⟨hi, hall⟩
  rcases Nat.lt_or_ge i m.classes.length with hlt | hge
  · obtain ⟨l, hl⟩ := getE hlt
    repeat' (first | refine o1 ?_ | refine o2 ?_ | refine k1 ?_ | refine k2 ?_ | refine k3 ?_ | refine k4 ?_ | refine k6 ?_ | refine k7 ?_ | refine And.intro ?_ ?_ | (intro h; first | exact Bool.noConfusion h | exact nz _ h | exact nl h | (simp at h; done) | (simp at h; first | (exfalso; omega) | skip) | skip) | (change retOk _ _ _ _; refine ret_pure rfl trivial ?_) | refine eqv_len_map ?_ | refine eqv_wrap (by omega) (by omega) ?_ | refine ⟨_, _, (by first | rfl | assumption), at_map (by assumption), ?_⟩ | fail)
    all_goals first
      | (refine congrArg vbool (pB_f fun h => ?_).symm; have := h.2.1 l (List.mem_of_getElem? hl); omega)
      | exact ⟨i + 1, ⟨by omega, all_lt_succ hall fun l' h' => by rw [hl] at h'; cases h'; omega⟩, by omega, back [0] rfl rfl ⟨rfl, trivial⟩ (by repeat' (first | exact trivial | exact rfl | refine And.intro ?_ ?_))⟩
  · have hall2 : ∀ l ∈ m.classes, l.length ≤ 24 := fun l hl => by
      obtain ⟨j, hj⟩ := List.getElem?_of_mem hl
      exact hall j (by have := (List.getElem?_eq_some_iff.1 hj).1; omega) l hj
    repeat' (first | refine o1 ?_ | refine o2 ?_ | refine k1 ?_ | refine k2 ?_ | refine k3 ?_ | refine k7 ?_ | refine k8 ?_ | refine And.intro ?_ ?_ | (intro h; first | exact Bool.noConfusion h | exact nz _ h | exact nl h | (simp at h; done) | (simp at h; first | (exfalso; omega) | skip) | skip) | (change retOk _ _ _ _; refine ret_pure rfl trivial ?_) | refine eqv_len_map ?_ | fail)
    all_goals first
      | (refine congrArg vbool (pB_eq ?_); rw [sizedP_iff hall2, decide_eq_true_iff]; omega)
      | (refine congrArg vbool (pB_f fun h => ?_).symm; obtain ⟨h1, h2, h3, h4, h5, h6⟩ := h; omega)
end Go.Proofs.YtpnghlibmpainaaGreat.Cw

/-
  Contracts: pairs of models.
-/
namespace Go.Proofs.YtpnghlibmpainaaGreat.Cw
open Go.Cw Go.Proofs
set_option linter.unusedVariables false
set_option maxRecDepth 100000
set_option maxHeartbeats 800000

theorem c_order (p q : Pair) : PCall Tryz.prog 58 [ag p.row, ag q.row] (fun r => r = vint .i64 (orI [cmpI p.rule q.rule, cmpI p.first q.first, cmpI p.second q.second])) := by
  refine acall_of tok mixed 22 rfl (fn := Tryz.f58) (c := Tryz.f58.body.getD .skip) (by kernel_rfl) (by kernel_rfl) (by kernel_rfl) rfl 0 rfl ?_
  repeat' (first | refine o1 ?_ | refine o2 ?_ | refine k1 ?_ | refine k2 ?_ | refine k7 ?_ | refine And.intro ?_ ?_ | refine o3 ?_ | refine o4 ?_ | (change retOk _ _ _ _; refine ret_pure rfl trivial ?_) | exact (by kernel_rfl : drawOk _ _ = true) | (change vcFunD _ _ _ _ _; refine callD_eq rfl (by repeat' (first | trivial | refine And.intro ?_ ?_ | (show 0 + _ ≤ List.length _; simp))) ALeL.refl (c_cmp _ _) rfl ?_) | (change vcFunD _ _ _ _ _; refine callD_eq rfl (by repeat' (first | trivial | refine And.intro ?_ ?_ | (show 0 + _ ≤ List.length _; simp))) ALeL.refl (c_or [cmpI p.rule q.rule, cmpI p.first q.first, cmpI p.second q.second] (Nat.le_of_ble_eq_true rfl)) rfl ?_) | fail)
  all_goals exact rfl
theorem pair_cmp {p q : Pair} : orI [cmpI p.rule q.rule, cmpI p.first q.first, cmpI p.second q.second] < 0 ↔ pairLt p q := by
  simp only [orI, cmpI, pairLt]
  grind
theorem c_paired1 (n : Int) : PCall Tryz.prog 100 [vint .i64 n] (fun r => r = vbool (pB (n ≠ 0 ∧ ¬ priceP n))) := by
  refine acall_of tok mixed 10 rfl (fn := Tryz.f100) (c := Tryz.f100.body.getD .skip) (by kernel_rfl) (by kernel_rfl) (by kernel_rfl) rfl 0 rfl ?_
  repeat' (first | refine o1 ?_ | refine o2 ?_ | refine k1 ?_ | refine k2 ?_ | refine k7 ?_ | refine And.intro ?_ ?_ | (intro h; first | exact Bool.noConfusion h | exact nz _ h | exact nl h | (simp at h; done) | (simp at h; first | (exfalso; omega) | skip) | skip) | (change retOk _ _ _ _; refine ret_pure rfl trivial ?_) | (change vcFun _ _ _ _ _; refine call_eq rfl (by repeat' (first | trivial | refine And.intro ?_ ?_ | (show 0 + _ ≤ List.length _; simp))) ALeL.refl (c_cost n) rfl ?_) | fail)
  all_goals first
    | exact congrArg vbool (pB_f fun h => h.1 (by assumption)).symm
    | exact congrArg vbool (pB_eq (by simp_all))
theorem price_any {t : List Int} : (!t.any fun n => pB (n ≠ 0 ∧ ¬ priceP n)) = true ↔ ∀ x ∈ t, x = 0 ∨ priceP x := by
  simp only [Bool.not_eq_true', List.any_eq_false, decide_eq_true_eq]
  constructor
  · intro h x hx
    have := h x hx
    by_cases h0 : x = 0
    · exact .inl h0
    · exact .inr (Classical.byContradiction fun h1 => this ⟨h0, h1⟩)
  · intro h x hx ⟨h0, h1⟩
    rcases h x hx with h2 | h2
    · exact h0 h2
    · exact h1 h2
theorem pair_iff {m : Model} {n k : Nat} {r : Int} {t : List Int} {a b : List Opt} (ha : m.classes[n]? = some a) (hb : m.classes[k]? = some b) (hnk : (n : Int) < k) : pairP m ⟨n, k, r, t⟩ ↔ ruleP m r ∧ t.length = a.length * b.length ∧ ∀ x ∈ t, x = 0 ∨ priceP x := by
  unfold pairP
  simp only [Int.toNat_natCast, ha, hb]
  constructor
  · rintro ⟨h1, h2, h3, ⟨a', b', h4, h5, h6⟩, h7⟩
    cases h4; cases h5; exact ⟨h1, h6, h7⟩
  · rintro ⟨h1, h2, h3⟩
    exact ⟨h1, by omega, hnk, ⟨a, b, rfl, rfl, h2⟩, h3⟩
theorem pair_f {m : Model} {p : Pair} (h : ¬ (0 ≤ p.first ∧ p.first < p.second ∧ p.second < m.classes.length)) : ¬ pairP m p := fun ⟨h1, h2, h3, ⟨a, b, h4, h5, h6⟩, h7⟩ => by
  have := (List.getElem?_eq_some_iff.1 h5).1
  omega
theorem c_paired (m : Model) (p : Pair) (hz : sizedP m) : PCall Tryz.prog 57 [ag m.cells, ag p.row] (fun r => r = vbool (pB (pairP m p))) := by
  by_cases h : 0 ≤ p.first ∧ p.first < p.second ∧ p.second < m.classes.length
  · obtain ⟨h1, h2, h3⟩ := h
    obtain ⟨f, s, r, t⟩ := p
    dsimp only at h1 h2 h3 ⊢
    obtain ⟨n, rfl⟩ := Int.eq_ofNat_of_zero_le h1
    obtain ⟨k, rfl⟩ := Int.eq_ofNat_of_zero_le (show 0 ≤ s by omega)
    obtain ⟨a, ha⟩ := getE (show n < m.classes.length by omega)
    obtain ⟨b, hb⟩ := getE (show k < m.classes.length by omega)
    have hla := hz.2.1 a (List.mem_of_getElem? ha)
    have hlb := hz.2.1 b (List.mem_of_getElem? hb)
    have hab : a.length * b.length ≤ 576 := Nat.mul_le_mul hla hlb
    have hab1 : (a.length : Int) * b.length ≤ 576 := by exact_mod_cast hab
    have hab0 : (0 : Int) ≤ (a.length : Int) * b.length := by exact_mod_cast Nat.zero_le _
    have hcast : ((a.length * b.length : Nat) : Int) = (a.length : Int) * b.length := by simp
    refine acall_of tok mixed 55 rfl (fn := Tryz.f57) (c := Tryz.f57.body.getD .skip) (by kernel_rfl) (by kernel_rfl) (by kernel_rfl) rfl 0 rfl ?_
    rw [pB_iff (pair_iff ha hb h2)]
    repeat' (first | refine o1 ?_ | refine o2 ?_ | refine k1 ?_ | refine k2 ?_ | refine k3 ?_ | refine k6 ?_ | refine k7 ?_ | refine And.intro ?_ ?_ | refine o3 ?_ | refine o4 ?_ | (intro h; first | exact Bool.noConfusion h | exact nz _ h | exact nl h | (simp at h; done) | (simp at h; first | (exfalso; omega) | skip) | skip) | (change retOk _ _ _ _; refine ret_pure rfl trivial ?_) | exact (by kernel_rfl : drawOk _ _ = true) | refine eqv_len_map ?_ | refine eqv_wrap (by omega) (by omega) ?_ | refine ⟨_, _, (by first | rfl | assumption), at_map (by assumption), ?_⟩ | (change vcFunD _ _ _ _ _; refine callD_eq rfl (by repeat' (first | trivial | refine And.intro ?_ ?_ | (show 0 + _ ≤ List.length _; simp))) ALeL.refl (c_named m r) rfl ?_) | (change vcFun _ _ _ _ _; refine call_eq rfl (by repeat' (first | trivial | refine And.intro ?_ ?_ | (show 0 + _ ≤ List.length _; simp))) ALeL.refl (c_any_int t 100 [] (fun n => pB (n ≠ 0 ∧ ¬ priceP n)) (by omega) (fun n _ => c_paired1 n)) rfl ?_) | fail)
    all_goals first
      | (refine congrArg vbool (pB_f fun h => ?_).symm; obtain ⟨g1, g2, g3⟩ := h; first | exact absurd g1 (by assumption) | omega)
      | (refine congrArg vbool (pB_eq ?_); rw [price_any]; exact ⟨fun g => ⟨by assumption, by omega, g⟩, fun g => g.2.2⟩)
      | (exfalso; omega)
  · refine acall_of tok mixed 55 rfl (fn := Tryz.f57) (c := Tryz.f57.body.getD .skip) (by kernel_rfl) (by kernel_rfl) (by kernel_rfl) rfl 0 rfl ?_
    rw [pB_f (pair_f h)]
    repeat' (first | refine o1 ?_ | refine o2 ?_ | refine k1 ?_ | refine k2 ?_ | refine k3 ?_ | refine k7 ?_ | refine And.intro ?_ ?_ | refine o3 ?_ | refine o4 ?_ | (intro h; first | exact Bool.noConfusion h | exact nz _ h | exact nl h | (simp at h; done) | (simp at h; first | (exfalso; omega) | skip) | skip) | (change retOk _ _ _ _; refine ret_pure rfl trivial ?_) | exact (by kernel_rfl : drawOk _ _ = true) | refine eqv_len_map ?_ | (change vcFunD _ _ _ _ _; refine callD_eq rfl (by repeat' (first | trivial | refine And.intro ?_ ?_ | (show 0 + _ ≤ List.length _; simp))) ALeL.refl (c_named m p.rule) rfl ?_) | fail)
    all_goals first
      | exact rfl
      | (exfalso; omega)
theorem pairAt_zero {m : Model} {p : Pair} (hp : m.pairs[0]? = some p) : pairAt m 0 ↔ pairP m p :=
  ⟨fun h => (h p hp).1, fun h p' hp' => by rw [hp] at hp'; cases hp'; exact ⟨h, fun k q e => by omega⟩⟩
theorem pairAt_next {m : Model} {k : Nat} {p q : Pair} (hp : m.pairs[k + 1]? = some p) (hq : m.pairs[k]? = some q) : pairAt m (k + 1) ↔ pairP m p ∧ pairLt q p :=
  ⟨fun h => ⟨(h p hp).1, (h p hp).2 k q rfl hq⟩, fun h p' hp' => by
    rw [hp] at hp'; cases hp'
    refine ⟨h.1, fun k' q' e hq' => ?_⟩
    obtain rfl : k = k' := by omega
    rw [hq] at hq'; cases hq'; exact h.2⟩
theorem c_rpaired0 (m : Model)  (p : Pair) (hz : sizedP m) (hp : m.pairs[0]? = some p) : PCall Tryz.prog 113 [ag m.cells, vint .i64 ((0 : Nat) : Int)] (fun r => r = vbool (pB (pairAt m 0))) := by
  have hpl := (List.getElem?_eq_some_iff.1 hp).1
  have hpn := hz.2.2.1
  rw [pB_iff (pairAt_zero hp)]
  by_cases hcase : 0 ≤ p.first ∧ p.first < p.second ∧ p.second < m.classes.length
  · obtain ⟨h1, h2, h3⟩ := hcase
    obtain ⟨f, s, r, t⟩ := p
    dsimp only at h1 h2 h3 ⊢
    obtain ⟨n, rfl⟩ := Int.eq_ofNat_of_zero_le h1
    obtain ⟨k, rfl⟩ := Int.eq_ofNat_of_zero_le (show 0 ≤ s by omega)
    obtain ⟨a, ha⟩ := getE (show n < m.classes.length by omega)
    obtain ⟨b, hb⟩ := getE (show k < m.classes.length by omega)
    have hla := hz.2.1 a (List.mem_of_getElem? ha)
    have hlb := hz.2.1 b (List.mem_of_getElem? hb)
    have hab : a.length * b.length ≤ 576 := Nat.mul_le_mul hla hlb
    have hab1 : (a.length : Int) * b.length ≤ 576 := by exact_mod_cast hab
    have hab0 : (0 : Int) ≤ (a.length : Int) * b.length := by exact_mod_cast Nat.zero_le _
    have hcast : ((a.length * b.length : Nat) : Int) = (a.length : Int) * b.length := by simp
    have hpi := pair_iff (r := r) (t := t) ha hb h2
    refine acall_of tok mixed 114 rfl (fn := Tryz.f113) (c := Tryz.f113.body.getD .skip) (by kernel_rfl) (by kernel_rfl) (by kernel_rfl) rfl 0 rfl ?_
    repeat' (first | (refine idx_sl (k := 0) (at_map hp) (by omega) ?_) | refine o1 ?_ | refine o2 ?_ | refine k1 ?_ | refine k2 ?_ | refine k3 ?_ | refine k4 ?_ | refine k6 ?_ | refine k7 ?_ | refine And.intro ?_ ?_ | refine o3 ?_ | refine o4 ?_ | (intro h; first | exact Bool.noConfusion h | exact nz _ h | exact nl h | (simp at h; done) | (simp at h; first | (exfalso; omega) | skip) | skip) | (change retOk _ _ _ _; refine ret_pure rfl trivial ?_) | exact (by kernel_rfl : drawOk _ _ = true) | refine eqv_len_map ?_ | refine eqv_wrap (by omega) (by omega) ?_ | refine ⟨_, _, (by first | rfl | assumption), at_map (by assumption), ?_⟩ | (change vcFunD _ _ _ _ _; refine callD_eq rfl (by repeat' (first | trivial | refine And.intro ?_ ?_ | (show 0 + _ ≤ List.length _; simp))) ALeL.refl (c_rnamed m r) rfl ?_) | fail)
    all_goals first
      | (refine congrArg vbool (pB_f fun h => ?_).symm; obtain ⟨g1, g2, g3⟩ := hpi.1 (by first | exact h | exact h.1); first | exact absurd g1 (by assumption) | omega)
      | (exfalso; omega)
      | skip
    have htl : t.length ≤ 576 := by omega
    refine loop_at (fun i : Nat => [(6, vint .i64 i)]) (fun _ => []) (fun i => i ≤ t.length ∧ ∀ j, j < i → ∀ x, t[j]? = some x → x = 0 ∨ priceP x) (fun i => t.length - i) 0 ⟨by omega, fun j hj => by omega⟩ (by repeat' (first | exact trivial | exact ⟨_, rfl, ALe.refl⟩ | refine And.intro ?_ ?_)) (by repeat' (first | exact trivial | exact rfl | refine And.intro ?_ ?_)) ?_
    intro i ⟨hi, hall⟩
    rcases Nat.lt_or_ge i t.length with hlt | hge
    · obtain ⟨x, hx⟩ := getE hlt
      repeat' (first | (refine idx_sl (k := i) (at_map hx) (by omega) ?_) | refine o1 ?_ | refine o2 ?_ | refine k1 ?_ | refine k2 ?_ | refine k3 ?_ | refine k4 ?_ | refine k6 ?_ | refine k7 ?_ | refine And.intro ?_ ?_ | (intro h; first | exact Bool.noConfusion h | exact nz _ h | exact nl h | (simp at h; done) | (simp at h; first | (exfalso; omega) | skip) | skip) | (change retOk _ _ _ _; refine ret_pure rfl trivial ?_) | refine eqv_len_map ?_ | refine eqv_wrap (by omega) (by omega) ?_ | (change vcFun _ _ _ _ _; refine call_eq rfl (by repeat' (first | trivial | refine And.intro ?_ ?_ | (show 0 + _ ≤ List.length _; simp))) ALeL.refl (c_rcost x) rfl ?_) | fail)
      all_goals first
        | (refine congrArg vbool (pB_f fun h => ?_).symm; obtain ⟨g1, g2, g3⟩ := hpi.1 (by first | exact h | exact h.1); exact (g3 x (List.mem_of_getElem? hx)).elim (fun g => absurd g (by assumption)) (fun g => absurd g (by assumption)))
        | exact ⟨i + 1, ⟨by omega, all_lt_succ hall fun x' h' => by rw [hx] at h'; cases h'; first | exact .inl (by omega) | exact .inr (by assumption)⟩, by omega, back [0, 1] rfl rfl ⟨rfl, rfl, trivial⟩ (by repeat' (first | exact trivial | exact rfl | refine And.intro ?_ ?_))⟩
        | (exfalso; omega)
    · have hP := hpi.2 ⟨by assumption, by omega, fun x hx => by
        obtain ⟨j, hj⟩ := List.getElem?_of_mem hx
        exact hall j (by have := (List.getElem?_eq_some_iff.1 hj).1; omega) x hj⟩
      repeat' (first | refine o1 ?_ | refine o2 ?_ | refine k1 ?_ | refine k2 ?_ | refine k3 ?_ | refine k7 ?_ | refine k8 ?_ | refine And.intro ?_ ?_ | (intro h; first | exact Bool.noConfusion h | exact nz _ h | exact nl h | (simp at h; done) | (simp at h; first | (exfalso; omega) | skip) | skip) | (change retOk _ _ _ _; refine ret_pure rfl trivial ?_) | refine eqv_len_map ?_ | fail)
      all_goals first
        | exact congrArg vbool (pB_t hP).symm
        | (refine congrArg vbool (pB_eq ?_); rw [and_iff_right hP]; unfold pairLt; dsimp only; simp only [decide_eq_true_eq]; omega)
        | (exfalso; omega)
  · refine acall_of tok mixed 114 rfl (fn := Tryz.f113) (c := Tryz.f113.body.getD .skip) (by kernel_rfl) (by kernel_rfl) (by kernel_rfl) rfl 0 rfl ?_
    repeat' (first | (refine idx_sl (k := 0) (at_map hp) (by omega) ?_) | refine o1 ?_ | refine o2 ?_ | refine k1 ?_ | refine k2 ?_ | refine k3 ?_ | refine k7 ?_ | refine And.intro ?_ ?_ | refine o3 ?_ | refine o4 ?_ | (intro h; first | exact Bool.noConfusion h | exact nz _ h | exact nl h | (simp at h; done) | (simp at h; first | (exfalso; omega) | skip) | skip) | (change retOk _ _ _ _; refine ret_pure rfl trivial ?_) | exact (by kernel_rfl : drawOk _ _ = true) | refine eqv_len_map ?_ | (change vcFunD _ _ _ _ _; refine callD_eq rfl (by repeat' (first | trivial | refine And.intro ?_ ?_ | (show 0 + _ ≤ List.length _; simp))) ALeL.refl (c_rnamed m p.rule) rfl ?_) | fail)
    all_goals first
      | exact congrArg vbool (pB_f fun h' => pair_f hcase (by first | exact h' | exact h'.1)).symm
      | (exfalso; omega)
theorem c_rpairedS (m : Model) (k0 : Nat) (q : Pair) (hq : m.pairs[k0]? = some q) (p : Pair) (hz : sizedP m) (hp : m.pairs[(k0 + 1)]? = some p) : PCall Tryz.prog 113 [ag m.cells, vint .i64 (((k0 + 1) : Nat) : Int)] (fun r => r = vbool (pB (pairAt m (k0 + 1)))) := by
  have hpl := (List.getElem?_eq_some_iff.1 hp).1
  have hpn := hz.2.2.1
  rw [pB_iff (pairAt_next hp hq)]
  by_cases hcase : 0 ≤ p.first ∧ p.first < p.second ∧ p.second < m.classes.length
  · obtain ⟨h1, h2, h3⟩ := hcase
    obtain ⟨f, s, r, t⟩ := p
    dsimp only at h1 h2 h3 ⊢
    obtain ⟨n, rfl⟩ := Int.eq_ofNat_of_zero_le h1
    obtain ⟨k, rfl⟩ := Int.eq_ofNat_of_zero_le (show 0 ≤ s by omega)
    obtain ⟨a, ha⟩ := getE (show n < m.classes.length by omega)
    obtain ⟨b, hb⟩ := getE (show k < m.classes.length by omega)
    have hla := hz.2.1 a (List.mem_of_getElem? ha)
    have hlb := hz.2.1 b (List.mem_of_getElem? hb)
    have hab : a.length * b.length ≤ 576 := Nat.mul_le_mul hla hlb
    have hab1 : (a.length : Int) * b.length ≤ 576 := by exact_mod_cast hab
    have hab0 : (0 : Int) ≤ (a.length : Int) * b.length := by exact_mod_cast Nat.zero_le _
    have hcast : ((a.length * b.length : Nat) : Int) = (a.length : Int) * b.length := by simp
    have hpi := pair_iff (r := r) (t := t) ha hb h2
    refine acall_of tok mixed 114 rfl (fn := Tryz.f113) (c := Tryz.f113.body.getD .skip) (by kernel_rfl) (by kernel_rfl) (by kernel_rfl) rfl 0 rfl ?_
    repeat' (first | (refine idx_sl (k := (k0 + 1)) (at_map hp) (by omega) ?_) | refine o1 ?_ | refine o2 ?_ | refine k1 ?_ | refine k2 ?_ | refine k3 ?_ | refine k4 ?_ | refine k6 ?_ | refine k7 ?_ | refine And.intro ?_ ?_ | refine o3 ?_ | refine o4 ?_ | (intro h; first | exact Bool.noConfusion h | exact nz _ h | exact nl h | (simp at h; done) | (simp at h; first | (exfalso; omega) | skip) | skip) | (change retOk _ _ _ _; refine ret_pure rfl trivial ?_) | exact (by kernel_rfl : drawOk _ _ = true) | refine eqv_len_map ?_ | refine eqv_wrap (by omega) (by omega) ?_ | refine ⟨_, _, (by first | rfl | assumption), at_map (by assumption), ?_⟩ | (change vcFunD _ _ _ _ _; refine callD_eq rfl (by repeat' (first | trivial | refine And.intro ?_ ?_ | (show 0 + _ ≤ List.length _; simp))) ALeL.refl (c_rnamed m r) rfl ?_) | fail)
    all_goals first
      | (refine congrArg vbool (pB_f fun h => ?_).symm; obtain ⟨g1, g2, g3⟩ := hpi.1 (by first | exact h | exact h.1); first | exact absurd g1 (by assumption) | omega)
      | (exfalso; omega)
      | skip
    have htl : t.length ≤ 576 := by omega
    refine loop_at (fun i : Nat => [(6, vint .i64 i)]) (fun _ => []) (fun i => i ≤ t.length ∧ ∀ j, j < i → ∀ x, t[j]? = some x → x = 0 ∨ priceP x) (fun i => t.length - i) 0 ⟨by omega, fun j hj => by omega⟩ (by repeat' (first | exact trivial | exact ⟨_, rfl, ALe.refl⟩ | refine And.intro ?_ ?_)) (by repeat' (first | exact trivial | exact rfl | refine And.intro ?_ ?_)) ?_
    intro i ⟨hi, hall⟩
    rcases Nat.lt_or_ge i t.length with hlt | hge
    · obtain ⟨x, hx⟩ := getE hlt
      repeat' (first | (refine idx_sl (k := i) (at_map hx) (by omega) ?_) | refine o1 ?_ | refine o2 ?_ | refine k1 ?_ | refine k2 ?_ | refine k3 ?_ | refine k4 ?_ | refine k6 ?_ | refine k7 ?_ | refine And.intro ?_ ?_ | (intro h; first | exact Bool.noConfusion h | exact nz _ h | exact nl h | (simp at h; done) | (simp at h; first | (exfalso; omega) | skip) | skip) | (change retOk _ _ _ _; refine ret_pure rfl trivial ?_) | refine eqv_len_map ?_ | refine eqv_wrap (by omega) (by omega) ?_ | (change vcFun _ _ _ _ _; refine call_eq rfl (by repeat' (first | trivial | refine And.intro ?_ ?_ | (show 0 + _ ≤ List.length _; simp))) ALeL.refl (c_rcost x) rfl ?_) | fail)
      all_goals first
        | (refine congrArg vbool (pB_f fun h => ?_).symm; obtain ⟨g1, g2, g3⟩ := hpi.1 (by first | exact h | exact h.1); exact (g3 x (List.mem_of_getElem? hx)).elim (fun g => absurd g (by assumption)) (fun g => absurd g (by assumption)))
        | exact ⟨i + 1, ⟨by omega, all_lt_succ hall fun x' h' => by rw [hx] at h'; cases h'; first | exact .inl (by omega) | exact .inr (by assumption)⟩, by omega, back [0, 1] rfl rfl ⟨rfl, rfl, trivial⟩ (by repeat' (first | exact trivial | exact rfl | refine And.intro ?_ ?_))⟩
        | (exfalso; omega)
    · have hP := hpi.2 ⟨by assumption, by omega, fun x hx => by
        obtain ⟨j, hj⟩ := List.getElem?_of_mem hx
        exact hall j (by have := (List.getElem?_eq_some_iff.1 hj).1; omega) x hj⟩
      repeat' (first | (refine idx_sl (k := k0) (at_map hq) (by omega) ?_) | refine o1 ?_ | refine o2 ?_ | refine k1 ?_ | refine k2 ?_ | refine k3 ?_ | refine k6 ?_ | refine k7 ?_ | refine k8 ?_ | refine And.intro ?_ ?_ | (intro h; first | exact Bool.noConfusion h | exact nz _ h | exact nl h | (simp at h; done) | (simp at h; first | (exfalso; omega) | skip) | skip) | (change retOk _ _ _ _; refine ret_pure rfl trivial ?_) | exact (by kernel_rfl : drawOk _ _ = true) | refine eqv_len_map ?_ | refine eqv_wrap (by omega) (by omega) ?_ | fail)
      all_goals first
        | exact congrArg vbool (pB_t hP).symm
        | (refine congrArg vbool (pB_eq ?_); rw [and_iff_right hP]; unfold pairLt; dsimp only; simp only [decide_eq_true_eq]; omega)
        | (exfalso; omega)
  · refine acall_of tok mixed 114 rfl (fn := Tryz.f113) (c := Tryz.f113.body.getD .skip) (by kernel_rfl) (by kernel_rfl) (by kernel_rfl) rfl 0 rfl ?_
    repeat' (first | (refine idx_sl (k := (k0 + 1)) (at_map hp) (by omega) ?_) | refine o1 ?_ | refine o2 ?_ | refine k1 ?_ | refine k2 ?_ | refine k3 ?_ | refine k7 ?_ | refine And.intro ?_ ?_ | refine o3 ?_ | refine o4 ?_ | (intro h; first | exact Bool.noConfusion h | exact nz _ h | exact nl h | (simp at h; done) | (simp at h; first | (exfalso; omega) | skip) | skip) | (change retOk _ _ _ _; refine ret_pure rfl trivial ?_) | exact (by kernel_rfl : drawOk _ _ = true) | refine eqv_len_map ?_ | (change vcFunD _ _ _ _ _; refine callD_eq rfl (by repeat' (first | trivial | refine And.intro ?_ ?_ | (show 0 + _ ≤ List.length _; simp))) ALeL.refl (c_rnamed m p.rule) rfl ?_) | fail)
    all_goals first
      | exact congrArg vbool (pB_f fun h' => pair_f hcase (by first | exact h' | exact h'.1)).symm
      | (exfalso; omega)
end Go.Proofs.YtpnghlibmpainaaGreat.Cw

/-
  Contracts: counts of models.
-/
namespace Go.Proofs.YtpnghlibmpainaaGreat.Cw
open Go.Cw Go.Proofs
set_option linter.unusedVariables false
set_option maxRecDepth 100000
set_option maxHeartbeats 800000

def loadLt (y x : Load) : Prop := y.cls < x.cls ∨ (y.cls = x.cls ∧ y.opt < x.opt)
theorem load_zero {m : Model} {l : List Load} {x : Load} (hx : l[0]? = some x) : loadAt m l 0 ↔ optionP m x.cls x.opt ∧ 1 ≤ x.weight ∧ x.weight ≤ 1000 :=
  ⟨fun h => ⟨(h x hx).1, (h x hx).2.1, (h x hx).2.2.1⟩, fun h x' h' => by rw [hx] at h'; cases h'; exact ⟨h.1, h.2.1, h.2.2, fun k y e => by omega⟩⟩
theorem load_next {m : Model} {l : List Load} {k : Nat} {x y : Load} (hx : l[k + 1]? = some x) (hy : l[k]? = some y) : loadAt m l (k + 1) ↔ optionP m x.cls x.opt ∧ 1 ≤ x.weight ∧ x.weight ≤ 1000 ∧ loadLt y x :=
  ⟨fun h => ⟨(h x hx).1, (h x hx).2.1, (h x hx).2.2.1, (h x hx).2.2.2 k y rfl hy⟩, fun h x' h' => by
    rw [hx] at h'; cases h'
    refine ⟨h.1, h.2.1, h.2.2.1, fun k' y' e hy' => ?_⟩
    obtain rfl : k = k' := by omega
    rw [hy] at hy'; cases hy'; exact h.2.2.2⟩
theorem load_cmp {y x : Load} : orI [cmpI y.cls x.cls, cmpI y.opt x.opt] < 0 ↔ loadLt y x := by
  simp only [orI, cmpI, loadLt]
  grind
theorem load_cmp2 {y x : Load} : 0 ≤ orI [cmpI y.cls x.cls, cmpI y.opt x.opt] ↔ ¬ loadLt y x := by
  rw [← load_cmp]; omega
theorem c_counted (m : Model) (c : Count) (hc : c.loads.length ≤ 9223372036854775807) : PCall Tryz.prog 61 [ag m.cells, ag c.row] (fun r => r = vbool (pB (countP_ m c))) := by
  refine acall_of tok mixed 81 rfl (fn := Tryz.f61) (c := Tryz.f61.body.getD .skip) (by kernel_rfl) (by kernel_rfl) (by kernel_rfl) rfl 0 rfl ?_
  repeat' (first | refine o1 ?_ | refine o2 ?_ | refine k1 ?_ | refine k2 ?_ | refine k3 ?_ | refine k4 ?_ | refine k6 ?_ | refine k7 ?_ | refine And.intro ?_ ?_ | (intro h; first | exact Bool.noConfusion h | exact nz _ h | exact nl h | (simp at h; done) | (simp at h; first | (exfalso; omega) | skip) | skip) | (change retOk _ _ _ _; refine ret_pure rfl trivial ?_) | refine eqv_len_map ?_ | (change vcFun _ _ _ _ _; refine call_eq rfl (by repeat' (first | trivial | refine And.intro ?_ ?_ | (show 0 + _ ≤ List.length _; simp))) ALeL.refl (c_named m c.rule) rfl ?_) | (change vcFun _ _ _ _ _; refine call_eq rfl (by repeat' (first | trivial | refine And.intro ?_ ?_ | (show 0 + _ ≤ List.length _; simp))) ALeL.refl (c_cost c.penalty) rfl ?_) | fail)
  all_goals first
    | (refine congrArg vbool (pB_f fun h => ?_).symm; obtain ⟨g1, g2, g3, g4, g5⟩ := h; first | exact absurd g1 (by assumption) | exact absurd g4 (by assumption) | omega)
    | skip
  refine loop_at (fun i : Nat => [(31, vint .i64 i)]) (fun _ => []) (fun i => i ≤ c.loads.length ∧ ∀ j, j < i → loadAt m c.loads j) (fun i => c.loads.length - i) 0 ⟨by omega, fun j hj => by omega⟩ (by repeat' (first | exact trivial | exact ⟨_, rfl, ALe.refl⟩ | refine And.intro ?_ ?_)) (by repeat' (first | exact trivial | exact rfl | refine And.intro ?_ ?_)) ?_
  intro i ⟨hi, hall⟩
  rcases Nat.lt_or_ge i c.loads.length with hlt | hge
  · obtain ⟨x, hx⟩ := getE hlt
    rcases i with _ | k
    · have hz := load_zero (m := m) hx
      repeat' (first | (refine idx_sl (k := 0) (at_map hx) (by omega) ?_) | refine o1 ?_ | refine o2 ?_ | refine k1 ?_ | refine k2 ?_ | refine k3 ?_ | refine k4 ?_ | refine k6 ?_ | refine k7 ?_ | refine k8 ?_ | refine And.intro ?_ ?_ | refine o3 ?_ | refine o4 ?_ | (intro h; first | exact Bool.noConfusion h | exact nz _ h | exact nl h | (simp at h; done) | (simp at h; first | (exfalso; omega) | skip) | skip) | (change retOk _ _ _ _; refine ret_pure rfl trivial ?_) | exact (by kernel_rfl : drawOk _ _ = true) | refine eqv_wrap (by omega) (by omega) ?_ | (change vcFun _ _ _ _ _; refine call_eq rfl (by repeat' (first | trivial | refine And.intro ?_ ?_ | (show 0 + _ ≤ List.length _; simp))) ALeL.refl (c_option m x.cls x.opt) rfl ?_) | fail)
      all_goals first
        | (refine congrArg vbool (pB_f fun h => ?_).symm; obtain ⟨g1, g2, g3⟩ := hz.1 (h.2.2.2.2 _ hlt); first | exact absurd g1 (by assumption) | omega)
        | exact ⟨1, ⟨by omega, all_lt_succ hall (hz.2 ⟨by assumption, by omega, by omega⟩)⟩, by omega, back [0, 1] rfl rfl ⟨rfl, rfl, trivial⟩ (by repeat' (first | exact trivial | exact rfl | refine And.intro ?_ ?_))⟩
        | (exfalso; simp_all; done)
        | (exfalso; omega)
    · obtain ⟨y, hy⟩ := getE (show k < c.loads.length by omega)
      have hz := load_next (m := m) hx hy
      repeat' (first | (refine idx_sl (k := k + 1) (at_map hx) (by omega) ?_) | (refine idx_sl (k := k) (at_map hy) (by omega) ?_) | refine o1 ?_ | refine o2 ?_ | refine k1 ?_ | refine k2 ?_ | refine k3 ?_ | refine k4 ?_ | refine k6 ?_ | refine k7 ?_ | refine And.intro ?_ ?_ | refine o3 ?_ | refine o4 ?_ | (intro h; first | exact Bool.noConfusion h | exact nz _ h | exact nl h | (simp at h; done) | (simp at h; first | (exfalso; omega) | skip) | skip) | (change retOk _ _ _ _; refine ret_pure rfl trivial ?_) | exact (by kernel_rfl : drawOk _ _ = true) | refine eqv_wrap (by omega) (by omega) ?_ | (change vcFun _ _ _ _ _; refine call_eq rfl (by repeat' (first | trivial | refine And.intro ?_ ?_ | (show 0 + _ ≤ List.length _; simp))) ALeL.refl (c_option m x.cls x.opt) rfl ?_) | (change vcFunD _ _ _ _ _; refine callD_eq rfl (by repeat' (first | trivial | refine And.intro ?_ ?_ | (show 0 + _ ≤ List.length _; simp))) ALeL.refl (c_cmp _ _) rfl ?_) | (change vcFunD _ _ _ _ _; refine callD_eq rfl (by repeat' (first | trivial | refine And.intro ?_ ?_ | (show 0 + _ ≤ List.length _; simp))) ALeL.refl (c_or [cmpI y.cls x.cls, cmpI y.opt x.opt] (Nat.le_of_ble_eq_true rfl)) rfl ?_) | fail)
      all_goals first
        | (refine congrArg vbool (pB_f fun h => ?_).symm; obtain ⟨g1, g2, g3, g4⟩ := hz.1 (h.2.2.2.2 _ hlt); first | exact absurd g1 (by assumption) | omega | exact absurd g4 (load_cmp2.1 (by assumption)) | (unfold loadLt at g4; omega))
        | exact ⟨k + 2, ⟨by omega, all_lt_succ hall (hz.2 ⟨by assumption, by omega, by omega, by first | exact load_cmp.1 (by omega) | (unfold loadLt; omega)⟩)⟩, by omega, back [0, 1] rfl rfl ⟨rfl, rfl, trivial⟩ (by repeat' (first | exact trivial | exact rfl | refine And.intro ?_ ?_))⟩
        | (exfalso; omega)
  · repeat' (first | refine o1 ?_ | refine o2 ?_ | refine k1 ?_ | refine k2 ?_ | refine k3 ?_ | refine k7 ?_ | refine k8 ?_ | refine And.intro ?_ ?_ | (intro h; first | exact Bool.noConfusion h | exact nz _ h | exact nl h | (simp at h; done) | (simp at h; first | (exfalso; omega) | skip) | skip) | (change retOk _ _ _ _; refine ret_pure rfl trivial ?_) | fail)
    all_goals first
      | exact congrArg vbool (pB_t ⟨by assumption, by omega, by omega, by assumption, fun j hj => hall j (by omega)⟩).symm
theorem c_rcounted (m : Model) (c : Count) (hc : c.loads.length ≤ 9223372036854775807) : PCall Tryz.prog 114 [ag m.cells, ag c.row] (fun r => r = vbool (pB (countP_ m c))) := by
  refine acall_of tok mixed 85 rfl (fn := Tryz.f114) (c := Tryz.f114.body.getD .skip) (by kernel_rfl) (by kernel_rfl) (by kernel_rfl) rfl 0 rfl ?_
  repeat' (first | refine o1 ?_ | refine o2 ?_ | refine k1 ?_ | refine k2 ?_ | refine k3 ?_ | refine k4 ?_ | refine k6 ?_ | refine k7 ?_ | refine And.intro ?_ ?_ | (intro h; first | exact Bool.noConfusion h | exact nz _ h | exact nl h | (simp at h; done) | (simp at h; first | (exfalso; omega) | skip) | skip) | (change retOk _ _ _ _; refine ret_pure rfl trivial ?_) | (change vcFun _ _ _ _ _; refine call_eq rfl (by repeat' (first | trivial | refine And.intro ?_ ?_ | (show 0 + _ ≤ List.length _; simp))) ALeL.refl (c_rnamed m c.rule) rfl ?_) | (change vcFun _ _ _ _ _; refine call_eq rfl (by repeat' (first | trivial | refine And.intro ?_ ?_ | (show 0 + _ ≤ List.length _; simp))) ALeL.refl (c_rcost c.penalty) rfl ?_) | fail)
  all_goals first
    | (refine congrArg vbool (pB_f fun h => ?_).symm; obtain ⟨g1, g2, g3, g4, g5⟩ := h; first | exact absurd g1 (by assumption) | exact absurd g4 (by assumption) | omega)
    | skip
  refine loop_at (fun i : Nat => [(5, vint .i64 i)]) (fun _ => []) (fun i => i ≤ c.loads.length ∧ ∀ j, j < i → loadAt m c.loads j) (fun i => c.loads.length - i) 0 ⟨by omega, fun j hj => by omega⟩ (by repeat' (first | exact trivial | exact ⟨_, rfl, ALe.refl⟩ | refine And.intro ?_ ?_)) (by repeat' (first | exact trivial | exact rfl | refine And.intro ?_ ?_)) ?_
  intro i ⟨hi, hall⟩
  rcases Nat.lt_or_ge i c.loads.length with hlt | hge
  · obtain ⟨x, hx⟩ := getE hlt
    rcases i with _ | k
    · have hz := load_zero (m := m) hx
      repeat' (first | (refine idx_sl (k := 0) (at_map hx) (by omega) ?_) | refine o1 ?_ | refine o2 ?_ | refine k1 ?_ | refine k2 ?_ | refine k3 ?_ | refine k4 ?_ | refine k6 ?_ | refine k7 ?_ | refine k8 ?_ | refine And.intro ?_ ?_ | (intro h; first | exact Bool.noConfusion h | exact nz _ h | exact nl h | (simp at h; done) | (simp at h; first | (exfalso; omega) | skip) | skip) | (change retOk _ _ _ _; refine ret_pure rfl trivial ?_) | exact (by kernel_rfl : drawOk _ _ = true) | refine eqv_len_map ?_ | refine eqv_wrap (by omega) (by omega) ?_ | (change vcFun _ _ _ _ _; refine call_eq rfl (by repeat' (first | trivial | refine And.intro ?_ ?_ | (show 0 + _ ≤ List.length _; simp))) ALeL.refl (c_roption m x.cls x.opt) rfl ?_) | fail)
      all_goals first
        | (refine congrArg vbool (pB_f fun h => ?_).symm; obtain ⟨g1, g2, g3⟩ := hz.1 (h.2.2.2.2 _ hlt); first | exact absurd g1 (by assumption) | omega)
        | exact ⟨1, ⟨by omega, all_lt_succ hall (hz.2 ⟨by assumption, by omega, by omega⟩)⟩, by omega, back [0, 1] rfl rfl ⟨rfl, rfl, trivial⟩ (by repeat' (first | exact trivial | exact rfl | refine And.intro ?_ ?_))⟩
        | (exfalso; simp_all; done)
        | (exfalso; omega)
    · obtain ⟨y, hy⟩ := getE (show k < c.loads.length by omega)
      have hz := load_next (m := m) hx hy
      repeat' (first | (refine idx_sl (k := k + 1) (at_map hx) (by omega) ?_) | (refine idx_sl (k := k) (at_map hy) (by omega) ?_) | refine o1 ?_ | refine o2 ?_ | refine k1 ?_ | refine k2 ?_ | refine k3 ?_ | refine k4 ?_ | refine k6 ?_ | refine k7 ?_ | refine And.intro ?_ ?_ | (intro h; first | exact Bool.noConfusion h | exact nz _ h | exact nl h | (simp at h; done) | (simp at h; first | (exfalso; omega) | skip) | skip) | (change retOk _ _ _ _; refine ret_pure rfl trivial ?_) | exact (by kernel_rfl : drawOk _ _ = true) | refine eqv_len_map ?_ | refine eqv_wrap (by omega) (by omega) ?_ | (change vcFun _ _ _ _ _; refine call_eq rfl (by repeat' (first | trivial | refine And.intro ?_ ?_ | (show 0 + _ ≤ List.length _; simp))) ALeL.refl (c_roption m x.cls x.opt) rfl ?_) | fail)
      all_goals first
        | (refine congrArg vbool (pB_f fun h => ?_).symm; obtain ⟨g1, g2, g3, g4⟩ := hz.1 (h.2.2.2.2 _ hlt); first | exact absurd g1 (by assumption) | omega | exact absurd g4 (load_cmp2.1 (by assumption)) | (unfold loadLt at g4; omega))
        | exact ⟨k + 2, ⟨by omega, all_lt_succ hall (hz.2 ⟨by assumption, by omega, by omega, by first | exact load_cmp.1 (by omega) | (unfold loadLt; omega)⟩)⟩, by omega, back [0, 1] rfl rfl ⟨rfl, rfl, trivial⟩ (by repeat' (first | exact trivial | exact rfl | refine And.intro ?_ ?_))⟩
        | (exfalso; omega)
  · repeat' (first | refine o1 ?_ | refine o2 ?_ | refine k1 ?_ | refine k2 ?_ | refine k3 ?_ | refine k7 ?_ | refine k8 ?_ | refine And.intro ?_ ?_ | (intro h; first | exact Bool.noConfusion h | exact nz _ h | exact nl h | (simp at h; done) | (simp at h; first | (exfalso; omega) | skip) | skip) | (change retOk _ _ _ _; refine ret_pure rfl trivial ?_) | refine eqv_len_map ?_ | fail)
    all_goals first
      | exact congrArg vbool (pB_t ⟨by assumption, by omega, by omega, by assumption, fun j hj => hall j (by omega)⟩).symm
end Go.Proofs.YtpnghlibmpainaaGreat.Cw
