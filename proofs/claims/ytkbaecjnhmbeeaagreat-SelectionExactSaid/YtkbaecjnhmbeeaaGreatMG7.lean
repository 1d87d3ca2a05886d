/-
  Part 7 of the proof (S4, O2, O3, O4, M1, O5, O6, O7, S5, Sv1, Sv0, Sq4, Sv2, Sv4, Sv3, SLQ, YA): what later parts use. No conditions.
-/
import Derived.Test.YtkbaecjnhmbeeaaGreatMG6
/-
  Rules: the reference's Valid.
-/
namespace Go.Proofs.YtkbaecjnhmbeeaaGreat.Cw
open Go.Cw Go.Proofs
set_option linter.unusedVariables false
set_option maxRecDepth 100000
set_option maxHeartbeats 8000000
def ruleOk (u : Rule) (g : Grid) (w : Int) : Prop := weekP g w ∧ codeP u.name ∧ 0 ≤ u.weight ∧ u.weight ≤ 1000 ∧ 1 ≤ u.kind ∧ u.kind ≤ 12 ∧ selsP u ∧ 0 ≤ u.n ∧ u.n ≤ 24 ∧ (numP u.kind ∨ u.n = 0)
open Classical in
noncomputable def rtimeE (u : Rule) (g : Grid) (w : Int) : Int := if u.kind ≠ 10 ∧ (u.times.length : Int) > 0 then 1 else if u.kind = 10 ∧ (u.times.length : Int) = 0 then 16 else if (u.times.length : Int) > 24 then 2 else if ¬ ∀ t ∈ u.times, fitE g w t = 0 then 14 else 0
open Classical in
noncomputable def rroomE (u : Rule) : Int := if u.kind ≠ 11 ∧ (u.rooms.length : Int) > 0 then 1 else if u.kind = 11 ∧ (u.rooms.length : Int) = 0 then 16 else if (u.rooms.length : Int) > 16 then 2 else firstE (roomNE u.rooms) u.rooms.length
section
open Classical
variable {u : Rule} {g : Grid} {w : Int}
end
end Go.Proofs.YtkbaecjnhmbeeaaGreat.Cw
/-
  Contracts: the times at which a class can take place.
-/
namespace Go.Proofs.YtkbaecjnhmbeeaaGreat.Cw
open Go.Cw Go.Proofs
set_option linter.unusedVariables false
set_option maxRecDepth 100000
set_option maxHeartbeats 4000000
def timesF (c : Class) (b : List Start) (i : Nat) : List Time := match c.pats[i]? with
  | some p => b.map fun s => (⟨p, s.day, s.slot, c.len⟩ : Time)
  | none => []
def timesB (c : Class) (b : List Start) : List Time := gr (timesF c b) c.pats.length
def beginsV (c : Class) (g : Grid) : List Start := if c.starts.length = 0 then allS c.len g else c.starts
def timesV (c : Class) (g : Grid) : List Time := timesB c (beginsV c g)
structure TimeOk (c : Class) (g : Grid) : Prop where
  grid : gridP g
  len : 1 ≤ c.len ∧ c.len ≤ g.slots
  pats : c.pats.length ≤ 20
  starts : c.starts.length ≤ 168
end Go.Proofs.YtkbaecjnhmbeeaaGreat.Cw
/-
  Contracts: the times at which a class can take place (reference).
-/
namespace Go.Proofs.YtkbaecjnhmbeeaaGreat.Cw
open Go.Cw Go.Proofs
set_option linter.unusedVariables false
set_option maxRecDepth 100000
set_option maxHeartbeats 4000000
end Go.Proofs.YtkbaecjnhmbeeaaGreat.Cw
/-
  Contracts: rooms that fit, times that are free.
-/
namespace Go.Proofs.YtkbaecjnhmbeeaaGreat.Cw
open Go.Cw Go.Proofs
set_option linter.unusedVariables false
set_option maxRecDepth 100000
set_option maxHeartbeats 4000000
def roomFits (r : Room) (c : Class) : Prop := c.seats ≤ r.seats ∧ ∀ f ∈ c.feats, f ∈ r.feats
end Go.Proofs.YtkbaecjnhmbeeaaGreat.Cw
/-
  Models: their data, and what a valid one is.
-/
namespace Go.Proofs.YtkbaecjnhmbeeaaGreat.Cw
open Go.Cw Go.Proofs
set_option linter.unusedVariables false
set_option maxRecDepth 100000
structure Placed where
  (time : Time)
  (room : Int)
def Placed.row (p : Placed) : List PV := [ei p.time.weeks, ei p.time.day, ei p.time.start, ei p.time.len, ei p.room]
structure Charge where
  (rule cost : Int)
def Charge.row (c : Charge) : List PV := [ei c.rule, ei c.cost]
structure Opt where
  (place : Placed)
  (charges : List Charge)
def Opt.row (o : Opt) : List PV := [ei o.place.time.weeks, ei o.place.time.day, ei o.place.time.start, ei o.place.time.len, ei o.place.room, .sl 2 (o.charges.map Charge.row)]
structure Pair where
  (first second rule : Int)
  (table : List Int)
def Pair.row (p : Pair) : List PV := [ei p.first, ei p.second, ei p.rule, encInts p.table]
structure Load where
  (cls opt weight : Int)
def Load.row (l : Load) : List PV := [ei l.cls, ei l.opt, ei l.weight]
structure Count where
  (rule : Int)
  (loads : List Load)
  (most penalty : Int)
def Count.row (c : Count) : List PV := [ei c.rule, .sl 3 (c.loads.map Load.row), ei c.most, ei c.penalty]
structure Model where
  (classes : List (List Opt))
  (pairs : List Pair)
  (counts : List Count)
  (rules : Int)
def optsRow (l : List Opt) : List PV := [.sl 6 (l.map Opt.row)]
def Model.cells (m : Model) : List PV := [.sl 1 (m.classes.map optsRow), .sl 4 (m.pairs.map Pair.row), .sl 4 (m.counts.map Count.row), ei m.rules]
def BIG : Nat := 9223372036854775807
structure Laid (m : Model) : Prop where
  cn : m.classes.length ≤ 9223372036854775807
  pn : m.pairs.length ≤ 9223372036854775807
  ch : ∀ l ∈ m.classes, ∀ o ∈ l, o.charges.length ≤ 9223372036854775807
  ld : ∀ c ∈ m.counts, c.loads.length ≤ 9223372036854775807
def priceP (n : Int) : Prop := (1 ≤ n ∧ n ≤ 1048576) ∨ n = 1099511627776
def ruleP (m : Model) (n : Int) : Prop := 0 ≤ n ∧ n < m.rules
def optionP (m : Model) (c o : Int) : Prop := 0 ≤ c ∧ 0 ≤ o ∧ ∃ l, m.classes[c.toNat]? = some l ∧ o < l.length
def sizedP (m : Model) : Prop := m.classes.length ≤ 24 ∧ (∀ l ∈ m.classes, l.length ≤ 24) ∧ m.pairs.length ≤ 4000 ∧ m.counts.length ≤ 800 ∧ 0 ≤ m.rules ∧ m.rules ≤ 56
def chargeAt (m : Model) (l : List Charge) (i : Nat) : Prop := ∀ c, l[i]? = some c → ruleP m c.rule ∧ priceP c.cost ∧ ∀ k b, i = k + 1 → l[k]? = some b → b.rule < c.rule
def chargesP (m : Model) (o : Opt) : Prop := ∀ i, i < o.charges.length → chargeAt m o.charges i
def pairP (m : Model) (p : Pair) : Prop := ruleP m p.rule ∧ 0 ≤ p.first ∧ p.first < p.second ∧ (∃ a b, m.classes[p.first.toNat]? = some a ∧ m.classes[p.second.toNat]? = some b ∧ p.table.length = a.length * b.length) ∧ ∀ n ∈ p.table, n = 0 ∨ priceP n
def pairLt (p q : Pair) : Prop := p.rule < q.rule ∨ (p.rule = q.rule ∧ (p.first < q.first ∨ (p.first = q.first ∧ p.second < q.second)))
def pairAt (m : Model) (i : Nat) : Prop := ∀ p, m.pairs[i]? = some p → pairP m p ∧ ∀ k q, i = k + 1 → m.pairs[k]? = some q → pairLt q p
def loadAt (m : Model) (l : List Load) (i : Nat) : Prop := ∀ x, l[i]? = some x → optionP m x.cls x.opt ∧ 1 ≤ x.weight ∧ x.weight ≤ 1000 ∧ ∀ k y, i = k + 1 → l[k]? = some y → y.cls < x.cls ∨ (y.cls = x.cls ∧ y.opt < x.opt)
def countP_ (m : Model) (c : Count) : Prop := ruleP m c.rule ∧ 0 ≤ c.most ∧ c.most ≤ 1048576 ∧ priceP c.penalty ∧ ∀ i, i < c.loads.length → loadAt m c.loads i
def goodP (m : Model) : Prop := (∀ l ∈ m.classes, ∀ o ∈ l, chargesP m o) ∧ (∀ i, i < m.pairs.length → pairAt m i) ∧ ∀ c ∈ m.counts, countP_ m c
noncomputable def modelE (m : Model) : Int := if pB (sizedP m) then (if pB (goodP m) then 0 else 1) else 2
end Go.Proofs.YtkbaecjnhmbeeaaGreat.Cw
/-
  Contracts: the options of a class.
-/
namespace Go.Proofs.YtkbaecjnhmbeeaaGreat.Cw
open Go.Cw Go.Proofs
set_option linter.unusedVariables false
set_option maxRecDepth 100000
set_option maxHeartbeats 8000000
def upto {α β : Type} (l : List α) (f : Nat → α → Option β) (n : Nat) : List β := (List.range n).filterMap fun i => (l[i]?).bind (f i)
theorem upto_some {α β : Type} {l : List α} {f : Nat → α → Option β} {n : Nat} {x : α} {y : β} (h : l[n]? = some x) (hf : f n x = some y) : upto l f (n + 1) = upto l f n ++ [y] := by
  unfold upto
  rw [List.range_succ, List.filterMap_append]
  simp [h, hf]
theorem upto_none {α β : Type} {l : List α} {f : Nat → α → Option β} {n : Nat} {x : α} (h : l[n]? = some x) (hf : f n x = none) : upto l f (n + 1) = upto l f n := by
  unfold upto
  rw [List.range_succ, List.filterMap_append]
  simp [h, hf]
theorem upto_len {α β : Type} {l : List α} {f : Nat → α → Option β} {n : Nat} : (upto l f n).length ≤ n := by
  unfold upto
  exact Nat.le_trans (List.length_filterMap_le ..) (by simp)
noncomputable def lectAt (r : Reg) (s : Str) : Option Lecturer := if idxL r.staff s < 0 then none else r.staff[(idxL r.staff s).toNat]?
noncomputable def staffF (r : Reg) : Nat → Str → Option Lecturer := fun _ s => lectAt r s
noncomputable def staffV (r : Reg) (c : Class) (k : Nat) : List Lecturer := upto c.staff (staffF r) k
noncomputable def roomF (c : Class) : Nat → Room → Option Int := fun i x => if pB (roomFits x c) then some (i : Int) else none
noncomputable def roomsV (r : Reg) (c : Class) (k : Nat) : List Int := upto r.rooms (roomF c) k
noncomputable def busyB (l : List Lecturer) (t : Time) : Bool := l.any fun x => !pB (apartB x.away t)
noncomputable def openF (r : Reg) (t : Time) : Nat → Int → Option Placed := fun _ i => (r.rooms[i.toNat]?).bind fun x => if pB (apartB x.closed t) then some ⟨t, i⟩ else none
noncomputable def optsT (r : Reg) (c : Class) (t : Time) : List Placed :=
  if busyB (staffV r c c.staff.length) t then [] else if c.seats = 0 then [⟨t, -1⟩] else upto (roomsV r c r.rooms.length) (openF r t) (roomsV r c r.rooms.length).length
noncomputable def optsF (r : Reg) (c : Class) (i : Nat) : List Placed := match (timesV c r.grid)[i]? with
  | some t => optsT r c t
  | none => []
noncomputable def optsAll (r : Reg) (c : Class) : List Placed := gr (optsF r c) (timesV c r.grid).length
noncomputable def optsV (r : Reg) (c : Class) : List Placed := if (optsAll r c).length > 24 then [] else optsAll r c
noncomputable def optsE (r : Reg) (c : Class) : Int := if (optsAll r c).length > 24 then 2 else 0
structure OptOk (r : Reg) (c : Class) : Prop where
  lens : RegL r
  time : TimeOk c r.grid
  rooms : r.rooms.length ≤ 16
  room : ∀ x ∈ r.rooms, x.feats.length ≤ 100000 ∧ x.closed.length ≤ 100000
  away : ∀ x ∈ r.staff, x.away.length ≤ 100000
  staff : c.staff.length ≤ 8
  feats : c.feats.length ≤ 100000
  known : ∀ s ∈ c.staff, lcode r.staff s = true
end Go.Proofs.YtkbaecjnhmbeeaaGreat.Cw
/-
  Contracts: the options of a class (reference).
-/
namespace Go.Proofs.YtkbaecjnhmbeeaaGreat.Cw
open Go.Cw Go.Proofs
set_option linter.unusedVariables false
set_option maxRecDepth 100000
set_option maxHeartbeats 8000000
noncomputable def bothF (r : Reg) (c : Class) (t : Time) : Nat → Room → Option Placed := fun i x => if pB (roomFits x c) && pB (apartB x.closed t) then some ⟨t, i⟩ else none
noncomputable def freeT (r : Reg) (c : Class) (t : Time) (k : Nat) : Bool := !busyB (staffV r c k) t
end Go.Proofs.YtkbaecjnhmbeeaaGreat.Cw
/-
  What a right registry gives; Options on both sides.
-/
namespace Go.Proofs.YtkbaecjnhmbeeaaGreat.Cw
open Go.Cw Go.Proofs
set_option linter.unusedVariables false
set_option maxRecDepth 100000
set_option maxHeartbeats 4000000
theorem orI_z : ∀ {l : List Int}, orI l = 0 → ∀ x ∈ l, x = 0
  | [], _, x, h => by cases h
  | y :: l, h, x, hx => by
    simp only [orI] at h
    split at h
    · rename_i hy
      rcases List.mem_cons.1 hx with e | e
      · rw [e]; exact hy
      · exact orI_z h x e
    · rename_i hy; exact absurd h hy
theorem regE_z {r : Reg} (h : regE r = 0) : orI (partsE r) = 0 ∧ unknownB r = false := by
  unfold regE at h
  split at h
  · rename_i h1; exact absurd h h1
  · rename_i h1
    split at h
    · omega
    · rename_i h2; exact ⟨by simpa using h1, by simpa using h2⟩
theorem room_z {l : List Room} {g : Grid} {w : Int} (h : roomsE l g w = 0) : ∀ x ∈ l, x.feats.length ≤ 8 ∧ x.closed.length ≤ 24 := by
  unfold roomsE at h
  split at h
  · split at h
    · omega
    · refine all_mem h fun i x hx h0 => ?_
      unfold roomE at h0
      rw [hx] at h0
      dsimp only at h0
      split at h0
      · omega
      · split at h0
        · omega
        · split at h0
          · omega
          · omega
  · omega
noncomputable def optionsV (r : Reg) (k : Int) : List Placed × Int := if regE r ≠ 0 then ([], 1) else if k < 0 ∨ (r.classes.length : Int) ≤ k then ([], 3) else match r.classes[k.toNat]? with
  | some c => (optsV r c, optsE r c)
  | none => ([], 3)
end Go.Proofs.YtkbaecjnhmbeeaaGreat.Cw
/-
  Selections: which classes they mean; which names are known.
-/
namespace Go.Proofs.YtkbaecjnhmbeeaaGreat.Cw
open Go.Cw Go.Proofs
set_option linter.unusedVariables false
set_option maxRecDepth 100000
set_option maxHeartbeats 4000000
theorem idxB_in {α : Type} {p : α → Bool} {l : List α} (h : 0 ≤ idxB p l) : ∃ (k : Nat) (x : α), idxB p l = k ∧ l[k]? = some x ∧ p x = true := by
  unfold idxB at h ⊢
  split at h
  · rename_i i hi
    obtain ⟨h1, h2, -⟩ := List.findIdx?_eq_some_iff_getElem.1 hi
    exact ⟨i, l[i], rfl, List.getElem?_eq_getElem h1, h2⟩
  · omega
noncomputable def curC (r : Reg) (s : Str) : List Str := if idxU r.curris s < 0 then [] else match r.curris[(idxU r.curris s).toNat]? with
  | some x => x.courses
  | none => []
theorem curC_no {r : Reg} {s : Str} (h : idxU r.curris s < 0) : curC r s = [] := if_pos h
theorem curC_at {r : Reg} {s : Str} {k : Nat} {x : Curri} (h : idxU r.curris s = k) (hx : r.curris[k]? = some x) : curC r s = x.courses := by
  unfold curC; rw [h, if_neg (by omega), Int.toNat_natCast, hx]
theorem indexR4 {r : Reg} {c : Str} : indexR r 4 c = idxC r.classes c := rfl
theorem indexR5 {r : Reg} {c : Str} : indexR r 5 c = idxU r.curris c := rfl
theorem c_rindexR (r : Reg) (k : Int) (c : Str) (hr : RegL r) : PCall Tryz.prog 94 [ag r.cells, vint .i64 k, .pv (es c)] (fun a => a = vint .i64 (indexR r k c)) := by
  have h1 := hr.rooms
  refine acall_of tok mixed 45 rfl (fn := Tryz.f94) (c := Tryz.f94.body.getD .skip) (by kernel_rfl) (by kernel_rfl) (by kernel_rfl) rfl 0 rfl ?_
  repeat' (first | refine o1 ?_ | refine o2 ?_ | refine k1 ?_ | refine k2 ?_ | refine k3 ?_ | refine k4 ?_ | refine k6 ?_ | refine k7 ?_ | refine And.intro ?_ ?_ | (intro h; first | exact Bool.noConfusion h | exact nz _ h | exact nl h | (simp at h; done) | (simp at h; first | (exfalso; omega) | skip) | skip) | (change retOk _ _ _ _; refine ret_pure rfl trivial ?_) | (change vcFun _ _ _ _ _; refine call_eq rfl (by repeat' (first | trivial | refine And.intro ?_ ?_ | (show 0 + _ ≤ List.length _; simp))) ALeL.refl (c_rlidx r.staff c hr.staff) rfl ?_) | (change vcFun _ _ _ _ _; refine call_eq rfl (by repeat' (first | trivial | refine And.intro ?_ ?_ | (show 0 + _ ≤ List.length _; simp))) ALeL.refl (c_rcidx r.classes c hr.classes) rfl ?_) | (change vcFun _ _ _ _ _; refine call_eq rfl (by repeat' (first | trivial | refine And.intro ?_ ?_ | (show 0 + _ ≤ List.length _; simp))) ALeL.refl (c_ruidx r.curris c hr.curris) rfl ?_) | fail)
  · refine loop_in (fun i : Nat => [(7, vint .i64 i)]) (fun _ => [some ⟨37, 14, false, .box (pvs r.cells)⟩]) (fun i => i ≤ r.rooms.length ∧ ∀ j, j < i → ∀ y, r.rooms[j]? = some y → pB (y.code = c) = false) (fun i => r.rooms.length - i) 0 ⟨Nat.zero_le _, fun j hj => by omega⟩ ⟨?_, ?_⟩
    · exact back [0] rfl rfl ⟨rfl, trivial⟩ (by repeat' (first | exact trivial | exact rfl | refine And.intro ?_ ?_))
    intro i ⟨hi, hall⟩
    have hk : indexR r k c = idxR r.rooms c := by rw [(by assumption : k = 1)]; rfl
    rcases Nat.lt_or_ge i r.rooms.length with hlt | hge
    · obtain ⟨x, hx⟩ := getE hlt
      repeat' (first | refine o1 ?_ | refine o2 ?_ | refine k1 ?_ | refine k2 ?_ | refine k3 ?_ | refine k4 ?_ | refine k6 ?_ | refine k7 ?_ | refine And.intro ?_ ?_ | (intro h; first | exact Bool.noConfusion h | exact nz _ h | exact nl h | (simp at h; done) | (simp at h; first | (exfalso; omega) | skip) | skip) | (change retOk _ _ _ _; refine ret_pure rfl trivial ?_) | refine eqv_len_map ?_ | refine eqv_wrap (by omega) (by omega) ?_ | refine ⟨_, _, (by first | rfl | assumption), at_map (by assumption), ?_⟩ | fail)
      · exact congrArg (vint .i64) (by rw [hk]; exact (idxB_at hall hx (pB_t (sEq_iff.1 (by assumption)))).symm)
      · exact ⟨i + 1, ⟨by omega, all_lt_succ hall fun y hy => by rw [hx] at hy; cases hy; exact pB_f (sEq_f.1 (by assumption))⟩, by omega, back [0] rfl rfl ⟨rfl, trivial⟩ (by repeat' (first | exact trivial | exact rfl | refine And.intro ?_ ?_))⟩
    · repeat' (first | refine o1 ?_ | refine o2 ?_ | refine k1 ?_ | refine k2 ?_ | refine k3 ?_ | refine k7 ?_ | refine k8 ?_ | refine And.intro ?_ ?_ | (intro h; first | exact Bool.noConfusion h | exact nz _ h | exact nl h | (simp at h; done) | (simp at h; first | (exfalso; omega) | skip) | skip) | (change retOk _ _ _ _; refine ret_pure rfl trivial ?_) | refine eqv_len_map ?_ | fail)
      exact congrArg (vint .i64) (by rw [hk]; exact (idxB_none fun j hj => hall j (by omega)).symm)
  all_goals
    refine congrArg (vint .i64) ?_
    unfold indexR idxL idxC idxU
    simp [*]
theorem c_curriculum0 (r : Reg) (s : Str) (hr : RegL r) : PCall Tryz.prog 255 [ag r.cells, .pv (es s)] (fun a => Leq a (.pv (encStrs (curC r s)))) := by
  have hi := c_indexR r 5 s hr
  rw [indexR5] at hi
  by_cases h0 : idxU r.curris s < 0
  · rw [curC_no h0]
    generalize idxU r.curris s = X at *
    refine acall_of tok mixed 17 rfl (fn := Tryz.f255) (c := Tryz.f255.body.getD .skip) (by kernel_rfl) (by kernel_rfl) (by kernel_rfl) rfl 0 rfl ?_
    repeat' (first | refine o1 ?_ | refine o2 ?_ | refine k1 ?_ | refine k2 ?_ | refine k3 ?_ | refine k7 ?_ | refine And.intro ?_ ?_ | (intro h; first | exact Bool.noConfusion h | exact nz _ h | exact nl h | (simp at h; done) | (simp at h; first | (exfalso; omega) | skip) | skip) | (change retOk _ _ _ _; refine ret_pure rfl trivial ?_) | (change vcFun _ _ _ _ _; refine call_eq rfl (by repeat' (first | trivial | refine And.intro ?_ ?_ | (show 0 + _ ≤ List.length _; simp))) ALeL.refl (hi) rfl ?_) | fail)
    exact ⟨ALe.pv PLe.nil⟩
  · obtain ⟨k, x, e, hx, -⟩ := idxB_in (p := fun y : Curri => pB (y.code = s)) (l := r.curris) (by unfold idxU at h0; omega)
    have e : idxU r.curris s = k := e
    rw [curC_at e hx]
    rw [e] at hi
    refine acall_of tok mixed 17 rfl (fn := Tryz.f255) (c := Tryz.f255.body.getD .skip) (by kernel_rfl) (by kernel_rfl) (by kernel_rfl) rfl 0 rfl ?_
    repeat' (first | refine o1 ?_ | refine o2 ?_ | refine k1 ?_ | refine k2 ?_ | refine k3 ?_ | refine k6 ?_ | refine k7 ?_ | refine And.intro ?_ ?_ | (intro h; first | exact Bool.noConfusion h | exact nz _ h | exact nl h | (simp at h; done) | (simp at h; first | (exfalso; omega) | skip) | skip) | (change retOk _ _ _ _; refine ret_pure rfl trivial ?_) | refine ⟨_, _, (by first | rfl | assumption), at_map (by assumption), ?_⟩ | (change vcFun _ _ _ _ _; refine call_eq rfl (by repeat' (first | trivial | refine And.intro ?_ ?_ | (show 0 + _ ≤ List.length _; simp))) ALeL.refl (hi) rfl ?_) | fail)
    exact ⟨ALe.refl⟩
theorem c_curriculum (r : Reg) (s : Str) (hr : RegL r) : PCall Tryz.prog 255 [ag r.cells, .pv (es s)] (fun a => a = .pv (encStrs (curC r s))) :=
  (c_curriculum0 r s hr).weak fun r h => ⟨_, h.le, rfl⟩
noncomputable def leafB (r : Reg) (k : Int) (n : Str) (c : Class) : Bool :=
  if k = 1 then true else if k = 2 then sEq c.code n else if k = 3 then sEq c.course n else if k = 4 then sEq c.part n else if k = 5 then pB (c.course ∈ curC r n) else if k = 6 then pB (n ∈ c.staff) else pB (n ∈ c.feats)
theorem curC_len {r : Reg} {s : Str} (h : RegS r) : (curC r s).length ≤ 100000 := by
  unfold curC
  split
  · simp
  · split
    · exact h.cur _ (List.mem_of_getElem? ‹_›)
    · simp
theorem c_meant (r : Reg) (k : Int) (n : Str) (l : List Sel) (c : Class) (hr : RegS r) (hc : c ∈ r.classes) : PCall Tryz.prog 202 [ag r.cells, ag (Sel.row (.mk k n l)), ag c.row] (fun a => a = vbool (leafB r k n c)) := by
  have h1 := c_curriculum r n hr.lens
  have h2 := c_contains (curC r n) c.course (curC_len hr)
  have h3 := c_contains c.staff n (hr.cls c hc).1
  have h4 := c_contains c.feats n (hr.cls c hc).2
  rw [row_mk]
  unfold leafB
  generalize curC r n = CC at *
  refine acall_of tok mixed 53 rfl (fn := Tryz.f202) (c := Tryz.f202.body.getD .skip) (by kernel_rfl) (by kernel_rfl) (by kernel_rfl) rfl 0 rfl ?_
  repeat' (first | refine o1 ?_ | refine o2 ?_ | refine k1 ?_ | refine k2 ?_ | refine k3 ?_ | refine k4 ?_ | refine k6 ?_ | refine k7 ?_ | refine And.intro ?_ ?_ | refine o3 ?_ | refine o4 ?_ | (intro h; first | exact Bool.noConfusion h | exact nz _ h | exact nl h | (simp at h; done) | (simp at h; first | (exfalso; omega) | skip) | skip) | (change retOk _ _ _ _; refine ret_pure rfl trivial ?_) | exact (by kernel_rfl : drawOk _ _ = true) | (change vcFunD _ _ _ _ _; refine callD_eq rfl (by repeat' (first | trivial | refine And.intro ?_ ?_ | (show 0 + _ ≤ List.length _; simp))) ALeL.refl (h1) rfl ?_) | (change vcFunD _ _ _ _ _; refine callD_eq rfl (by repeat' (first | trivial | refine And.intro ?_ ?_ | (show 0 + _ ≤ List.length _; simp))) ALeL.refl (h2) rfl ?_) | (change vcFun _ _ _ _ _; refine call_eq rfl (by repeat' (first | trivial | refine And.intro ?_ ?_ | (show 0 + _ ≤ List.length _; simp))) ALeL.refl (h3) rfl ?_) | (change vcFun _ _ _ _ _; refine call_eq rfl (by repeat' (first | trivial | refine And.intro ?_ ?_ | (show 0 + _ ≤ List.length _; simp))) ALeL.refl (h4) rfl ?_) | fail)
  all_goals
    refine congrArg vbool ?_
    simp [*]
-- Which classes a selection means.
mutual
noncomputable def hasS (r : Reg) (c : Class) : Sel → Bool
  | .mk k n l => if k = 8 then decide (cntS r c l = l.length) else if k = 9 then decide (0 < cntS r c l) else if k = 10 then decide (cntS r c l = 0) else leafB r k n c
noncomputable def cntS (r : Reg) (c : Class) : List Sel → Nat
  | [] => 0
  | q :: l => cntS r c l + (if hasS r c q then 1 else 0)
end
theorem cntS_eq {r : Reg} {c : Class} : ∀ l : List Sel, cntS r c l = l.countP (hasS r c)
  | [] => by rw [cntS]; rfl
  | q :: l => by rw [cntS, cntS_eq l, List.countP_cons]
theorem has_and {r : Reg} {c : Class} {n : Str} {l : List Sel} : hasS r c (.mk 8 n l) = l.all (hasS r c) := by
  rw [hasS, if_pos rfl, cntS_eq]
  rw [Bool.eq_iff_iff, decide_eq_true_iff, List.countP_eq_length, List.all_eq_true]
theorem has_or {r : Reg} {c : Class} {n : Str} {l : List Sel} : hasS r c (.mk 9 n l) = l.any (hasS r c) := by
  rw [hasS, if_neg (by decide), if_pos rfl, cntS_eq]
  rw [Bool.eq_iff_iff, decide_eq_true_iff, List.countP_pos_iff, List.any_eq_true]
theorem has_not {r : Reg} {c : Class} {n : Str} {q : Sel} : hasS r c (.mk 10 n [q]) = !hasS r c q := by
  rw [hasS, if_neg (by decide), if_neg (by decide), if_pos rfl, cntS_eq]
  cases h : hasS r c q <;> simp [List.countP_cons, h]
theorem has_leaf {r : Reg} {c : Class} {k : Int} {n : Str} {l : List Sel} (h : k < 8 ∨ 10 < k) : hasS r c (.mk k n l) = leafB r k n c := by
  rw [hasS, if_neg (by omega), if_neg (by omega), if_neg (by omega)]
theorem c_index_sel (l : List Sel) (f : FuncId) (caps : List PV) (p : Sel → Bool) (hl : l.length ≤ 9223372036854775807) (hf : ∀ x ∈ l, PCall Tryz.prog f (ag (Sel.row x) :: pvs caps) (fun r => r = vbool (p x))) :
    PCall Tryz.prog 217 [.pv (.sl 3 (l.map Sel.row)), .pv (.fn f caps)] (fun r => r = vint .i64 (idxB p l)) := by
  refine acall_of tok mixed 19 rfl (fn := Tryz.f217) (c := Tryz.f217.body.getD .skip) (by kernel_rfl) (by kernel_rfl) (by kernel_rfl) rfl 0 rfl ?_
  repeat' (first | refine o1 ?_ | refine o2 ?_ | refine k1 ?_ | refine k2 ?_ | refine k4 ?_ | refine eqv_len_map ?_ | fail)
  refine loop_at (fun i : Nat => [(8, vint .i64 i)]) (fun _ => []) (fun i => i ≤ l.length ∧ ∀ j, j < i → ∀ y, l[j]? = some y → p y = false) (fun i => l.length - i) 0 ⟨by omega, fun j hj => by omega⟩ (by repeat' (first | exact trivial | exact ⟨_, rfl, ALe.refl⟩ | refine And.intro ?_ ?_)) (by repeat' (first | exact trivial)) ?_
  intro i ⟨hi, hall⟩
  rcases Nat.lt_or_ge i l.length with hlt | hge
  · obtain ⟨⟨kq, nq, lq⟩, hx⟩ := getE hlt
    have hm := List.mem_of_getElem? hx
    repeat' (first | refine o1 ?_ | refine o2 ?_ | refine k1 ?_ | refine k2 ?_ | refine k3 ?_ | refine k4 ?_ | refine k6 ?_ | refine k7 ?_ | refine And.intro ?_ ?_ | (intro h; first | exact Bool.noConfusion h | exact nz _ h | exact nl h | (simp at h; done) | (simp at h; first | (exfalso; omega) | skip) | skip) | (change retOk _ _ _ _; refine ret_pure rfl trivial ?_) | refine eqv_wrap (by omega) (by omega) ?_ | refine ⟨_, _, (by first | rfl | assumption), at_map (by assumption), ?_⟩ | (change vcFun _ _ (_ ++ pvs _) _ _; refine call_cap rfl (by repeat' (first | trivial | refine And.intro ?_ ?_ | (show 0 + _ ≤ List.length _; simp))) (hf _ hm) rfl ?_) | fail)
    all_goals first
      | exact ⟨i + 1, ⟨by omega, all_lt_succ hall fun y hy => by rw [hx] at hy; cases hy; assumption⟩, by omega, back [] rfl rfl trivial (by repeat' (first | exact trivial | exact rfl | refine And.intro ?_ ?_))⟩
      | exact congrArg (vint .i64) (idxB_at hall hx (by assumption)).symm
  · repeat' (first | refine o1 ?_ | refine o2 ?_ | refine k1 ?_ | refine k2 ?_ | refine k3 ?_ | refine k7 ?_ | refine k8 ?_ | refine And.intro ?_ ?_ | (intro h; first | exact Bool.noConfusion h | exact nz _ h | exact nl h | (simp at h; done) | (simp at h; first | (exfalso; omega) | skip) | skip) | (change retOk _ _ _ _; refine ret_pure rfl trivial ?_) | fail)
    exact congrArg (vint .i64) (idxB_none fun j hj => hall j (by omega)).symm
theorem c_any_sel (l : List Sel) (f : FuncId) (caps : List PV) (p : Sel → Bool) (hl : l.length ≤ 9223372036854775807) (hf : ∀ x ∈ l, PCall Tryz.prog f (ag (Sel.row x) :: pvs caps) (fun r => r = vbool (p x))) :
    PCall Tryz.prog 112 [.pv (.sl 3 (l.map Sel.row)), .pv (.fn f caps)] (fun r => r = vbool (l.any p)) := by
  refine acall_of tok mixed 9 rfl (fn := Tryz.f112) (c := Tryz.f112.body.getD .skip) (by kernel_rfl) (by kernel_rfl) (by kernel_rfl) rfl 0 rfl ?_
  repeat' (first | refine o1 ?_ | refine o2 ?_ | refine k1 ?_ | refine k2 ?_ | refine k7 ?_ | (change retOk _ _ _ _; refine ret_pure rfl trivial ?_) | (change vcFun _ _ _ _ _; refine call_eq rfl (by repeat' (first | trivial | refine And.intro ?_ ?_ | (show 0 + _ ≤ List.length _; simp))) ALeL.refl (c_index_sel l f caps p hl hf) rfl ?_) | fail)
  exact congrArg vbool idxB_any
def HasOk (r : Reg) (c : Class) (s : Sel) : Prop := PCall Tryz.prog 103 [ag r.cells, ag s.row, ag c.row] (fun a => a = vbool (hasS r c s))
theorem c_has1 (r : Reg) (c : Class) (q : Sel) (h : HasOk r c q) : PCall Tryz.prog 204 [ag q.row, .pv (.ia r.cells), .pv (.ia c.row)] (fun a => a = vbool (hasS r c q)) := by
  unfold HasOk at h
  generalize hasS r c q = B at *
  obtain ⟨k, n, l⟩ := q
  rw [row_mk] at *
  refine acall_of tok mixed 9 rfl (fn := Tryz.f204) (c := Tryz.f204.body.getD .skip) (by kernel_rfl) (by kernel_rfl) (by kernel_rfl) rfl 0 rfl ?_
  repeat' (first | refine o1 ?_ | refine o2 ?_ | refine k1 ?_ | refine k2 ?_ | refine k7 ?_ | (change retOk _ _ _ _; refine ret_pure rfl trivial ?_) | (change vcFun _ _ _ _ _; refine call_eq rfl (by repeat' (first | trivial | refine And.intro ?_ ?_ | (show 0 + _ ≤ List.length _; simp))) ALeL.refl (h) rfl ?_) | fail)
  rfl
theorem c_has2 (r : Reg) (c : Class) (q : Sel) (h : HasOk r c q) : PCall Tryz.prog 205 [ag q.row, .pv (.ia [.fn 204 [.ia r.cells, .ia c.row]])] (fun a => a = vbool (!hasS r c q)) := by
  have h := c_has1 r c q h
  generalize hasS r c q = B at *
  obtain ⟨k, n, l⟩ := q
  rw [row_mk] at *
  refine acall_of tok mixed 8 rfl (fn := Tryz.f205) (c := Tryz.f205.body.getD .skip) (by kernel_rfl) (by kernel_rfl) (by kernel_rfl) rfl 0 rfl ?_
  repeat' (first | refine o1 ?_ | refine o2 ?_ | refine k1 ?_ | refine k2 ?_ | refine k7 ?_ | (change retOk _ _ _ _; refine ret_pure rfl trivial ?_) | (change vcFun _ _ (_ ++ pvs _) _ _; refine call_cap rfl (by repeat' (first | trivial | refine And.intro ?_ ?_ | (show 0 + _ ≤ List.length _; simp))) (h) rfl ?_) | fail)
  rfl
theorem c_hasS (r : Reg) (c : Class) (hr : RegS r) (hc : c ∈ r.classes) : ∀ (s : Sel) (hs : SelL s) (hb : soundB s = true), HasOk r c s := by
  intro s hs
  induction hs with
  | mk hl hk ih =>
    rename_i k n l
    intro hb
    rw [sound_mk, Bool.and_eq_true] at hb
    obtain ⟨hb1, hb2⟩ := hb
    have hkid : ∀ q ∈ l, HasOk r c q := fun q hq => ih q hq (List.all_eq_true.1 hb1 q hq)
    obtain ⟨hh, hkp⟩ := form_iff.1 hb2
    have hmt := c_meant r k n l c hr hc
    unfold HasOk
    rw [row_mk] at *
    by_cases h8 : k = 8
    · subst h8
      rw [has_and]
      have hA := c_any_sel l 205 [.ia [.fn 204 [.ia r.cells, .ia c.row]]] (fun q => !hasS r c q) hl fun q hq => c_has2 r c q (hkid q hq)
      have hE : (!l.any fun q => !hasS r c q) = l.all (hasS r c) := by rw [List.all_eq_not_any_not]
      rw [← hE]
      generalize (l.any fun q => !hasS r c q) = A at *
      refine acall_of tok mixed 37 rfl (fn := Tryz.f103) (c := Tryz.f103.body.getD .skip) (by kernel_rfl) (by kernel_rfl) (by kernel_rfl) rfl 0 rfl ?_
      repeat' (first | refine o1 ?_ | refine o2 ?_ | refine k1 ?_ | refine k2 ?_ | refine k3 ?_ | refine k4 ?_ | refine k7 ?_ | refine And.intro ?_ ?_ | (intro h; first | exact Bool.noConfusion h | exact nz _ h | exact nl h | (simp at h; done) | (simp at h; first | (exfalso; omega) | skip) | skip) | (change retOk _ _ _ _; refine ret_pure rfl trivial ?_) | exact (by kernel_rfl : drawOk _ _ = true) | (change vcFun _ _ _ _ _; refine call_eq rfl (by repeat' (first | trivial | refine And.intro ?_ ?_ | (show 0 + _ ≤ List.length _; simp))) ALeL.refl (hA) rfl ?_) | fail)
      rfl
    · by_cases h9 : k = 9
      · subst h9
        rw [has_or]
        have hA := c_any_sel l 204 [.ia r.cells, .ia c.row] (hasS r c) hl fun q hq => c_has1 r c q (hkid q hq)
        generalize l.any (hasS r c) = A at *
        refine acall_of tok mixed 37 rfl (fn := Tryz.f103) (c := Tryz.f103.body.getD .skip) (by kernel_rfl) (by kernel_rfl) (by kernel_rfl) rfl 0 rfl ?_
        repeat' (first | refine o1 ?_ | refine o2 ?_ | refine k1 ?_ | refine k2 ?_ | refine k3 ?_ | refine k4 ?_ | refine k7 ?_ | refine And.intro ?_ ?_ | (intro h; first | exact Bool.noConfusion h | exact nz _ h | exact nl h | (simp at h; done) | (simp at h; first | (exfalso; omega) | skip) | skip) | (change retOk _ _ _ _; refine ret_pure rfl trivial ?_) | exact (by kernel_rfl : drawOk _ _ = true) | (change vcFun _ _ _ _ _; refine call_eq rfl (by repeat' (first | trivial | refine And.intro ?_ ?_ | (show 0 + _ ≤ List.length _; simp))) ALeL.refl (hA) rfl ?_) | fail)
        rfl
      · by_cases h10 : k = 10
        · subst h10
          obtain ⟨q, rfl⟩ : ∃ q, l = [q] := by
            unfold kidsP at hkp
            rw [if_neg (by decide), if_pos rfl] at hkp
            exact List.length_eq_one_iff.1 hkp
          rw [has_not]
          have hq := c_has1 r c q (hkid q (by simp))
          generalize hasS r c q = B at *
          obtain ⟨kq, nq, lq⟩ := q
          refine acall_of tok mixed 37 rfl (fn := Tryz.f103) (c := Tryz.f103.body.getD .skip) (by kernel_rfl) (by kernel_rfl) (by kernel_rfl) rfl 0 rfl ?_
          repeat' (first | (refine idx_sl (k := 0) rfl rfl ?_) | refine o1 ?_ | refine o2 ?_ | refine k1 ?_ | refine k2 ?_ | refine k3 ?_ | refine k4 ?_ | refine k7 ?_ | refine And.intro ?_ ?_ | refine o3 ?_ | refine o4 ?_ | (intro h; first | exact Bool.noConfusion h | exact nz _ h | exact nl h | (simp at h; done) | (simp at h; first | (exfalso; omega) | skip) | skip) | (change retOk _ _ _ _; refine ret_pure rfl trivial ?_) | exact (by kernel_rfl : drawOk _ _ = true) | (change vcFunD _ _ _ _ _; refine callD_eq rfl (by repeat' (first | trivial | refine And.intro ?_ ?_ | (show 0 + _ ≤ List.length _; simp))) ALeL.refl (hq) rfl ?_) | fail)
          rfl
        · rw [has_leaf (by unfold headP at hh; omega)]
          generalize leafB r k n c = B at *
          refine acall_of tok mixed 37 rfl (fn := Tryz.f103) (c := Tryz.f103.body.getD .skip) (by kernel_rfl) (by kernel_rfl) (by kernel_rfl) rfl 0 rfl ?_
          repeat' (first | refine o1 ?_ | refine o2 ?_ | refine k1 ?_ | refine k2 ?_ | refine k3 ?_ | refine k4 ?_ | refine k6 ?_ | refine k7 ?_ | refine And.intro ?_ ?_ | (intro h; first | exact Bool.noConfusion h | exact nz _ h | exact nl h | (simp at h; done) | (simp at h; first | (exfalso; omega) | skip) | skip) | (change retOk _ _ _ _; refine ret_pure rfl trivial ?_) | exact (by kernel_rfl : drawOk _ _ = true) | (change vcFun _ _ _ _ _; refine call_eq rfl (by repeat' (first | trivial | refine And.intro ?_ ?_ | (show 0 + _ ≤ List.length _; simp))) ALeL.refl (hmt) rfl ?_) | fail)
          rfl
-- Which names are known.
noncomputable def leafK (r : Reg) (k : Int) (n : Str) : Bool := if k = 5 then decide (idxU r.curris n ≥ 0) else if k = 6 then decide (idxL r.staff n ≥ 0) else (decide (k = 7) && r.rooms.any fun x => pB (n ∈ x.feats)) || r.classes.any (leafB r k n)
mutual
noncomputable def knownS (r : Reg) : Sel → Bool
  | .mk k n l => if pB (namedP k) then leafK r k n else knownL r l
noncomputable def knownL (r : Reg) : List Sel → Bool
  | [] => true
  | q :: l => knownS r q && knownL r l
end
theorem knownL_all {r : Reg} : ∀ l : List Sel, knownL r l = l.all (knownS r)
  | [] => by rw [knownL]; rfl
  | q :: l => by rw [knownL, knownL_all l]; rfl
theorem known_leaf {r : Reg} {k : Int} {n : Str} {l : List Sel} (h : namedP k) : knownS r (.mk k n l) = leafK r k n := by rw [knownS, pB_t h, if_pos rfl]
theorem known_all {r : Reg} {k : Int} {n : Str} {l : List Sel} (h : ¬ namedP k) : knownS r (.mk k n l) = l.all (knownS r) := by rw [knownS, pB_f h, if_neg (by simp), knownL_all]
def KnownOk (r : Reg) (s : Sel) : Prop := PCall Tryz.prog 102 [ag r.cells, ag s.row] (fun a => a = vbool (knownS r s))
theorem c_known1 (x : Room) (k : Int) (n : Str) (l : List Sel) (hx : x.feats.length ≤ 100000) : PCall Tryz.prog 200 [ag x.row, .pv (.ia (Sel.row (.mk k n l)))] (fun a => a = vbool (pB (n ∈ x.feats))) := by
  have h := c_contains x.feats n hx
  rw [row_mk]
  refine acall_of tok mixed 9 rfl (fn := Tryz.f200) (c := Tryz.f200.body.getD .skip) (by kernel_rfl) (by kernel_rfl) (by kernel_rfl) rfl 0 rfl ?_
  repeat' (first | refine o1 ?_ | refine o2 ?_ | refine k1 ?_ | refine k2 ?_ | refine k7 ?_ | (change retOk _ _ _ _; refine ret_pure rfl trivial ?_) | (change vcFun _ _ _ _ _; refine call_eq rfl (by repeat' (first | trivial | refine And.intro ?_ ?_ | (show 0 + _ ≤ List.length _; simp))) ALeL.refl (h) rfl ?_) | fail)
  rfl
theorem c_known2 (r : Reg) (k : Int) (n : Str) (l : List Sel) (c : Class) (hr : RegS r) (hc : c ∈ r.classes) : PCall Tryz.prog 201 [ag c.row, .pv (.ia r.cells), .pv (.ia (Sel.row (.mk k n l)))] (fun a => a = vbool (leafB r k n c)) := by
  have h := c_meant r k n l c hr hc
  rw [row_mk] at *
  generalize leafB r k n c = B at *
  refine acall_of tok mixed 9 rfl (fn := Tryz.f201) (c := Tryz.f201.body.getD .skip) (by kernel_rfl) (by kernel_rfl) (by kernel_rfl) rfl 0 rfl ?_
  repeat' (first | refine o1 ?_ | refine o2 ?_ | refine k1 ?_ | refine k2 ?_ | refine k7 ?_ | (change retOk _ _ _ _; refine ret_pure rfl trivial ?_) | (change vcFun _ _ _ _ _; refine call_eq rfl (by repeat' (first | trivial | refine And.intro ?_ ?_ | (show 0 + _ ≤ List.length _; simp))) ALeL.refl (h) rfl ?_) | fail)
  rfl
theorem c_known3 (r : Reg) (q : Sel) (h : KnownOk r q) : PCall Tryz.prog 203 [ag q.row, .pv (.ia r.cells)] (fun a => a = vbool (!knownS r q)) := by
  unfold KnownOk at h
  generalize knownS r q = B at *
  obtain ⟨k, n, l⟩ := q
  rw [row_mk] at *
  refine acall_of tok mixed 8 rfl (fn := Tryz.f203) (c := Tryz.f203.body.getD .skip) (by kernel_rfl) (by kernel_rfl) (by kernel_rfl) rfl 0 rfl ?_
  repeat' (first | refine o1 ?_ | refine o2 ?_ | refine k1 ?_ | refine k2 ?_ | refine k7 ?_ | (change retOk _ _ _ _; refine ret_pure rfl trivial ?_) | (change vcFun _ _ _ _ _; refine call_eq rfl (by repeat' (first | trivial | refine And.intro ?_ ?_ | (show 0 + _ ≤ List.length _; simp))) ALeL.refl (h) rfl ?_) | fail)
  rfl
theorem c_knownS (r : Reg) (hr : RegS r) (hf : ∀ x ∈ r.rooms, x.feats.length ≤ 100000) : ∀ (s : Sel) (hs : SelL s) (hb : soundB s = true), KnownOk r s := by
  intro s hs
  induction hs with
  | mk hl hk ih =>
    rename_i k n l
    intro hb
    rw [sound_mk, Bool.and_eq_true] at hb
    obtain ⟨hb1, hb2⟩ := hb
    obtain ⟨hh, hkp⟩ := form_iff.1 hb2
    have hkid : ∀ q ∈ l, KnownOk r q := fun q hq => ih q hq (List.all_eq_true.1 hb1 q hq)
    unfold KnownOk
    by_cases hn : namedP k
    · rw [known_leaf hn]
      unfold namedP at hn
      have hi5 := c_indexR r 5 n hr.lens
      have hi6 := c_indexR r 3 n hr.lens
      rw [indexR5] at hi5
      rw [indexR3] at hi6
      have hA := c_any_room r.rooms 200 [.ia (Sel.row (.mk k n l))] (fun x => pB (n ∈ x.feats)) hr.lens.rooms fun x hx => c_known1 x k n l (hf x hx)
      have hB := c_any_class r.classes 201 [.ia r.cells, .ia (Sel.row (.mk k n l))] (leafB r k n) hr.lens.classes fun c hc => c_known2 r k n l c hr hc
      unfold leafK
      rw [row_mk] at *
      generalize (r.rooms.any fun x => pB (n ∈ x.feats)) = A at *
      generalize r.classes.any (leafB r k n) = B at *
      generalize idxU r.curris n = I5 at *
      generalize idxL r.staff n = I6 at *
      refine acall_of tok mixed 40 rfl (fn := Tryz.f102) (c := Tryz.f102.body.getD .skip) (by kernel_rfl) (by kernel_rfl) (by kernel_rfl) rfl 0 rfl ?_
      repeat' (first | refine o1 ?_ | refine o2 ?_ | refine k1 ?_ | refine k2 ?_ | refine k3 ?_ | refine k4 ?_ | refine k6 ?_ | refine k7 ?_ | refine k8 ?_ | refine And.intro ?_ ?_ | (intro h; first | exact Bool.noConfusion h | exact nz _ h | exact nl h | (simp at h; done) | (simp at h; first | (exfalso; omega) | skip) | skip) | (change retOk _ _ _ _; refine ret_pure rfl trivial ?_) | (change vcFun _ _ _ _ _; refine call_eq rfl (by repeat' (first | trivial | refine And.intro ?_ ?_ | (show 0 + _ ≤ List.length _; simp))) ALeL.refl (hi5) rfl ?_) | (change vcFun _ _ _ _ _; refine call_eq rfl (by repeat' (first | trivial | refine And.intro ?_ ?_ | (show 0 + _ ≤ List.length _; simp))) ALeL.refl (hi6) rfl ?_) | (change vcFun _ _ _ _ _; refine call_eq rfl (by repeat' (first | trivial | refine And.intro ?_ ?_ | (show 0 + _ ≤ List.length _; simp))) ALeL.refl (hA) rfl ?_) | (change vcFun _ _ _ _ _; refine call_eq rfl (by repeat' (first | trivial | refine And.intro ?_ ?_ | (show 0 + _ ≤ List.length _; simp))) ALeL.refl (hB) rfl ?_) | fail)
      all_goals
        refine congrArg vbool ?_
        simp [*]
    · rw [known_all hn]
      unfold namedP at hn
      have hA := c_any_sel l 203 [.ia r.cells] (fun q => !knownS r q) hl fun q hq => c_known3 r q (hkid q hq)
      have hE : (!l.any fun q => !knownS r q) = l.all (knownS r) := by rw [List.all_eq_not_any_not]
      rw [← hE]
      generalize (l.any fun q => !knownS r q) = A at *
      rw [row_mk]
      refine acall_of tok mixed 40 rfl (fn := Tryz.f102) (c := Tryz.f102.body.getD .skip) (by kernel_rfl) (by kernel_rfl) (by kernel_rfl) rfl 0 rfl ?_
      repeat' (first | refine o1 ?_ | refine o2 ?_ | refine k1 ?_ | refine k2 ?_ | refine k3 ?_ | refine k4 ?_ | refine k6 ?_ | refine k7 ?_ | refine k8 ?_ | refine And.intro ?_ ?_ | (intro h; first | exact Bool.noConfusion h | exact nz _ h | exact nl h | (simp at h; done) | (simp at h; first | (exfalso; omega) | skip) | skip) | (change retOk _ _ _ _; refine ret_pure rfl trivial ?_) | (change vcFun _ _ _ _ _; refine call_eq rfl (by repeat' (first | trivial | refine And.intro ?_ ?_ | (show 0 + _ ≤ List.length _; simp))) ALeL.refl (hA) rfl ?_) | fail)
      rfl
end Go.Proofs.YtkbaecjnhmbeeaaGreat.Cw
/-
  Selections: the program's order.
-/
namespace Go.Proofs.YtkbaecjnhmbeeaaGreat.Cw
open Go Go.Cw Go.Proofs
set_option linter.unusedVariables false
set_option maxRecDepth 100000
set_option maxHeartbeats 4000000
theorem bl_tot : ∀ {x y : List UInt8}, Op.bytesLess x y = false → (x == y) = false → Op.bytesLess y x = true
  | [], [], _, h => by simp at h
  | [], _ :: _, h, _ => by simp [Op.bytesLess] at h
  | _ :: _, [], _, _ => by simp [Op.bytesLess]
  | a :: x, b :: y, h1, h2 => by
    simp only [Op.bytesLess, Bool.or_eq_false_iff, decide_eq_false_iff_not, Bool.and_eq_false_iff] at h1
    simp only [Op.bytesLess, Bool.or_eq_true, decide_eq_true_eq, Bool.and_eq_true, beq_iff_eq]
    by_cases e : a = b
    · subst e
      right
      refine ⟨rfl, bl_tot ?_ ?_⟩
      · rcases h1.2 with h | h
        · simp at h
        · exact h
      · simpa using h2
    · left
      have h3 := h1.1
      have h4 : a.toNat ≠ b.toNat := fun h => e (UInt8.toNat_inj.1 h)
      simp only [UInt8.lt_iff_toNat_lt] at h3 ⊢
      omega
theorem sLe_f {a b : Str} (h : sLe a b = false) : sLt b a = true := by
  unfold sLe at h
  simp only [Bool.or_eq_false_iff] at h
  exact bl_tot h.1 h.2
theorem sLe_t {a b : Str} (h : sLe a b = true) : sLt b a = false := by
  unfold sLe at h
  rw [Bool.or_eq_true] at h
  rcases h with h | h
  · exact sLt_as h
  · obtain rfl := sEq_iff.1 h; exact sLt_irr _
theorem sEq_self (a : Str) : sEq a a = true := sEq_iff.2 rfl
theorem c_isNaNS (a : Str) : PCall Tryz.prog 219 [.pv (es a)] (fun r => r = vbool false) := by
  refine acall_of tok mixed 6 rfl (fn := Tryz.f219) (c := Tryz.f219.body.getD .skip) (by kernel_rfl) (by kernel_rfl) (by kernel_rfl) rfl 0 rfl ?_
  repeat' (first | refine o1 ?_ | refine o2 ?_ | refine k1 ?_ | refine k2 ?_ | refine k7 ?_ | (change retOk _ _ _ _; refine ret_pure rfl trivial ?_) | fail)
  exact congrArg vbool (by rw [sEq_self]; rfl)
theorem c_cmpN (a b : Str) : PCall Tryz.prog 116 [.pv (es a), .pv (es b)] (fun r => r = vint .i64 (cmpN a b)) := by
  refine acall_of tok mixed 20 rfl (fn := Tryz.f116) (c := Tryz.f116.body.getD .skip) (by kernel_rfl) (by kernel_rfl) (by kernel_rfl) rfl 0 rfl ?_
  repeat' (first | refine o1 ?_ | refine o2 ?_ | refine k1 ?_ | refine k2 ?_ | refine k3 ?_ | refine k6 ?_ | refine k7 ?_ | refine And.intro ?_ ?_ | (intro h; first | exact Bool.noConfusion h | exact nz _ h | exact nl h | (simp at h; done) | (simp at h; first | (exfalso; omega) | skip) | skip) | (change retOk _ _ _ _; refine ret_pure rfl trivial ?_) | (change vcFun _ _ _ _ _; refine call_eq rfl (by repeat' (first | trivial | refine And.intro ?_ ?_ | (show 0 + _ ≤ List.length _; simp))) ALeL.refl (c_isNaNS a) rfl ?_) | (change vcFun _ _ _ _ _; refine call_eq rfl (by repeat' (first | trivial | refine And.intro ?_ ?_ | (show 0 + _ ≤ List.length _; simp))) ALeL.refl (c_isNaNS b) rfl ?_) | fail)
  · exact congrArg (vint .i64) (by unfold cmpN; rw [if_pos (by assumption)])
  · have h2 := sLe_f (by assumption : sLe a b = false)
    have h1 : sLt a b = false := by assumption
    exact congrArg (vint .i64) (by unfold cmpN; rw [if_neg (by simp [h1]), if_pos h2])
  · have h2 := sLe_t (by assumption : sLe a b = true)
    have h1 : sLt a b = false := by assumption
    exact congrArg (vint .i64) (by unfold cmpN; rw [if_neg (by simp [h1]), if_neg (by simp [h2])])
theorem ordL_at {a b : List Sel} {i : Nat} {x y : Sel} (h1 : a[i]? = some x) (h2 : b[i]? = some y) : ordL (a.drop i) (b.drop i) = if ordS x y ≠ 0 then ordS x y else ordL (a.drop (i + 1)) (b.drop (i + 1)) := by
  obtain ⟨g1, rfl⟩ := List.getElem?_eq_some_iff.1 h1
  obtain ⟨g2, rfl⟩ := List.getElem?_eq_some_iff.1 h2
  rw [List.drop_eq_getElem_cons g1, List.drop_eq_getElem_cons g2, ordL]
theorem ordL_end1 {a b : List Sel} {i : Nat} {x : Sel} (h1 : a[i]? = some x) (h2 : b.length ≤ i) : ordL (a.drop i) (b.drop i) = 1 := by
  obtain ⟨g1, rfl⟩ := List.getElem?_eq_some_iff.1 h1
  rw [List.drop_eq_getElem_cons g1, List.drop_eq_nil_of_le h2, ordL]
theorem ordL_end2 {a b : List Sel} {i : Nat} (h1 : a.length ≤ i) (h2 : i < b.length) : ordL (a.drop i) (b.drop i) = -1 := by
  rw [List.drop_eq_nil_of_le h1, List.drop_eq_getElem_cons h2, ordL]
theorem ordL_end3 {a b : List Sel} {i : Nat} (h1 : a.length ≤ i) (h2 : b.length ≤ i) : ordL (a.drop i) (b.drop i) = 0 := by
  rw [List.drop_eq_nil_of_le h1, List.drop_eq_nil_of_le h2, ordL]
def OrdOk (a b : Sel) : Prop := PCall Tryz.prog 42 [ag a.row, ag b.row] (fun r => r = vint .i64 (ordS a b))
theorem c_cmpL (a b : List Sel) (ha : a.length ≤ 9223372036854775807) (hb : b.length ≤ 9223372036854775807) (hC : ∀ x ∈ a, ∀ y ∈ b, OrdOk x y) : PCall Tryz.prog 117 [.pv (.sl 3 (a.map Sel.row)), .pv (.sl 3 (b.map Sel.row)), .pv (.fn 42 [])] (fun r => r = vint .i64 (ordL a b)) := by
  refine acall_of tok mixed 39 rfl (fn := Tryz.f117) (c := Tryz.f117.body.getD .skip) (by kernel_rfl) (by kernel_rfl) (by kernel_rfl) rfl 0 rfl ?_
  repeat' (first | refine o1 ?_ | refine o2 ?_ | refine k1 ?_ | refine k2 ?_ | refine k4 ?_ | refine eqv_len_map ?_ | fail)
  refine loop_at (fun i : Nat => [(13, vint .i64 i)]) (fun _ => []) (fun i => i ≤ a.length ∧ ordL (a.drop i) (b.drop i) = ordL a b) (fun i => a.length - i) 0 ⟨Nat.zero_le _, rfl⟩ (by repeat' (first | exact trivial | exact ⟨_, rfl, ALe.refl⟩ | refine And.intro ?_ ?_)) (by repeat' (first | exact trivial)) ?_
  intro i ⟨hi, hlx⟩
  rw [← hlx]
  rcases Nat.lt_or_ge i a.length with hlt | hge
  · obtain ⟨x, hx⟩ := getE hlt
    rcases Nat.lt_or_ge i b.length with hlb | hgb
    · obtain ⟨y, hy⟩ := getE hlb
      have hc := hC x (List.mem_of_getElem? hx) y (List.mem_of_getElem? hy)
      unfold OrdOk at hc
      have hl := ordL_at hx hy
      generalize ordS x y = z at *
      obtain ⟨kx, nx, lx⟩ := x
      obtain ⟨ky, ny, ly⟩ := y
      repeat' (first | refine o1 ?_ | refine o2 ?_ | refine k1 ?_ | refine k2 ?_ | refine k3 ?_ | refine k4 ?_ | refine k6 ?_ | refine k7 ?_ | refine And.intro ?_ ?_ | (intro h; first | exact Bool.noConfusion h | exact nz _ h | exact nl h | (simp at h; done) | (simp at h; first | (exfalso; omega) | skip) | skip) | (change retOk _ _ _ _; refine ret_pure rfl trivial ?_) | exact (by kernel_rfl : drawOk _ _ = true) | refine eqv_len_map ?_ | refine eqv_wrap (by omega) (by omega) ?_ | refine ⟨_, _, (by first | rfl | assumption), at_map (by assumption), ?_⟩ | (change vcFun _ _ (_ ++ pvs _) _ _; refine call_cap rfl (by repeat' (first | trivial | refine And.intro ?_ ?_ | (show 0 + _ ≤ List.length _; simp))) (hc) rfl ?_) | fail)
      all_goals first
        | (rw [hl, if_pos (by assumption)]; rfl)
        | exact ⟨i + 1, ⟨by omega, by rw [hl, if_neg (by omega)]⟩, by omega, back [] rfl rfl trivial (by repeat' (first | exact trivial | exact rfl | refine And.intro ?_ ?_))⟩
    · have hl := ordL_end1 hx hgb
      obtain ⟨kx, nx, lx⟩ := x
      repeat' (first | refine o1 ?_ | refine o2 ?_ | refine k1 ?_ | refine k2 ?_ | refine k3 ?_ | refine k4 ?_ | refine k6 ?_ | refine k7 ?_ | refine And.intro ?_ ?_ | (intro h; first | exact Bool.noConfusion h | exact nz _ h | exact nl h | (simp at h; done) | (simp at h; first | (exfalso; omega) | skip) | skip) | (change retOk _ _ _ _; refine ret_pure rfl trivial ?_) | exact (by kernel_rfl : drawOk _ _ = true) | refine eqv_len_map ?_ | refine ⟨_, _, (by first | rfl | assumption), at_map (by assumption), ?_⟩ | fail)
      all_goals first
        | (rw [hl]; rfl)
  · obtain rfl : i = a.length := by omega
    rcases Nat.lt_or_ge a.length b.length with hlb | hgb
    · have hl := ordL_end2 (Nat.le_refl _) hlb
      repeat' (first | refine o1 ?_ | refine o2 ?_ | refine k1 ?_ | refine k2 ?_ | refine k3 ?_ | refine k7 ?_ | refine k8 ?_ | refine And.intro ?_ ?_ | (intro h; first | exact Bool.noConfusion h | exact nz _ h | exact nl h | (simp at h; done) | (simp at h; first | (exfalso; omega) | skip) | skip) | (change retOk _ _ _ _; refine ret_pure rfl trivial ?_) | refine eqv_len_map ?_ | fail)
      all_goals first
        | (exfalso; omega)
        | (rw [hl]; rfl)
    · have hl := ordL_end3 (Nat.le_refl _) hgb
      repeat' (first | refine o1 ?_ | refine o2 ?_ | refine k1 ?_ | refine k2 ?_ | refine k3 ?_ | refine k6 ?_ | refine k7 ?_ | refine k8 ?_ | refine And.intro ?_ ?_ | (intro h; first | exact Bool.noConfusion h | exact nz _ h | exact nl h | (simp at h; done) | (simp at h; first | (exfalso; omega) | skip) | skip) | (change retOk _ _ _ _; refine ret_pure rfl trivial ?_) | refine eqv_len_map ?_ | fail)
      all_goals first
        | (exfalso; omega)
        | (rw [hl]; rfl)
theorem c_ordS : ∀ (a : Sel) (ha : SelL a) (b : Sel) (hb : SelL b), OrdOk a b := by
  intro a ha
  induction ha with
  | mk hl hk ih =>
    rename_i k n l
    intro b hb
    cases hb with
    | mk hl' hk' =>
      rename_i k' n' l'
      have hc := c_cmpL l l' hl hl' fun x hx y hy => ih x hx y (hk' y hy)
      have e : ordS (.mk k n l) (.mk k' n' l') = orI [cmpI k k', cmpN n n', ordL l l'] := by
        rw [ordS]
        simp only [orI]
        (repeat' split) <;> first | rfl | omega | simp_all
      unfold OrdOk
      rw [e, row_mk, row_mk]
      refine acall_of tok mixed 22 rfl (fn := Tryz.f42) (c := Tryz.f42.body.getD .skip) (by kernel_rfl) (by kernel_rfl) (by kernel_rfl) rfl 0 rfl ?_
      repeat' (first | refine o1 ?_ | refine o2 ?_ | refine k1 ?_ | refine k2 ?_ | refine k7 ?_ | refine And.intro ?_ ?_ | refine o3 ?_ | refine o4 ?_ | (change retOk _ _ _ _; refine ret_pure rfl trivial ?_) | exact (by kernel_rfl : drawOk _ _ = true) | (change vcFunD _ _ _ _ _; refine callD_eq rfl (by repeat' (first | trivial | refine And.intro ?_ ?_ | (show 0 + _ ≤ List.length _; simp))) ALeL.refl (c_cmp k k') rfl ?_) | (change vcFunD _ _ _ _ _; refine callD_eq rfl (by repeat' (first | trivial | refine And.intro ?_ ?_ | (show 0 + _ ≤ List.length _; simp))) ALeL.refl (c_cmpN n n') rfl ?_) | (change vcFunD _ _ _ _ _; refine callD_eq rfl (by repeat' (first | trivial | refine And.intro ?_ ?_ | (show 0 + _ ≤ List.length _; simp))) ALeL.refl (hc) rfl ?_) | (change vcFunD _ _ _ _ _; refine callD_eq rfl (by repeat' (first | trivial | refine And.intro ?_ ?_ | (show 0 + _ ≤ List.length _; simp))) ALeL.refl (c_or [cmpI k k', cmpN n n', ordL l l'] (Nat.le_of_ble_eq_true rfl)) rfl ?_) | fail)
      all_goals exact rfl
-- How deep selections are, by the program.
def WithinOk (s : Sel) (d : Int) : Prop := PCall Tryz.prog 41 [ag s.row, vint .i64 d] (fun r => r = vbool (decide ((dep s : Nat) ≤ d)))
theorem c_within1 (q : Sel) (d : Int) (h : WithinOk q (d - 1)) (h1 : 0 < d) (h2 : d ≤ 100) : PCall Tryz.prog 113 [ag q.row, .pv (.ia [ei d])] (fun r => r = vbool (!decide ((dep q : Nat) ≤ d - 1))) := by
  unfold WithinOk at h
  generalize decide ((dep q : Nat) ≤ d - 1) = B at *
  obtain ⟨k, n, l⟩ := q
  rw [row_mk] at *
  refine acall_of tok mixed 9 rfl (fn := Tryz.f113) (c := Tryz.f113.body.getD .skip) (by kernel_rfl) (by kernel_rfl) (by kernel_rfl) rfl 0 rfl ?_
  repeat' (first | refine o1 ?_ | refine o2 ?_ | refine k1 ?_ | refine k2 ?_ | refine k7 ?_ | (change retOk _ _ _ _; refine ret_pure rfl trivial ?_) | refine eqv_wrap (by omega) (by omega) ?_ | (change vcFun _ _ _ _ _; refine call_eq rfl (by repeat' (first | trivial | refine And.intro ?_ ?_ | (show 0 + _ ≤ List.length _; simp))) ALeL.refl (h) rfl ?_) | fail)
  rfl
theorem depL_all : ∀ {l : List Sel} {d : Int}, 0 ≤ d → (decide ((depL l : Nat) ≤ d) = !l.any fun q => !decide ((dep q : Nat) ≤ d))
  | [], d, h => by rw [depL]; exact decide_eq_true (by omega)
  | q :: l, d, h => by
    have ih := depL_all (l := l) h
    rw [depL, List.any_cons, Bool.not_or, ← ih, Bool.not_not]
    rw [Bool.eq_iff_iff]; simp; omega
theorem c_within : ∀ (s : Sel) (hs : SelL s) (d : Int) (h0 : 0 ≤ d) (h1 : d ≤ 100), WithinOk s d := by
  intro s hs
  induction hs with
  | mk hl hk ih =>
    rename_i k n l
    intro d h0 h1
    unfold WithinOk
    rw [row_mk, dep]
    rcases Int.lt_or_eq_of_le h0 with h0 | rfl
    · have hA := c_any_sel l 113 [.ia [ei d]] (fun q => !decide ((dep q : Nat) ≤ d - 1)) hl fun q hq => c_within1 q d (ih q hq (d - 1) (by omega) (by omega)) h0 h1
      have hE := depL_all (l := l) (d := d - 1) (by omega)
      have hE2 : decide (((depL l + 1 : Nat) : Int) ≤ d) = decide ((depL l : Nat) ≤ d - 1) := by rw [Bool.eq_iff_iff]; simp; omega
      rw [hE2, hE]
      generalize (l.any fun q => !decide ((dep q : Nat) ≤ d - 1)) = A at *
      refine acall_of tok mixed 14 rfl (fn := Tryz.f41) (c := Tryz.f41.body.getD .skip) (by kernel_rfl) (by kernel_rfl) (by kernel_rfl) rfl 0 rfl ?_
      repeat' (first | refine o1 ?_ | refine o2 ?_ | refine k1 ?_ | refine k2 ?_ | refine k7 ?_ | refine And.intro ?_ ?_ | (intro h; first | exact Bool.noConfusion h | exact nz _ h | exact nl h | (simp at h; done) | (simp at h; first | (exfalso; omega) | skip) | skip) | (change retOk _ _ _ _; refine ret_pure rfl trivial ?_) | (change vcFun _ _ _ _ _; refine call_eq rfl (by repeat' (first | trivial | refine And.intro ?_ ?_ | (show 0 + _ ≤ List.length _; simp))) ALeL.refl (hA) rfl ?_) | fail)
      all_goals first
        | rfl
        | (exfalso; omega)
    · have hE2 : decide (((depL l + 1 : Nat) : Int) ≤ 0) = false := by simp
      rw [hE2]
      refine acall_of tok mixed 14 rfl (fn := Tryz.f41) (c := Tryz.f41.body.getD .skip) (by kernel_rfl) (by kernel_rfl) (by kernel_rfl) rfl 0 rfl ?_
      repeat' (first | refine o1 ?_ | refine o2 ?_ | refine k1 ?_ | refine k2 ?_ | refine k7 ?_ | refine And.intro ?_ ?_ | (intro h; first | exact Bool.noConfusion h | exact nz _ h | exact nl h | (simp at h; done) | (simp at h; first | (exfalso; omega) | skip) | skip) | (change retOk _ _ _ _; refine ret_pure rfl trivial ?_) | fail)
      all_goals first
        | rfl
        | (exfalso; omega)
def cmpV (a b : Sel) : Int := if dep a ≤ 100 ∧ dep b ≤ 100 then ordS a b else 0
theorem c_compare (a b : Sel) (ha : SelL a) (hb : SelL b) : PCall Tryz.prog 16 [ag a.row, ag b.row] (fun r => r = vint .i64 (cmpV a b)) := by
  have h1 := c_within a ha 100 (by omega) (by omega)
  have h2 := c_within b hb 100 (by omega) (by omega)
  have h3 := c_ordS a ha b hb
  unfold WithinOk at h1 h2
  unfold OrdOk at h3
  have e : cmpV a b = if decide ((dep a : Nat) ≤ (100 : Int)) = true then (if decide ((dep b : Nat) ≤ (100 : Int)) = true then ordS a b else 0) else 0 := by
    unfold cmpV
    by_cases g1 : dep a ≤ 100 <;> by_cases g2 : dep b ≤ 100
    · rw [if_pos ⟨g1, g2⟩, if_pos (by simp; omega), if_pos (by simp; omega)]
    · rw [if_neg (fun h => g2 h.2), if_pos (by simp; omega), if_neg (by simp; omega)]
    · rw [if_neg (fun h => g1 h.1), if_neg (by simp; omega)]
    · rw [if_neg (fun h => g1 h.1), if_neg (by simp; omega)]
  rw [e]
  generalize decide ((dep a : Nat) ≤ (100 : Int)) = B1 at *
  generalize decide ((dep b : Nat) ≤ (100 : Int)) = B2 at *
  generalize ordS a b = O at *
  obtain ⟨k, n, l⟩ := a
  obtain ⟨k', n', l'⟩ := b
  rw [row_mk, row_mk] at *
  refine acall_of tok mixed 16 rfl (fn := Tryz.f16) (c := Tryz.f16.body.getD .skip) (by kernel_rfl) (by kernel_rfl) (by kernel_rfl) rfl 0 rfl ?_
  repeat' (first | refine o1 ?_ | refine o2 ?_ | refine k1 ?_ | refine k2 ?_ | refine k3 ?_ | refine k6 ?_ | refine k7 ?_ | refine And.intro ?_ ?_ | (intro h; first | exact Bool.noConfusion h | exact nz _ h | exact nl h | (simp at h; done) | (simp at h; first | (exfalso; omega) | skip) | skip) | (change retOk _ _ _ _; refine ret_pure rfl trivial ?_) | (change vcFun _ _ _ _ _; refine call_eq rfl (by repeat' (first | trivial | refine And.intro ?_ ?_ | (show 0 + _ ≤ List.length _; simp))) ALeL.refl (h1) rfl ?_) | (change vcFun _ _ _ _ _; refine call_eq rfl (by repeat' (first | trivial | refine And.intro ?_ ?_ | (show 0 + _ ≤ List.length _; simp))) ALeL.refl (h2) rfl ?_) | (change vcFun _ _ _ _ _; refine call_eq rfl (by repeat' (first | trivial | refine And.intro ?_ ?_ | (show 0 + _ ≤ List.length _; simp))) ALeL.refl (h3) rfl ?_) | fail)
  all_goals
    refine congrArg (vint .i64) ?_
    simp_all
end Go.Proofs.YtkbaecjnhmbeeaaGreat.Cw
/-
  Selections read back from their rows; sorting them; compacting, step by step (plain).
-/
namespace Go.Proofs.YtkbaecjnhmbeeaaGreat.Cw
open Go Go.Cw Go.Proofs
set_option linter.unusedVariables false
set_option maxRecDepth 100000
set_option maxHeartbeats 1600000
mutual
theorem row_inj : ∀ {a b : Sel}, a.row = b.row → a = b
  | .mk k n l, .mk k' n' l', h => by
    rw [Sel.row, Sel.row] at h
    injection h with h1 h
    injection h with h2 h
    injection h with h3 h
    injection h1 with h1; injection h1 with _ h1
    injection h2 with h2; injection h2 with h2
    injection h3 with _ h3
    rw [h1, h2, rows_inj h3]
theorem rows_inj : ∀ {l l' : List Sel}, selRows l = selRows l' → l = l'
  | [], [], _ => rfl
  | [], _ :: _, h => by rw [selRows, selRows] at h; cases h
  | _ :: _, [], h => by rw [selRows, selRows] at h; cases h
  | x :: l, y :: l', h => by
    rw [selRows, selRows] at h
    injection h with h1 h2
    rw [row_inj h1, rows_inj h2]
end
noncomputable def selOf (r : List PV) : Sel := open Classical in if h : ∃ s : Sel, s.row = r then h.choose else allQ
theorem selOf_row (s : Sel) : selOf s.row = s := by
  unfold selOf
  have h : ∃ t : Sel, t.row = s.row := ⟨s, rfl⟩
  rw [dif_pos h]
  exact row_inj h.choose_spec
theorem map_selOf (l : List Sel) : (l.map Sel.row).map selOf = l := by
  rw [List.map_map]
  have : selOf ∘ Sel.row = id := funext selOf_row
  rw [this, List.map_id]
noncomputable def selC (x y : List PV) : Int := ordS (selOf x) (selOf y)
theorem selC_row (a b : Sel) : selC a.row b.row = ordS a b := by unfold selC; rw [selOf_row, selOf_row]
theorem selC_weak (l : List (List PV)) : WeakOrd selC l := by
  refine ⟨fun x _ => ?_, fun x _ y _ z _ h1 h2 => ?_, fun x _ y _ z _ h1 h2 => ?_⟩
  · unfold selC; rw [ord_self]; decide
  · exact ord_trans _ _ _ h1 h2
  · unfold selC at *
    have a1 := ord_anti (selOf x) (selOf y)
    have a2 := ord_anti (selOf y) (selOf z)
    have a3 := ord_anti (selOf x) (selOf z)
    have := ord_le_trans (a := selOf z) (b := selOf y) (c := selOf x) (by omega) (by omega)
    omega
theorem sorted_sel {l : List Sel} {ys : List (List PV)} (hp : ys.Perm (l.map Sel.row)) (ha : RowsAsc selC ys) : ∃ m : List Sel, m.Perm l ∧ sortW m ∧ ys = m.map Sel.row := by
  have e : ys = (ys.map selOf).map Sel.row := by
    rw [List.map_map]
    have : ys.map (Sel.row ∘ selOf) = ys.map id := List.map_congr_left fun x hx => by
      obtain ⟨s, -, rfl⟩ := List.mem_map.1 (hp.subset hx)
      show (selOf s.row).row = s.row
      rw [selOf_row]
    rw [this, List.map_id]
  have hp2 : (ys.map selOf).Perm l := by
    have := hp.map selOf
    rwa [map_selOf] at this
  refine ⟨ys.map selOf, hp2, ?_, e⟩
  generalize ys.map selOf = m at *
  subst e
  refine List.pairwise_iff_getElem.2 fun i j hi hj hij => ?_
  have := ha i j _ _ hij (by rw [List.getElem?_map, List.getElem?_eq_getElem hi]; rfl) (by rw [List.getElem?_map, List.getElem?_eq_getElem hj]; rfl)
  rw [selC_row] at this
  have := ord_anti m[i] m[j]
  omega
theorem comp_succ {S : List Sel} {n : Nat} {x : Sel} (hx : S[n]? = some x) : compD S (n + 1) = compD S n ++ (firstD S n x).toList := by
  unfold compD
  rw [List.range_succ, List.filterMap_append]
  simp only [List.filterMap_cons, List.filterMap_nil, hx, Option.bind_some]
  cases firstD S n x <;> rfl
theorem comp_eq {S : List Sel} {n : Nat} {x y : Sel} (hx : S[n + 1]? = some x) (hy : S[n]? = some y) (h : ordS x y = 0) : compD S (n + 1 + 1) = compD S (n + 1) := by
  rw [comp_succ hx]
  have : firstD S (n + 1) x = none := by
    show (match S[n]? with | some y => if ordS x y = 0 then none else some x | none => some x) = none
    rw [hy]; exact if_pos h
  rw [this]; simp
theorem comp_ne {S : List Sel} {n : Nat} {x y : Sel} (hx : S[n + 1]? = some x) (hy : S[n]? = some y) (h : ordS x y ≠ 0) : compD S (n + 1 + 1) = compD S (n + 1) ++ [x] := by
  rw [comp_succ hx]
  have : firstD S (n + 1) x = some x := by
    show (match S[n]? with | some y => if ordS x y = 0 then none else some x | none => some x) = some x
    rw [hy]; exact if_neg h
  rw [this]; rfl
theorem comp_one {S : List Sel} {x : Sel} (hx : S[0]? = some x) : compD S 1 = [x] := by rw [comp_succ hx]; rfl
end Go.Proofs.YtkbaecjnhmbeeaaGreat.Cw
/-
  How many leaves simple forms have (plain): no more than what they come from.
-/
namespace Go.Proofs.YtkbaecjnhmbeeaaGreat.Cw
open Go Go.Cw Go.Proofs
set_option linter.unusedVariables false
set_option maxRecDepth 100000
set_option maxHeartbeats 1600000
mutual
def lv : Sel → Nat
  | .mk _ _ l => max 1 (lvL l)
def lvL : List Sel → Nat
  | [] => 0
  | x :: l => lv x + lvL l
end
theorem lv_pos (s : Sel) : 1 ≤ lv s := by obtain ⟨k, n, l⟩ := s; rw [lv]; omega
theorem lvL_nil : lvL [] = 0 := by rw [lvL]
theorem lvL_cons {x : Sel} {l : List Sel} : lvL (x :: l) = lv x + lvL l := by rw [lvL]
theorem len_lv : ∀ l : List Sel, l.length ≤ lvL l
  | [] => Nat.zero_le _
  | x :: l => by have := len_lv l; have := lv_pos x; rw [lvL, List.length_cons]; omega
theorem lvL_app : ∀ a b : List Sel, lvL (a ++ b) = lvL a + lvL b
  | [], b => by rw [List.nil_append, lvL_nil]; omega
  | x :: a, b => by rw [List.cons_append, lvL_cons, lvL_cons, lvL_app a b]; omega
theorem lv_kids {s : Sel} : lvL s.kids ≤ lv s := by obtain ⟨k, n, l⟩ := s; rw [lv]; show lvL l ≤ _; omega
theorem lv_mk {k : Int} {n : Str} {l : List Sel} (h : l ≠ []) : lv (.mk k n l) = lvL l := by
  have h1 := len_lv l
  have h2 := List.length_pos_iff.2 h
  rw [lv]; omega
theorem lv_mem : ∀ {l : List Sel} {q : Sel}, q ∈ l → lv q ≤ lvL l
  | x :: l, q, h => by
    rw [lvL]
    rcases List.mem_cons.1 h with rfl | h
    · omega
    · have := lv_mem h; omega
mutual
theorem selL_lv : ∀ (s : Sel), lv s ≤ 9223372036854775807 → SelL s
  | .mk k n l, h => by
    rw [lv] at h
    have h1 := len_lv l
    exact .mk (by omega) (selLL_lv l (by omega))
theorem selLL_lv : ∀ (l : List Sel), lvL l ≤ 9223372036854775807 → ∀ q ∈ l, SelL q
  | [], _, q, hq => by cases hq
  | x :: l, h, q, hq => by
    rw [lvL] at h
    rcases List.mem_cons.1 hq with e | hq
    · exact e ▸ selL_lv x (by omega)
    · exact selLL_lv l (by omega) q hq
end
theorem lv_flat {k : Int} : ∀ l : List Sel, lvL (flatV k l) ≤ lvL l
  | [] => Nat.le_refl _
  | x :: l => by
    have ih := lv_flat (k := k) l
    unfold flatV at *
    rw [List.flatMap_cons, lvL_app, lvL_cons]
    have : lvL (if x.kind = k then x.kids else [x]) ≤ lv x := by
      split
      · exact lv_kids
      · rw [lvL_cons, lvL_nil]; omega
    omega
theorem lv_ins {x : Sel} : ∀ l : List Sel, lvL (insU x l) ≤ lv x + lvL l
  | [] => by rw [insU, lvL_cons, lvL_nil]; omega
  | y :: l => by
    have ih := lv_ins (x := x) l
    rw [insU]
    split
    · rw [lvL_cons]; omega
    · split
      · omega
      · rw [lvL_cons, lvL_cons]; omega
theorem lv_set : ∀ (l a : List Sel), lvL (l.foldl (fun a x => insU x a) a) ≤ lvL l + lvL a
  | [], a => by rw [lvL_nil]; simp
  | x :: l, a => by
    have h1 := lv_set l (insU x a)
    have h2 := lv_ins (x := x) a
    rw [List.foldl_cons, lvL_cons]; omega
theorem lv_setV (l : List Sel) : lvL (setV l) ≤ lvL l := by
  have := lv_set l []
  rw [lvL_nil] at this
  exact this
theorem lv_drop {z : Sel} : ∀ l : List Sel, lvL (dropV z l) ≤ lvL l
  | [] => Nat.le_refl _
  | x :: l => by
    have ih := lv_drop (z := z) l
    unfold dropV at *
    rw [List.filter_cons]
    split
    · rw [lvL_cons, lvL_cons]; omega
    · rw [lvL_cons]; omega
theorem lv_all : lv allQ = 1 := by unfold allQ; rw [lv, lvL_nil]; rfl
theorem lv_none : lv noneQ = 1 := by unfold noneQ; rw [lv, lvL_cons, lv_all, lvL_nil]; rfl
theorem lv_noth {k : Int} : lv (nothV k) = 1 := by unfold nothV; split; exact lv_none; exact lv_all
theorem lv_evry {k : Int} : lv (evryV k) = 1 := by unfold evryV; split; exact lv_all; exact lv_none
theorem lv_pack {k : Int} : ∀ l : List Sel, lv (packV k l) ≤ max 1 (lvL l)
  | [] => by rw [packV, lv_noth]; omega
  | [x] => by rw [packV, lvL_cons, lvL_nil]; omega
  | x :: y :: l => by rw [packV, lv]; omega
theorem lv_join {k : Int} {l : List Sel} : lv (joinV k l) ≤ max 1 (lvL l) := by
  unfold joinV
  split
  · rw [lv_evry]; omega
  · have h1 := lv_pack (k := k) (dropV (nothV k) (setV (flatV k l)))
    have h2 := lv_drop (z := nothV k) (setV (flatV k l))
    have h3 := lv_setV (flatV k l)
    have h4 := lv_flat (k := k) l
    omega
theorem lvL_map {f : Sel → Sel} : ∀ {l : List Sel}, (∀ q ∈ l, lv (f q) ≤ lv q) → lvL (l.map f) ≤ lvL l
  | [], _ => Nat.le_refl _
  | x :: l, h => by
    rw [List.map_cons, lvL_cons, lvL_cons]
    have h1 := h x (List.mem_cons_self ..)
    have h2 := lvL_map fun q hq => h q (List.mem_cons_of_mem _ hq)
    omega
theorem lv_not : ∀ {s : Sel}, IsS s → lv (notV s) ≤ lv s
  | _, .leaf h => by
    rw [notV, if_neg (by omega), if_neg (by omega), if_neg (by omega), lv, lvL_cons, lvL_nil, lv, lvL_nil]; decide
  | _, .not_ (k := k) (n := n) h => by
    rw [notV, if_pos rfl, lv_mk (by simp), lvL_cons, lvL_nil]
    show lv (.mk k n []) ≤ _
    omega
  | _, .join (k := k) (l := l) hk hs hkd ho h2 he hn => by
    have h1 : lvL (notL l) ≤ lvL l := by rw [notL_map]; exact lvL_map fun q hq => lv_not (hs q hq)
    have hne : l ≠ [] := fun e => by rw [e] at h2; simp at h2
    have h3 := len_lv l
    rw [notV, if_neg (by omega), lv_mk hne]
    split
    · have := lv_join (k := 9) (l := notL l); omega
    · rw [if_pos (by omega)]
      have := lv_join (k := 8) (l := notL l); omega
theorem lv_simp : ∀ {s : Sel}, IsR s → lv (simpV s) ≤ lv s
  | _, .leaf h => by
    rw [simpV, if_neg (by omega), if_neg (by omega)]; exact Nat.le_refl _
  | _, .not_ (s := s) h => by
    have h1 := lv_simp h
    have h2 := lv_not (simp_ok h)
    rw [simpV, if_pos rfl, simpL, simpL, lv_mk (by simp), lvL_cons, lvL_nil]
    show lv (notV (simpV s)) ≤ _
    omega
  | _, .join (k := k) (l := l) hk hs h2 => by
    have h1 : lvL (simpL l) ≤ lvL l := by rw [simpL_map]; exact lvL_map fun q hq => lv_simp (hs q hq)
    have hne : l ≠ [] := fun e => by rw [e] at h2; simp at h2
    have h3 := len_lv l
    rw [simpV, if_neg (by omega), if_pos hk, lv_mk hne]
    have := lv_join (k := k) (l := simpL l); omega
mutual
theorem lv_size : ∀ s : Sel, lv s ≤ size s
  | .mk k n l => by have := lvL_size l; rw [lv, size]; omega
theorem lvL_size : ∀ l : List Sel, lvL l ≤ sizeL l
  | [] => by rw [lvL, sizeL]; omega
  | x :: l => by have := lv_size x; have := lvL_size l; rw [lvL, sizeL]; omega
end
theorem name_no {n : Str} (h : nameE n = true) : n = noN := sEq_iff.1 h
theorem sound_isR : ∀ {s : Sel}, SelL s → soundB s = true → IsR s := by
  intro s hs
  induction hs with
  | mk hl hk ih =>
    rename_i k n l
    intro hb
    rw [sound_mk, Bool.and_eq_true] at hb
    obtain ⟨hb1, hb2⟩ := hb
    have hkid : ∀ q ∈ l, IsR q := fun q hq => ih q hq (List.all_eq_true.1 hb1 q hq)
    unfold formB at hb2
    split at hb2
    · subst k
      rw [Bool.and_eq_true] at hb2
      have : l = [] := List.eq_nil_of_length_eq_zero (by have := hb2.2; simp at this; exact this ▸ rfl)
      subst this
      exact .leaf (by decide)
    · split at hb2
      · rw [Bool.and_eq_true] at hb2
        have : l = [] := List.eq_nil_of_length_eq_zero (by have := hb2.2; simp at this; exact this ▸ rfl)
        subst this
        exact .leaf (by omega)
      · split at hb2
        · rw [Bool.and_eq_true] at hb2
          obtain rfl := name_no hb2.1
          exact .join (by assumption) hkid (by have := of_decide_eq_true hb2.2; omega)
        · rw [Bool.and_eq_true, Bool.and_eq_true] at hb2
          obtain ⟨⟨h1, h2⟩, h3⟩ := hb2
          obtain rfl := of_decide_eq_true h1
          obtain rfl := name_no h2
          have h3 : l.length = 1 := by have := eq_of_beq h3; omega
          match l, h3 with
          | [q], _ => exact .not_ (hkid q (List.mem_cons_self ..))
theorem flat_ne {k : Int} {l : List Sel} (hs : ∀ q ∈ l, IsS q) (h : l ≠ []) (hk : k = 8 ∨ k = 9) : flatV k l ≠ [] := by
  cases l with
  | nil => exact absurd rfl h
  | cons x l =>
    unfold flatV
    rw [List.flatMap_cons]
    intro e
    obtain ⟨e1, -⟩ := List.append_eq_nil_iff.1 e
    split at e1
    · have hx := hs x (List.mem_cons_self ..)
      rename_i hxk
      cases hx with
      | leaf g => have hxk : _ = k := hxk; dsimp only [Sel.kind] at hxk; omega
      | not_ g => have hxk : (10 : Int) = k := hxk; omega
      | join g1 g2 g3 g4 g5 g6 g7 =>
        dsimp only [Sel.kids] at e1
        rw [e1] at g5; simp at g5
    · cases e1
end Go.Proofs.YtkbaecjnhmbeeaaGreat.Cw
/-
  The library's functions on a slice of selections that is an object: IndexFunc, ContainsFunc, CompactFunc, DeleteFunc.
-/
namespace Go.Proofs.YtkbaecjnhmbeeaaGreat.Cw
open Go Go.Cw Go.Proofs
set_option linter.unusedVariables false
set_option maxRecDepth 100000
set_option maxHeartbeats 8000000
abbrev selO (R : List (List PV)) : Option AObj := some ⟨52, 3, false, .p R⟩
theorem row_app {X : List Sel} {J : List (List PV)} {i : Nat} {x : Sel} (h : X[i]? = some x) : (X.map Sel.row ++ J)[i]? = some x.row := by
  have hi := (List.getElem?_eq_some_iff.1 h).1
  rw [List.getElem?_append_left (by rw [List.length_map]; exact hi), List.getElem?_map, h]; rfl
theorem c_indexO (X : List Sel) (J : List (List PV)) (f : FuncId) (caps : List PV) (p : Sel → Bool) (hl : X.length ≤ 1000000) (hf : ∀ x ∈ X, PCall Tryz.prog f (ag (Sel.row x) :: pvs caps) (fun r => r = vbool (p x))) :
    ACall Tryz.prog 217 [.ms 0 3 0 X.length, .pv (.fn f caps)] [selO (X.map Sel.row ++ J)] (fun r H' => r = vint .i64 (idxB p X) ∧ H' = [selO (X.map Sel.row ++ J)]) := by
  refine acall_of tok mixed 19 rfl (fn := Tryz.f217) (c := Tryz.f217.body.getD .skip) (by kernel_rfl) (by kernel_rfl) (by kernel_rfl) rfl 1 rfl ?_
  repeat' (first | refine o1 ?_ | refine o2 ?_ | refine k1 ?_ | refine k2 ?_ | refine k4 ?_ | fail)
  refine loop_at (fun i : Nat => [(8, vint .i64 i)]) (fun _ => []) (fun i => i ≤ X.length ∧ ∀ j, j < i → ∀ y, X[j]? = some y → p y = false) (fun i => X.length - i) 0 ⟨by omega, fun j hj => by omega⟩ (by repeat' (first | exact trivial | exact ⟨_, rfl, ALe.refl⟩ | refine And.intro ?_ ?_)) (by repeat' (first | exact trivial | exact rfl | refine And.intro ?_ ?_)) ?_
  intro i ⟨hi, hall⟩
  rcases Nat.lt_or_ge i X.length with hlt | hge
  · obtain ⟨⟨kq, nq, lq⟩, hx⟩ := getE hlt
    have hm := List.mem_of_getElem? hx
    have hcr := row_app (J := J) hx
    repeat' (first | (refine idx_ms i rfl hlt ?_) | (refine ⟨_, hcr, ?_⟩) | refine o1 ?_ | refine o2 ?_ | refine k1 ?_ | refine k2 ?_ | refine k3 ?_ | refine k4 ?_ | refine k6 ?_ | refine k7 ?_ | refine And.intro ?_ ?_ | (intro h; first | exact Bool.noConfusion h | exact nz _ h | exact nl h | (simp at h; done) | (simp at h; first | (exfalso; omega) | skip) | skip) | refine eqv_zero ?_ | refine eqv_wrap (by omega) (by omega) ?_ | (change vcFun _ _ (_ ++ pvs _) _ _; refine call_cap rfl (by repeat' (first | trivial | refine And.intro ?_ ?_ | (show 0 + _ ≤ List.length _; simp))) (hf _ hm) rfl ?_) | fail)
    all_goals first
      | exact ⟨i + 1, ⟨by omega, all_lt_succ hall fun y hy => by rw [hx] at hy; cases hy; assumption⟩, by omega, back [0] rfl rfl ⟨rfl, trivial⟩ (by repeat' (first | exact trivial | exact rfl | refine And.intro ?_ ?_))⟩
      | exact ret_obj [0] [selO (X.map Sel.row ++ J)] rfl rfl ⟨rfl, trivial⟩ (r' := vint .i64 i) rfl ⟨congrArg (vint .i64) (idxB_at hall hx (by assumption)).symm, rfl⟩
  · repeat' (first | refine o1 ?_ | refine o2 ?_ | refine k1 ?_ | refine k2 ?_ | refine k3 ?_ | refine k7 ?_ | refine k8 ?_ | refine And.intro ?_ ?_ | (intro h; first | exact Bool.noConfusion h | exact nz _ h | exact nl h | (simp at h; done) | (simp at h; first | (exfalso; omega) | skip) | skip) | fail)
    all_goals first
      | exact ret_obj [0] [selO (X.map Sel.row ++ J)] rfl rfl ⟨rfl, trivial⟩ (r' := vint .i64 (-1)) rfl ⟨congrArg (vint .i64) (idxB_none fun j hj => hall j (by omega)).symm, rfl⟩
theorem c_anyO (X : List Sel) (J : List (List PV)) (f : FuncId) (caps : List PV) (p : Sel → Bool) (hl : X.length ≤ 1000000) (hf : ∀ x ∈ X, PCall Tryz.prog f (ag (Sel.row x) :: pvs caps) (fun r => r = vbool (p x))) :
    ACall Tryz.prog 112 [.ms 0 3 0 X.length, .pv (.fn f caps)] [selO (X.map Sel.row ++ J)] (fun r H' => r = vbool (X.any p) ∧ H' = [selO (X.map Sel.row ++ J)]) := by
  refine acall_of tok mixed 9 rfl (fn := Tryz.f112) (c := Tryz.f112.body.getD .skip) (by kernel_rfl) (by kernel_rfl) (by kernel_rfl) rfl 1 rfl ?_
  repeat' (first | ((change vcFun _ _ _ _ _; refine call_one (i := 0) rfl (fun _ _ => rfl) [.ms 0 3 0 X.length, .pv (.fn f caps)] rfl (c_indexO X J f caps p hl hf) ?_; rintro r H' ⟨rfl, rfl⟩; refine ⟨_, rfl, fun _ _ => rfl, fun _ _ => rfl, ?_⟩)) | refine o1 ?_ | refine o2 ?_ | refine k1 ?_ | refine k2 ?_ | refine k7 ?_ | fail)
  all_goals first
    | exact ret_obj [0] [selO (X.map Sel.row ++ J)] rfl rfl ⟨rfl, trivial⟩ (r' := vbool (decide (idxB p X ≥ 0))) rfl ⟨congrArg vbool idxB_any, rfl⟩
theorem c_j1 (a b : Sel) (ha : SelL a) (hb : SelL b) : PCall Tryz.prog 211 [ag a.row, ag b.row] (fun r => r = vbool (ordS a b == 0)) := by
  have h := c_ordS a ha b hb
  unfold OrdOk at h
  generalize ordS a b = O at *
  obtain ⟨k, n, l⟩ := a
  obtain ⟨k', n', l'⟩ := b
  rw [row_mk, row_mk] at *
  refine acall_of tok mixed 9 rfl (fn := Tryz.f211) (c := Tryz.f211.body.getD .skip) (by kernel_rfl) (by kernel_rfl) (by kernel_rfl) rfl 0 rfl ?_
  repeat' (first | refine o1 ?_ | refine o2 ?_ | refine k1 ?_ | refine k2 ?_ | refine k7 ?_ | (change retOk _ _ _ _; refine ret_pure rfl trivial ?_) | (change vcFun _ _ _ _ _; refine call_eq rfl (by repeat' (first | trivial | refine And.intro ?_ ?_ | (show 0 + _ ≤ List.length _; simp))) ALeL.refl (h) rfl ?_) | fail)
  all_goals first
    | rfl
theorem c_j2a (k : Int) (n : Str) : PCall Tryz.prog 212 [ag [ei k, es n, .val (.slice none 0 0)]] (fun r => r = .pv (.fn 213 [.ia [ei k, es n, .val (.slice none 0 0)]])) := by
  refine acall_of tok mixed 4 rfl (fn := Tryz.f212) (c := Tryz.f212.body.getD .skip) (by kernel_rfl) (by kernel_rfl) (by kernel_rfl) rfl 0 rfl ?_
  repeat' (first | refine o1 ?_ | refine o2 ?_ | refine k1 ?_ | refine k2 ?_ | refine k7 ?_ | fail)
  all_goals first
    | rfl
    | (change retOk _ _ _ _; refine ret_pure rfl (by repeat' (first | exact True.intro | refine And.intro ?_ ?_)) ?_; rfl)
theorem c_j21a (a b : Sel) (ha : SelL a) (hb : SelL b) (kc : Int) (nc : Str) (hcs : PLeL [ei kc, es nc, .val (.slice none 0 0)] b.row) : PCall Tryz.prog 213 [ag a.row, .pv (.ia [ei kc, es nc, .val (.slice none 0 0)])] (fun r => r = vbool (ordS a b == 0)) := by
  have h := c_ordS a ha b hb
  unfold OrdOk at h
  generalize ordS a b = O at *
  obtain ⟨k, n, l⟩ := a
  obtain ⟨k', n', l'⟩ := b
  rw [row_mk, row_mk] at *
  refine acall_of tok mixed 8 rfl (fn := Tryz.f213) (c := Tryz.f213.body.getD .skip) (by kernel_rfl) (by kernel_rfl) (by kernel_rfl) rfl 0 rfl ?_
  have hle : ALeL [ag [ei k, es n, .sl 3 (l.map Sel.row)], ag [ei kc, es nc, .val (.slice none 0 0)]] [ag [ei k, es n, .sl 3 (l.map Sel.row)], ag [ei k', es n', .sl 3 (l'.map Sel.row)]] := ⟨ALe.refl, ALe.agg (ALe.pvs hcs), trivial⟩
  repeat' (first | refine o1 ?_ | refine o2 ?_ | refine k1 ?_ | refine k2 ?_ | fail)
  change vcFun _ _ _ _ _
  refine call_eq rfl (by repeat' (first | trivial)) hle h rfl ?_
  repeat' (first | refine o1 ?_ | refine o2 ?_ | refine k7 ?_ | (change retOk _ _ _ _; refine ret_pure rfl trivial ?_) | fail)
  rfl
theorem c_j2b (k : Int) (n : Str) (X : List (List PV)): PCall Tryz.prog 212 [ag [ei k, es n, .sl 3 X]] (fun r => r = .pv (.fn 213 [.ia [ei k, es n, .sl 3 X]])) := by
  refine acall_of tok mixed 4 rfl (fn := Tryz.f212) (c := Tryz.f212.body.getD .skip) (by kernel_rfl) (by kernel_rfl) (by kernel_rfl) rfl 0 rfl ?_
  repeat' (first | refine o1 ?_ | refine o2 ?_ | refine k1 ?_ | refine k2 ?_ | refine k7 ?_ | fail)
  all_goals first
    | rfl
    | (change retOk _ _ _ _; refine ret_pure rfl (by repeat' (first | exact True.intro | refine And.intro ?_ ?_)) ?_; rfl)
theorem c_j21b (a b : Sel) (ha : SelL a) (hb : SelL b) (kc : Int) (nc : Str) (X : List (List PV))(hcs : PLeL [ei kc, es nc, .sl 3 X] b.row) : PCall Tryz.prog 213 [ag a.row, .pv (.ia [ei kc, es nc, .sl 3 X])] (fun r => r = vbool (ordS a b == 0)) := by
  have h := c_ordS a ha b hb
  unfold OrdOk at h
  generalize ordS a b = O at *
  obtain ⟨k, n, l⟩ := a
  obtain ⟨k', n', l'⟩ := b
  rw [row_mk, row_mk] at *
  refine acall_of tok mixed 8 rfl (fn := Tryz.f213) (c := Tryz.f213.body.getD .skip) (by kernel_rfl) (by kernel_rfl) (by kernel_rfl) rfl 0 rfl ?_
  have hle : ALeL [ag [ei k, es n, .sl 3 (l.map Sel.row)], ag [ei kc, es nc, .sl 3 X]] [ag [ei k, es n, .sl 3 (l.map Sel.row)], ag [ei k', es n', .sl 3 (l'.map Sel.row)]] := ⟨ALe.refl, ALe.agg (ALe.pvs hcs), trivial⟩
  repeat' (first | refine o1 ?_ | refine o2 ?_ | refine k1 ?_ | refine k2 ?_ | fail)
  change vcFun _ _ _ _ _
  refine call_eq rfl (by repeat' (first | trivial)) hle h rfl ?_
  repeat' (first | refine o1 ?_ | refine o2 ?_ | refine k7 ?_ | (change retOk _ _ _ _; refine ret_pure rfl trivial ?_) | fail)
  rfl
end Go.Proofs.YtkbaecjnhmbeeaaGreat.Cw
/-
  slices.CompactFunc and slices.DeleteFunc on a slice of selections that is an object.
-/
namespace Go.Proofs.YtkbaecjnhmbeeaaGreat.Cw
open Go Go.Cw Go.Proofs
set_option linter.unusedVariables false
set_option maxRecDepth 100000
set_option maxHeartbeats 8000000
theorem mid_get {C D : List Sel} {J : List (List PV)} {c j : Nat} {x : Sel} (hc : C.length = c) (hj : c ≤ j) (h : D[j]? = some x) : (C.map Sel.row ++ (D.drop c).map Sel.row ++ J)[j]? = some x.row := by
  have h1 : ((D.drop c).map Sel.row)[j - c]? = some x.row := by
    rw [List.getElem?_map, List.getElem?_drop, show c + (j - c) = j by omega, h]; rfl
  have h2 := (List.getElem?_eq_some_iff.1 h1).1
  rw [List.append_assoc, List.getElem?_append_right (by rw [List.length_map]; omega), List.length_map, hc, List.getElem?_append_left h2]
  exact h1
theorem mid_set {C D : List Sel} {J : List (List PV)} {c : Nat} {x : Sel} {r : List PV} (hc : C.length = c) (h : c < D.length) (hr : r = x.row) : (C.map Sel.row ++ (D.drop c).map Sel.row ++ J).set c r = (C ++ [x]).map Sel.row ++ (D.drop (c + 1)).map Sel.row ++ J := by
  subst hr
  rw [List.drop_eq_getElem_cons h, List.map_cons, List.append_assoc, List.set_append_right _ _ (by rw [List.length_map]; omega), List.length_map, hc, Nat.sub_self, List.cons_append, List.set_cons_zero, List.map_append]
  simp
theorem mid_len {C D : List Sel} {J : List (List PV)} {c : Nat} (hc : C.length = c) (h : c ≤ D.length) : (C.map Sel.row ++ (D.drop c).map Sel.row ++ J).length = D.length + J.length := by
  simp; omega
theorem mid_clear {C : List Sel} {A B J D : List (List PV)} {c : Nat} (hc : C.length = c) : (C.map Sel.row ++ A ++ J).take c ++ B ++ D = C.map Sel.row ++ (B ++ D) := by
  rw [List.append_assoc, List.append_assoc, List.take_left' (by rw [List.length_map]; exact hc)]
theorem c_compactO (S : List Sel) (hs : ∀ x ∈ S, SelL x) (h0 : S ≠ []) (hl : S.length ≤ 1000000) :
    ACall Tryz.prog 210 [.ms 0 3 0 S.length, .pv (.fn 211 [])] [selO (S.map Sel.row)] (fun r H' => r = .ms 0 3 0 (compD S S.length).length ∧ ∃ J, H' = [selO ((compD S S.length).map Sel.row ++ J)]) := by
  have h0l := List.length_pos_iff.2 h0
  obtain ⟨x0, hx0⟩ := getE h0l
  have hc1 := comp_one hx0
  have ht1 : S.take 1 = [x0] := by rw [take_snoc hx0]; rfl
  refine acall_of tok mixed 66 rfl (fn := Tryz.f210) (c := Tryz.f210.body.getD .skip) (by kernel_rfl) (by kernel_rfl) (by kernel_rfl) rfl 1 rfl ?_
  repeat' (first | refine o1 ?_ | refine o2 ?_ | refine k1 ?_ | refine k2 ?_ | refine k3 ?_ | refine k4 ?_ | refine k6 ?_ | refine k7 ?_ | refine And.intro ?_ ?_ | (intro h; first | exact Bool.noConfusion h | exact nz _ h | exact nl h | (simp at h; done) | (simp at h; first | (exfalso; omega) | skip) | skip) | fail)
  · have e : compD S S.length = S := by
      rw [show S.length = 1 by omega, hc1, ← ht1, List.take_of_length_le (by omega)]
    exact ret_obj [0] [selO (S.map Sel.row)] rfl rfl ⟨rfl, trivial⟩ (r' := .ms 0 3 0 S.length) rfl ⟨by rw [e], [], by rw [e, List.append_nil]⟩
  refine loop_at (fun k : Nat => [(5, vint .i64 k)]) (fun _ => []) (fun k => 1 ≤ k ∧ k ≤ S.length ∧ compD S k = S.take k) (fun k => S.length - k) 1 ⟨Nat.le_refl _, by omega, by rw [hc1, ht1]⟩ (by repeat' (first | exact trivial | exact ⟨_, rfl, ALe.refl⟩ | refine And.intro ?_ ?_)) (by repeat' (first | exact trivial | exact rfl | refine And.intro ?_ ?_)) ?_
  intro k ⟨hk1, hk, hck⟩
  obtain ⟨q, rfl⟩ : ∃ q, k = q + 1 := ⟨k - 1, by omega⟩
  rcases Nat.lt_or_ge (q + 1) S.length with hlt | hge
  · obtain ⟨x, hx⟩ := getE hlt
    obtain ⟨y, hy⟩ := getE (show q < S.length by omega)
    have hc := c_j1 x y (hs x (List.mem_of_getElem? hx)) (hs y (List.mem_of_getElem? hy))
    have he := comp_eq hx hy
    have hne := comp_ne hx hy
    have hxr := row_app (J := []) hx
    have hyr := row_app (J := []) hy
    rw [List.append_nil] at hxr hyr
    obtain ⟨kx, nx, lx⟩ := x
    obtain ⟨ky, ny, ly⟩ := y
    generalize ordS (.mk kx nx lx) (.mk ky ny ly) = z at *
    by_cases hz : z = 0
    · obtain rfl : z = 0 := hz
      repeat' (first | (refine idx_ms (q + 1) rfl hlt ?_) | (refine idx_ms q (by omega) (by omega) ?_) | (refine ⟨_, hxr, ?_⟩) | (refine ⟨_, hyr, ?_⟩) | (refine ⟨q + 1, S.length, rfl, rfl, by omega, Nat.le_refl _, eqv_to (q + 1) (Nat.zero_add _) (eqv_rfl ?_)⟩) | refine o1 ?_ | refine o2 ?_ | refine k1 ?_ | refine k2 ?_ | refine k3 ?_ | refine k4 ?_ | refine k6 ?_ | refine And.intro ?_ ?_ | refine o3 ?_ | refine o4 ?_ | (intro h; first | exact Bool.noConfusion h | exact nz _ h | exact nl h | (simp at h; done) | (simp at h; first | (exfalso; omega) | skip) | skip) | exact (by kernel_rfl : drawOk _ _ = true) | refine eqv_zero ?_ | refine eqv_wrap (by omega) (by omega) ?_ | (change vcFunD _ _ _ _ _; refine callD_eq rfl (by repeat' (first | trivial | refine And.intro ?_ ?_ | (show 0 + _ ≤ List.length _; simp))) ALeL.refl (hc) rfl ?_) | fail)
      have hC1 : compD S (q + 1 + 1) = S.take (q + 1) := (he rfl).trans hck
      have hC1l : (compD S (q + 1 + 1)).length = q + 1 := by rw [hC1, List.length_take, Nat.min_eq_left (by omega)]
      have hR1 : (compD S (q + 1 + 1)).map Sel.row ++ (S.drop (compD S (q + 1 + 1)).length).map Sel.row ++ [] = S.map Sel.row := by
        rw [hC1l, hC1, List.append_nil, ← List.map_append, List.take_append_drop]
      refine loop_at (fun k2 : Nat => [(5, vint .i64 ((compD S (q + 1 + k2)).length : Nat)), (7, vint .i64 k2)]) (fun k2 => [(0, some (.p ((compD S (q + 1 + k2)).map Sel.row ++ (S.drop (compD S (q + 1 + k2)).length).map Sel.row ++ [])))]) (fun k2 => 1 ≤ k2 ∧ q + 1 + k2 ≤ S.length ∧ (compD S (q + 1 + k2)).length ≤ q + k2) (fun k2 => S.length - (q + 1) - k2) 1 ⟨Nat.le_refl _, by omega, by omega⟩ ?_ ?_ ?_
      · exact ⟨⟨_, rfl, (congrArg (fun n : Nat => vint .i64 n) hC1l) ▸ ALe.refl⟩, ⟨_, rfl, ALe.refl⟩, trivial⟩
      · show subH [selO _] [selO _]
        rw [hR1]; exact subH_refl _
      intro k2 ⟨hk2, hp, hcl⟩
      obtain ⟨j, rfl⟩ : ∃ j, k2 = j + 1 := ⟨k2 - 1, by omega⟩
      clear hx hy hxr hyr he hne hc hC1 hC1l hR1
      rcases Nat.lt_or_ge (q + 1 + (j + 1)) S.length with hlt2 | hge2
      · obtain ⟨u, hu⟩ := getE hlt2
        obtain ⟨v, hv⟩ := getE (show q + 1 + j < S.length by omega)
        have hc := c_j1 u v (hs u (List.mem_of_getElem? hu)) (hs v (List.mem_of_getElem? hv))
        have he := comp_eq (n := q + 1 + j) hu hv
        have hne := comp_ne (n := q + 1 + j) hu hv
        have he : ordS u v = 0 → compD S (q + 1 + (j + 1 + 1)) = compD S (q + 1 + (j + 1)) := he
        have hne : ordS u v ≠ 0 → compD S (q + 1 + (j + 1 + 1)) = compD S (q + 1 + (j + 1)) ++ [u] := hne
        generalize hC2 : compD S (q + 1 + (j + 1 + 1)) = C2 at *
        generalize hC : compD S (q + 1 + (j + 1)) = C at *
        obtain ⟨⟨kw, nw, lw⟩, hw⟩ := getE (show C.length < S.length by omega)
        have hwr := mid_get (C := C) (J := []) rfl (Nat.le_refl _) hw
        have hur := mid_get (C := C) (J := []) rfl (show C.length ≤ q + 1 + (j + 1) by omega) hu
        have hvr := mid_get (C := C) (J := []) rfl (show C.length ≤ q + 1 + j by omega) hv
        have hset := fun r hr => mid_set (C := C) (D := S) (J := []) (x := u) (r := r) rfl (by omega) hr
        have hml := mid_len (C := C) (D := S) (J := []) rfl (by omega)
        obtain ⟨ku, nu, lu⟩ := u
        obtain ⟨kv, nv, lv'⟩ := v
        generalize ordS (.mk ku nu lu) (.mk kv nv lv') = z at *
        generalize hR : C.map Sel.row ++ (S.drop C.length).map Sel.row ++ [] = R at *
        repeat' (first | (refine idx_ms (j + 1) rfl (by omega) ?_) | (refine idx_ms j (by omega) (by omega) ?_) | (refine idx_ms C.length rfl (by omega) ?_) | (refine ⟨_, hur, ?_⟩) | (refine ⟨_, hvr, ?_⟩) | (refine (eqv_rfl ?_ : eqv (q + 1 + (j + 1)) _)) | (refine (eqv_rfl ?_ : eqv (q + 1 + j) _)) | (refine ⟨_, hwr, (Nat.le_of_ble_eq_true rfl), ?_⟩) | (refine eqv_to _ (hset _ rfl) ?_) | refine o1 ?_ | refine o2 ?_ | refine k1 ?_ | refine k2 ?_ | refine k3 ?_ | refine k4 ?_ | refine k6 ?_ | refine And.intro ?_ ?_ | refine o3 ?_ | refine o4 ?_ | (intro h; first | exact Bool.noConfusion h | exact nz _ h | exact nl h | (simp at h; done) | (simp at h; first | (exfalso; omega) | skip) | skip) | exact (by kernel_rfl : drawOk _ _ = true) | refine eqv_zero ?_ | refine eqv_wrap (by omega) (by omega) ?_ | (change vcFunD _ _ _ _ _; refine callD_eq rfl (by repeat' (first | trivial | refine And.intro ?_ ?_ | (show 0 + _ ≤ List.length _; simp))) ALeL.refl (hc) rfl ?_) | fail)
        · have hz : z ≠ 0 := by first | assumption | omega
          have e2 := hC2.trans (hne hz)
          have hl2 : (C ++ [Sel.mk ku nu lu]).length = C.length + 1 := by simp
          refine ⟨j + 1 + 1, ⟨by omega, by omega, by rw [e2, hl2]; omega⟩, by omega, ?_⟩
          rw [e2, hl2]
          exact back [0] rfl rfl ⟨rfl, trivial⟩ (by repeat' (first | exact trivial | exact rfl | refine And.intro ?_ ?_))
        · have hz : z = 0 := by first | assumption | omega
          have e2 := hC2.trans (he hz)
          refine ⟨j + 1 + 1, ⟨by omega, by omega, by rw [e2]; omega⟩, by omega, ?_⟩
          rw [e2, hR]
          exact back [0] rfl rfl ⟨rfl, trivial⟩ (by repeat' (first | exact trivial | exact rfl | refine And.intro ?_ ?_))
      · have hpe : q + 1 + (j + 1) = S.length := by omega
        rw [hpe] at hcl ⊢
        generalize compD S S.length = C at *
        have hml := mid_len (C := C) (D := S) (J := []) rfl (by omega)
        repeat' (first | (refine ⟨C.length, S.length, rfl, rfl, by omega, Nat.le_refl _, eqv_to C.length (Nat.zero_add _) (eqv_rfl ?_)⟩) | (exact (show 0 < S.length - C.length by omega)) | (exact (show C.length + (S.length - C.length) ≤ (C.map Sel.row ++ (S.drop C.length).map Sel.row ++ []).length by rw [hml, List.length_nil]; omega)) | (refine eqv_to _ (mid_clear rfl) ?_) | (refine ⟨0, C.length, rfl, rfl, Nat.zero_le _, by omega, eqv_to 0 rfl (eqv_rfl ?_)⟩) | refine o1 ?_ | refine o2 ?_ | refine k1 ?_ | refine k2 ?_ | refine k3 ?_ | refine k7 ?_ | refine k8 ?_ | refine And.intro ?_ ?_ | (intro h; first | exact Bool.noConfusion h | exact nz _ h | exact nl h | (simp at h; done) | (simp at h; first | (exfalso; omega) | skip) | skip) | exact (by kernel_rfl : drawOk _ _ = true) | fail)
        exact ret_obj [0] [selO (C.map Sel.row ++ _)] rfl rfl ⟨rfl, trivial⟩ (r' := .ms 0 3 0 C.length) rfl ⟨rfl, _, rfl⟩
    · have hb : (z == 0) = false := beq_eq_false_iff_ne.2 hz
      rw [hb] at hc
      repeat' (first | (refine idx_ms (q + 1) rfl hlt ?_) | (refine idx_ms q (by omega) (by omega) ?_) | (refine ⟨_, hxr, ?_⟩) | (refine ⟨_, hyr, ?_⟩) | refine o1 ?_ | refine o2 ?_ | refine k1 ?_ | refine k2 ?_ | refine k3 ?_ | refine k4 ?_ | refine k6 ?_ | refine And.intro ?_ ?_ | refine o3 ?_ | refine o4 ?_ | (intro h; first | exact Bool.noConfusion h | exact nz _ h | exact nl h | (simp at h; done) | (simp at h; first | (exfalso; omega) | skip) | skip) | exact (by kernel_rfl : drawOk _ _ = true) | refine eqv_zero ?_ | refine eqv_wrap (by omega) (by omega) ?_ | (change vcFunD _ _ _ _ _; refine callD_eq rfl (by repeat' (first | trivial | refine And.intro ?_ ?_ | (show 0 + _ ≤ List.length _; simp))) ALeL.refl (hc) rfl ?_) | fail)
      all_goals first
        | exact ⟨q + 1 + 1, ⟨by omega, by omega, by rw [hne hz, take_snoc hx, hck]⟩, by omega, back [0] rfl rfl ⟨rfl, trivial⟩ (by repeat' (first | exact trivial | exact rfl | refine And.intro ?_ ?_))⟩
  · have hkS : q + 1 = S.length := by omega
    rw [hkS, List.take_length] at hck
    repeat' (first | refine o1 ?_ | refine o2 ?_ | refine k1 ?_ | refine k2 ?_ | refine k3 ?_ | refine k7 ?_ | refine k8 ?_ | refine And.intro ?_ ?_ | (intro h; first | exact Bool.noConfusion h | exact nz _ h | exact nl h | (simp at h; done) | (simp at h; first | (exfalso; omega) | skip) | skip) | fail)
    all_goals first
      | (exfalso; omega)
      | exact ret_obj [0] [selO (S.map Sel.row)] rfl rfl ⟨rfl, trivial⟩ (r' := .ms 0 3 0 S.length) rfl ⟨by rw [hck], [], by rw [hck, List.append_nil]⟩
def keepF (p : Sel → Bool) (l : List Sel) : List Sel := l.filter fun x => !p x
theorem keep_snoc {p : Sel → Bool} {X : List Sel} {j : Nat} {x : Sel} (hx : X[j]? = some x) : keepF p (X.take (j + 1)) = if p x then keepF p (X.take j) else keepF p (X.take j) ++ [x] := by
  unfold keepF
  rw [take_snoc hx, List.filter_append, List.filter_cons]
  cases p x <;> simp
theorem keep_all {p : Sel → Bool} {l : List Sel} (h : ∀ j, j < l.length → ∀ y, l[j]? = some y → p y = false) : keepF p l = l := List.filter_eq_self.2 fun x hx => by
  obtain ⟨j, hj⟩ := List.getElem?_of_mem hx
  rw [h j (List.getElem?_eq_some_iff.1 hj).1 x hj]; rfl
theorem c_deleteO (X : List Sel) (J : List (List PV)) (f : FuncId) (caps : List PV) (p : Sel → Bool) (hl : X.length ≤ 1000000) (hf : ∀ x ∈ X, PCall Tryz.prog f (ag (Sel.row x) :: pvs caps) (fun r => r = vbool (p x))) :
    ACall Tryz.prog 214 [.ms 0 3 0 X.length, .pv (.fn f caps)] [selO (X.map Sel.row ++ J)] (fun r H' => r = .ms 0 3 0 (keepF p X).length ∧ ∃ J, H' = [selO ((keepF p X).map Sel.row ++ J)]) := by
  have hi := c_indexO X J f caps p hl hf
  have hcase : (idxB p X = -1 ∧ keepF p X = X) ∨ ∃ (i : Nat) (x : Sel), idxB p X = i ∧ X[i]? = some x ∧ keepF p (X.take (i + 1)) = X.take i := by
    rcases Int.lt_or_le (idxB p X) 0 with h | h
    · have h0 : X.findIdx? p = none := by
        cases e : X.findIdx? p with
        | none => rfl
        | some i => unfold idxB at h; rw [e] at h; simp only at h; omega
      have h1 : ∀ j, j < X.length → ∀ y, X[j]? = some y → p y = false := fun j hj y hy => by
        have := List.findIdx?_eq_none_iff.1 h0 y (List.mem_of_getElem? hy)
        simpa using this
      exact .inl ⟨idxB_none h1, keep_all h1⟩
    · unfold idxB at h
      cases e : X.findIdx? p with
      | none => rw [e] at h; simp only at h; omega
      | some i =>
        obtain ⟨h1, h2, h3⟩ := List.findIdx?_eq_some_iff_getElem.1 e
        refine .inr ⟨i, X[i], by unfold idxB; rw [e], List.getElem?_eq_getElem h1, ?_⟩
        rw [keep_snoc (List.getElem?_eq_getElem h1), if_pos h2]
        refine keep_all fun j hj y hy => ?_
        rw [List.length_take] at hj
        rw [List.getElem?_take_of_lt (by omega)] at hy
        obtain ⟨g1, rfl⟩ := List.getElem?_eq_some_iff.1 hy
        have := h3 j (by omega)
        simpa using this
  rcases hcase with ⟨e, hk⟩ | ⟨i, x, e, hx, hk⟩
  · rw [e] at hi
    rw [hk]
    refine acall_of tok mixed 42 rfl (fn := Tryz.f214) (c := Tryz.f214.body.getD .skip) (by kernel_rfl) (by kernel_rfl) (by kernel_rfl) rfl 1 rfl ?_
    repeat' (first | ((change vcFun _ _ _ _ _; refine call_one (i := 0) rfl (fun _ _ => rfl) [.ms 0 3 0 X.length, .pv (.fn f caps)] rfl hi ?_; rintro r H' ⟨rfl, rfl⟩; refine ⟨_, rfl, fun _ _ => rfl, fun _ _ => rfl, ?_⟩)) | refine o1 ?_ | refine o2 ?_ | refine k1 ?_ | refine k2 ?_ | refine k3 ?_ | refine k7 ?_ | refine And.intro ?_ ?_ | (intro h; first | exact Bool.noConfusion h | exact nz _ h | exact nl h | (simp at h; done) | (simp at h; first | (exfalso; omega) | skip) | skip) | fail)
    all_goals first
      | exact ret_obj [0] [selO (X.map Sel.row ++ J)] rfl rfl ⟨rfl, trivial⟩ (r' := .ms 0 3 0 X.length) rfl ⟨rfl, _, rfl⟩
  · rw [e] at hi
    have hil := (List.getElem?_eq_some_iff.1 hx).1
    refine acall_of tok mixed 42 rfl (fn := Tryz.f214) (c := Tryz.f214.body.getD .skip) (by kernel_rfl) (by kernel_rfl) (by kernel_rfl) rfl 1 rfl ?_
    repeat' (first | ((change vcFun _ _ _ _ _; refine call_one (i := 0) rfl (fun _ _ => rfl) [.ms 0 3 0 X.length, .pv (.fn f caps)] rfl hi ?_; rintro r H' ⟨rfl, rfl⟩; refine ⟨_, rfl, fun _ _ => rfl, fun _ _ => rfl, ?_⟩)) | refine o1 ?_ | refine o2 ?_ | refine k1 ?_ | refine k2 ?_ | refine k3 ?_ | refine k4 ?_ | refine k6 ?_ | refine And.intro ?_ ?_ | (intro h; first | exact Bool.noConfusion h | exact nz _ h | exact nl h | (simp at h; done) | (simp at h; first | (exfalso; omega) | skip) | skip) | refine eqv_wrap (by omega) (by omega) ?_ | fail)
    all_goals try (exfalso; omega)
    have hK1l : (keepF p (X.take (i + 1))).length = i := by rw [hk, List.length_take, Nat.min_eq_left (by omega)]
    have hR1 : (keepF p (X.take (i + 1))).map Sel.row ++ (X.drop (keepF p (X.take (i + 1))).length).map Sel.row ++ J = X.map Sel.row ++ J := by
      rw [hK1l, hk, ← List.map_append, List.take_append_drop]
    refine loop_at (fun j : Nat => [(5, vint .i64 ((keepF p (X.take j)).length : Nat)), (6, vint .i64 j)]) (fun j => [(0, some (.p ((keepF p (X.take j)).map Sel.row ++ (X.drop (keepF p (X.take j)).length).map Sel.row ++ J)))]) (fun j => i + 1 ≤ j ∧ j ≤ X.length ∧ (keepF p (X.take j)).length < j) (fun j => X.length - j) (i + 1) ⟨Nat.le_refl _, by omega, by omega⟩ ?_ ?_ ?_
    · exact ⟨⟨_, rfl, (congrArg (fun n : Nat => vint .i64 n) hK1l) ▸ ALe.refl⟩, ⟨_, rfl, ALe.refl⟩, trivial⟩
    · show subH [selO _] [selO _]
      rw [hR1]; exact subH_refl _
    intro j ⟨hij, hj, hcl⟩
    rcases Nat.lt_or_ge j X.length with hlt | hge
    · obtain ⟨u, hu⟩ := getE hlt
      have hc := hf u (List.mem_of_getElem? hu)
      have hsn := keep_snoc (p := p) hu
      generalize hC2 : keepF p (X.take (j + 1)) = C2 at *
      generalize hC : keepF p (X.take j) = C at *
      obtain ⟨⟨kw, nw, lw⟩, hw⟩ := getE (show C.length < X.length by omega)
      have hwr := mid_get (C := C) (J := J) rfl (Nat.le_refl _) hw
      have hur := mid_get (C := C) (J := J) rfl (show C.length ≤ j by omega) hu
      have hset := fun r hr => mid_set (C := C) (D := X) (J := J) (x := u) (r := r) rfl (by omega) hr
      have hml := mid_len (C := C) (D := X) (J := J) rfl (by omega)
      generalize hpu : p u = B at *
      obtain ⟨ku, nu, lu⟩ := u
      generalize hR : C.map Sel.row ++ (X.drop C.length).map Sel.row ++ J = R at *
      repeat' (first | (refine idx_ms j rfl (by omega) ?_) | (refine idx_ms C.length rfl (by omega) ?_) | (refine ⟨_, hur, ?_⟩) | (refine ⟨_, hwr, (Nat.le_of_ble_eq_true rfl), ?_⟩) | (refine eqv_to _ (hset _ rfl) ?_) | refine o1 ?_ | refine o2 ?_ | refine k1 ?_ | refine k2 ?_ | refine k3 ?_ | refine k4 ?_ | refine k6 ?_ | refine And.intro ?_ ?_ | (intro h; first | exact Bool.noConfusion h | exact nz _ h | exact nl h | (simp at h; done) | (simp at h; first | (exfalso; omega) | skip) | skip) | exact (by kernel_rfl : drawOk _ _ = true) | refine eqv_zero ?_ | refine eqv_wrap (by omega) (by omega) ?_ | (change vcFun _ _ (_ ++ pvs _) _ _; refine call_cap rfl (by repeat' (first | trivial | refine And.intro ?_ ?_ | (show 0 + _ ≤ List.length _; simp))) (hc) rfl ?_) | fail)
      · have e2 := hC2.trans (hsn.trans (if_neg (by rw [(by assumption : B = false)]; decide)))
        have hl2 : (C ++ [Sel.mk ku nu lu]).length = C.length + 1 := by simp
        refine ⟨j + 1, ⟨by omega, by omega, by rw [e2, hl2]; omega⟩, by omega, ?_⟩
        rw [e2, hl2]
        exact back [0] rfl rfl ⟨rfl, trivial⟩ (by repeat' (first | exact trivial | exact rfl | refine And.intro ?_ ?_))
      · have e2 := hC2.trans (hsn.trans (if_pos (by assumption)))
        refine ⟨j + 1, ⟨by omega, by omega, by rw [e2]; omega⟩, by omega, ?_⟩
        rw [e2, hR]
        exact back [0] rfl rfl ⟨rfl, trivial⟩ (by repeat' (first | exact trivial | exact rfl | refine And.intro ?_ ?_))
    · obtain rfl : j = X.length := by omega
      rw [List.take_length] at *
      generalize keepF p X = C at *
      have hml := mid_len (C := C) (D := X) (J := J) rfl (by omega)
      repeat' (first | (refine ⟨C.length, X.length, rfl, rfl, by omega, Nat.le_refl _, eqv_to C.length (Nat.zero_add _) (eqv_rfl ?_)⟩) | (exact (show 0 < X.length - C.length by omega)) | (exact (show C.length + (X.length - C.length) ≤ (C.map Sel.row ++ (X.drop C.length).map Sel.row ++ J).length by rw [hml]; omega)) | (refine eqv_to _ (mid_clear rfl) ?_) | (refine ⟨0, C.length, rfl, rfl, Nat.zero_le _, by omega, eqv_to 0 rfl (eqv_rfl ?_)⟩) | refine o1 ?_ | refine o2 ?_ | refine k1 ?_ | refine k2 ?_ | refine k3 ?_ | refine k7 ?_ | refine k8 ?_ | refine And.intro ?_ ?_ | (intro h; first | exact Bool.noConfusion h | exact nz _ h | exact nl h | (simp at h; done) | (simp at h; first | (exfalso; omega) | skip) | skip) | exact (by kernel_rfl : drawOk _ _ = true) | fail)
      exact ret_obj [0] [selO (C.map Sel.row ++ _)] rfl rfl ⟨rfl, trivial⟩ (r' := .ms 0 3 0 C.length) rfl ⟨rfl, _, rfl⟩
end Go.Proofs.YtkbaecjnhmbeeaaGreat.Cw
/-
  Selections by the reference: the order, equality, and simple selections built by hand.
-/
namespace Go.Proofs.YtkbaecjnhmbeeaaGreat.Cw
open Go Go.Cw Go.Proofs
set_option linter.unusedVariables false
set_option maxRecDepth 100000
set_option maxHeartbeats 8000000
def ROrdOk (a b : Sel) : Prop := PCall Tryz.prog 44 [ag a.row, ag b.row] (fun r => r = vint .i64 (ordS a b))
theorem ord_kl {k k' : Int} {n n' : Str} {l l' : List Sel} (h : k < k') : ordS (.mk k n l) (.mk k' n' l') = -1 := by
  rw [ordS]; unfold cmpI; rw [if_pos h]; rfl
theorem ord_kg {k k' : Int} {n n' : Str} {l l' : List Sel} (h : k > k') : ordS (.mk k n l) (.mk k' n' l') = 1 := by
  have e : cmpI k k' = 1 := by unfold cmpI; rw [if_neg (by omega), if_pos h]
  rw [ordS, e]; rfl
theorem ord_nl {k k' : Int} {n n' : Str} {l l' : List Sel} (h1 : ¬ k < k') (h2 : ¬ k > k') (h : sLt n n' = true) : ordS (.mk k n l) (.mk k' n' l') = -1 := by
  obtain rfl : k = k' := by omega
  rw [ordS, cmpI_self]; unfold cmpN; rw [if_pos h]; rfl
theorem ord_ng {k k' : Int} {n n' : Str} {l l' : List Sel} (h1 : ¬ k < k') (h2 : ¬ k > k') (h : sLt n n' = false) (h3 : sLe n n' = false) : ordS (.mk k n l) (.mk k' n' l') = 1 := by
  obtain rfl : k = k' := by omega
  have e : cmpN n n' = 1 := by unfold cmpN; rw [if_neg (by simp [h]), if_pos (sLe_f h3)]
  rw [ordS, cmpI_self, e]; rfl
theorem ord_kk {k k' : Int} {n n' : Str} {l l' : List Sel} (h1 : ¬ k < k') (h2 : ¬ k > k') (h : sLt n n' = false) (h3 : sLe n n' = true) : ordS (.mk k n l) (.mk k' n' l') = ordL l l' := by
  obtain rfl : k = k' := by omega
  have e : cmpN n n' = 0 := by unfold cmpN; rw [if_neg (by simp [h]), if_neg (by simp [sLe_t h3])]
  rw [ordS, cmpI_self, e]; rfl
theorem c_rord : ∀ (a : Sel) (ha : SelL a) (b : Sel) (hb : SelL b), ROrdOk a b := by
  intro a ha
  induction ha with
  | mk hl hk ih =>
    rename_i k n l
    intro b hb
    cases hb with
    | mk hl' hk' =>
      rename_i k' n' l'
      have e1 := ord_kl (k := k) (k' := k') (n := n) (n' := n') (l := l) (l' := l')
      have e2 := ord_kg (k := k) (k' := k') (n := n) (n' := n') (l := l) (l' := l')
      have e3 := ord_nl (k := k) (k' := k') (n := n) (n' := n') (l := l) (l' := l')
      have e4 := ord_ng (k := k) (k' := k') (n := n) (n' := n') (l := l) (l' := l')
      have e5 := ord_kk (k := k) (k' := k') (n := n) (n' := n') (l := l) (l' := l')
      unfold ROrdOk
      generalize ordS (.mk k n l) (.mk k' n' l') = O at *
      rw [row_mk, row_mk]
      refine acall_of tok mixed 75 rfl (fn := Tryz.f44) (c := Tryz.f44.body.getD .skip) (by kernel_rfl) (by kernel_rfl) (by kernel_rfl) rfl 0 rfl ?_
      repeat' (first | refine o1 ?_ | refine o2 ?_ | refine k1 ?_ | refine k2 ?_ | refine k3 ?_ | refine k4 ?_ | refine k6 ?_ | refine k7 ?_ | refine And.intro ?_ ?_ | (intro h; first | exact Bool.noConfusion h | exact nz _ h | exact nl h | (simp at h; done) | (simp at h; first | (exfalso; omega) | skip) | skip) | (change retOk _ _ _ _; refine ret_pure rfl trivial ?_) | fail)
      all_goals first
        | (refine congrArg (vint .i64) ?_
           first
             | exact (e1 (by assumption)).symm
             | exact (e2 (by assumption)).symm
             | exact (e3 (by omega) (by omega) (by assumption)).symm
             | exact (e4 (by omega) (by omega) (by assumption) (by assumption)).symm)
        | skip
      have e5 := e5 (by omega) (by omega) (by assumption) (by assumption)
      refine loop_in (fun i : Nat => [(5, vint .i64 i)]) (fun _ => [some ⟨52, 3, false, .box (pvs [ei k, es n, .sl 3 (l.map Sel.row)])⟩, some ⟨52, 3, false, .box (pvs [ei k', es n', .sl 3 (l'.map Sel.row)])⟩]) (fun i => i ≤ l.length ∧ i ≤ l'.length ∧ ordL (l.drop i) (l'.drop i) = O) (fun i => l.length - i) 0 ⟨Nat.zero_le _, Nat.zero_le _, e5.symm⟩ ⟨?_, ?_⟩
      · exact back [0, 1] rfl rfl ⟨rfl, rfl, trivial⟩ (by repeat' (first | exact trivial | exact rfl | refine And.intro ?_ ?_))
      intro i ⟨hi, hi', hlx⟩
      rcases Nat.lt_or_ge i l.length with hlt | hge
      · obtain ⟨x, hx⟩ := getE hlt
        rcases Nat.lt_or_ge i l'.length with hlb | hgb
        · obtain ⟨y, hy⟩ := getE hlb
          have hc := ih x (List.mem_of_getElem? hx) y (hk' y (List.mem_of_getElem? hy))
          unfold ROrdOk at hc
          have hl := ordL_at hx hy
          generalize ordS x y = z at *
          obtain ⟨kx, nx, lx⟩ := x
          obtain ⟨ky, ny, ly⟩ := y
          repeat' (first | refine o1 ?_ | refine o2 ?_ | refine k1 ?_ | refine k2 ?_ | refine k3 ?_ | refine k4 ?_ | refine k6 ?_ | refine k7 ?_ | refine And.intro ?_ ?_ | refine o3 ?_ | refine o4 ?_ | (intro h; first | exact Bool.noConfusion h | exact nz _ h | exact nl h | (simp at h; done) | (simp at h; first | (exfalso; omega) | skip) | skip) | (change retOk _ _ _ _; refine ret_pure rfl trivial ?_) | exact (by kernel_rfl : drawOk _ _ = true) | refine eqv_len_map ?_ | refine eqv_wrap (by omega) (by omega) ?_ | refine ⟨_, _, (by first | rfl | assumption), at_map (by assumption), ?_⟩ | (change vcFunD _ _ _ _ _; refine callD_eq rfl (by repeat' (first | trivial | refine And.intro ?_ ?_ | (show 0 + _ ≤ List.length _; simp))) ALeL.refl (hc) rfl ?_) | fail)
          all_goals first
            | (refine congrArg (vint .i64) ?_; rw [← hlx, hl, if_pos (by assumption)]; done)
            | exact ⟨i + 1, ⟨by omega, by omega, by rw [← hlx, hl, if_neg (by omega)]⟩, by omega, back [0, 1] rfl rfl ⟨rfl, rfl, trivial⟩ (by repeat' (first | exact trivial | exact rfl | refine And.intro ?_ ?_))⟩
        · have hl := ordL_end1 hx hgb
          obtain rfl : i = l'.length := by omega
          obtain ⟨kx, nx, lx⟩ := x
          repeat' (first | refine o1 ?_ | refine o2 ?_ | refine k1 ?_ | refine k2 ?_ | refine k3 ?_ | refine k4 ?_ | refine k7 ?_ | refine k8 ?_ | refine And.intro ?_ ?_ | (intro h; first | exact Bool.noConfusion h | exact nz _ h | exact nl h | (simp at h; done) | (simp at h; first | (exfalso; omega) | skip) | skip) | (change retOk _ _ _ _; refine ret_pure rfl trivial ?_) | refine eqv_len_map ?_ | fail)
          all_goals first
            | (exfalso; omega)
            | (refine congrArg (vint .i64) ?_; rw [← hlx, hl]; done)
      · obtain rfl : i = l.length := by omega
        rcases Nat.lt_or_ge l.length l'.length with hlb | hgb
        · have hl := ordL_end2 (a := l) (b := l') (Nat.le_refl _) hlb
          repeat' (first | refine o1 ?_ | refine o2 ?_ | refine k1 ?_ | refine k2 ?_ | refine k3 ?_ | refine k4 ?_ | refine k7 ?_ | refine k8 ?_ | refine And.intro ?_ ?_ | (intro h; first | exact Bool.noConfusion h | exact nz _ h | exact nl h | (simp at h; done) | (simp at h; first | (exfalso; omega) | skip) | skip) | (change retOk _ _ _ _; refine ret_pure rfl trivial ?_) | refine eqv_len_map ?_ | fail)
          all_goals first
            | (exfalso; omega)
            | (refine congrArg (vint .i64) ?_; rw [← hlx, hl]; done)
        · have hl := ordL_end3 (a := l) (b := l') (Nat.le_refl _) hgb
          repeat' (first | refine o1 ?_ | refine o2 ?_ | refine k1 ?_ | refine k2 ?_ | refine k3 ?_ | refine k4 ?_ | refine k6 ?_ | refine k7 ?_ | refine k8 ?_ | refine And.intro ?_ ?_ | (intro h; first | exact Bool.noConfusion h | exact nz _ h | exact nl h | (simp at h; done) | (simp at h; first | (exfalso; omega) | skip) | skip) | (change retOk _ _ _ _; refine ret_pure rfl trivial ?_) | refine eqv_len_map ?_ | fail)
          all_goals first
            | (exfalso; omega)
            | (refine congrArg (vint .i64) ?_; rw [← hlx, hl]; done)
theorem c_rcompare (a b : Sel) (ha : SelL a) (hb : SelL b) : PCall Tryz.prog 17 [ag a.row, ag b.row] (fun r => r = vint .i64 (cmpV a b)) := by
  have h1 := c_Depth a ha
  have h2 := c_Depth b hb
  have h3 := c_rord a ha b hb
  unfold ROrdOk at h3
  have e : cmpV a b = if ((min 101 (dep a) : Nat) : Int) > 100 then 0 else if ((min 101 (dep b) : Nat) : Int) > 100 then 0 else ordS a b := by
    unfold cmpV
    by_cases g1 : dep a ≤ 100 <;> by_cases g2 : dep b ≤ 100
    · rw [if_pos ⟨g1, g2⟩, if_neg (by omega), if_neg (by omega)]
    · rw [if_neg (fun h => g2 h.2), if_neg (by omega), if_pos (by omega)]
    · rw [if_neg (fun h => g1 h.1), if_pos (by omega)]
    · rw [if_neg (fun h => g1 h.1), if_pos (by omega)]
  rw [e]
  generalize ((min 101 (dep a) : Nat) : Int) = D1 at *
  generalize ((min 101 (dep b) : Nat) : Int) = D2 at *
  generalize ordS a b = O at *
  obtain ⟨k, n, l⟩ := a
  obtain ⟨k', n', l'⟩ := b
  rw [row_mk, row_mk] at *
  refine acall_of tok mixed 16 rfl (fn := Tryz.f17) (c := Tryz.f17.body.getD .skip) (by kernel_rfl) (by kernel_rfl) (by kernel_rfl) rfl 0 rfl ?_
  repeat' (first | refine o1 ?_ | refine o2 ?_ | refine k1 ?_ | refine k2 ?_ | refine k3 ?_ | refine k6 ?_ | refine k7 ?_ | refine And.intro ?_ ?_ | (intro h; first | exact Bool.noConfusion h | exact nz _ h | exact nl h | (simp at h; done) | (simp at h; first | (exfalso; omega) | skip) | skip) | (change retOk _ _ _ _; refine ret_pure rfl trivial ?_) | (change vcFun _ _ _ _ _; refine call_eq rfl (by repeat' (first | trivial | refine And.intro ?_ ?_ | (show 0 + _ ≤ List.length _; simp))) ALeL.refl (h1) rfl ?_) | (change vcFun _ _ _ _ _; refine call_eq rfl (by repeat' (first | trivial | refine And.intro ?_ ?_ | (show 0 + _ ≤ List.length _; simp))) ALeL.refl (h2) rfl ?_) | (change vcFun _ _ _ _ _; refine call_eq rfl (by repeat' (first | trivial | refine And.intro ?_ ?_ | (show 0 + _ ≤ List.length _; simp))) ALeL.refl (h3) rfl ?_) | fail)
  all_goals first
    | (refine congrArg (vint .i64) ?_
       simp [*]
       done)
    | (refine congrArg (vint .i64) ?_
       (repeat' split) <;> first | rfl | omega)
def allR : List PV := [ei 1, es noN, .sl 3 []]
theorem allR_eq : allQ.row = allR := row_mk
theorem allP : PLeL [ei 1, es noN, .val (.slice none 0 0)] allR := ⟨PLe.refl, PLe.refl, PLe.nil, trivial⟩
theorem zc_rall : PCall Tryz.prog 216 [] (fun r => Leq r (ag allR)) := by
  refine acall_of tok mixed 2 rfl (fn := Tryz.f216) (c := Tryz.f216.body.getD .skip) (by kernel_rfl) (by kernel_rfl) (by kernel_rfl) rfl 0 rfl ?_
  repeat' (first | refine o1 ?_ | refine o2 ?_ | refine k1 ?_ | refine k2 ?_ | refine k7 ?_ | refine And.intro ?_ ?_ | (change retOk _ _ _ _; refine ret_pure rfl trivial ?_) | exact (by kernel_rfl : drawOk _ _ = true) | fail)
  all_goals first
    | exact ⟨ALe.agg (ALe.pvs allP)⟩
theorem c_rall : PCall Tryz.prog 216 [] (fun r => r = ag allR) := zc_rall.weak fun r h => ⟨_, h.le, rfl⟩
theorem zc_lall : PCall Tryz.prog 33 [] (fun r => Leq r (ag allR)) := by
  refine acall_of tok mixed 2 rfl (fn := Tryz.f33) (c := Tryz.f33.body.getD .skip) (by kernel_rfl) (by kernel_rfl) (by kernel_rfl) rfl 0 rfl ?_
  repeat' (first | refine o1 ?_ | refine o2 ?_ | refine k1 ?_ | refine k2 ?_ | refine k7 ?_ | refine And.intro ?_ ?_ | (change retOk _ _ _ _; refine ret_pure rfl trivial ?_) | exact (by kernel_rfl : drawOk _ _ = true) | fail)
  all_goals first
    | exact ⟨ALe.agg (ALe.pvs allP)⟩
theorem c_lall : PCall Tryz.prog 33 [] (fun r => r = ag allR) := zc_lall.weak fun r h => ⟨_, h.le, rfl⟩
theorem c_rnot0 (s : Sel) : PCall Tryz.prog 111 [ag s.row] (fun r => Leq r (ag (Sel.row (.mk 10 noN [s])))) := by
  obtain ⟨k, n, l⟩ := s
  rw [row_mk (k := 10)]
  refine acall_of tok mixed 6 rfl (fn := Tryz.f111) (c := Tryz.f111.body.getD .skip) (by kernel_rfl) (by kernel_rfl) (by kernel_rfl) rfl 0 rfl ?_
  repeat' (first | refine o1 ?_ | refine o2 ?_ | refine k1 ?_ | refine k2 ?_ | refine k7 ?_ | refine And.intro ?_ ?_ | exact (by kernel_rfl : drawOk _ _ = true) | fail)
  all_goals first
    | (change retOk _ _ _ _; refine ret_pure rfl (by repeat' (first | exact True.intro | refine And.intro ?_ ?_ | exact Nat.le_refl _)) ?_; exact ⟨ALe.refl⟩)
theorem c_rnot (s : Sel) : PCall Tryz.prog 111 [ag s.row] (fun r => r = ag (Sel.row (.mk 10 noN [s]))) := (c_rnot0 s).weak fun r h => ⟨_, h.le, rfl⟩
theorem c_rnothing : PCall Tryz.prog 215 [] (fun r => r = ag noneQ.row) := by
  have h := c_rnot allQ
  rw [allR_eq, show Sel.row (.mk 10 noN [allQ]) = [ei 10, es noN, .sl 3 [allR]] by rw [row_mk, List.map_cons, allR_eq]; rfl] at h
  rw [show noneQ.row = [ei 10, es noN, .sl 3 [allR]] by unfold noneQ; rw [row_mk, List.map_cons, allR_eq]; rfl]
  refine acall_of tok mixed 3 rfl (fn := Tryz.f215) (c := Tryz.f215.body.getD .skip) (by kernel_rfl) (by kernel_rfl) (by kernel_rfl) rfl 0 rfl ?_
  repeat' (first | ((change vcFun _ _ _ _ _; refine call_frz rfl (by repeat' (first | trivial | refine And.intro ?_ ?_ | (show 0 + _ ≤ List.length _; simp))) ALeL.refl c_rall ?_; rintro _ rfl)) | ((change vcFun _ _ _ _ _; refine call_frz rfl (by repeat' (first | trivial | refine And.intro ?_ ?_ | (show 0 + _ ≤ List.length _; simp))) ALeL.refl h ?_; rintro _ rfl)) | refine o1 ?_ | refine o2 ?_ | refine k1 ?_ | refine k2 ?_ | refine k7 ?_ | refine And.intro ?_ ?_ | (change retOk _ _ _ _; refine ret_pure rfl trivial ?_) | exact (by kernel_rfl : drawOk _ _ = true) | fail)
  all_goals first
    | rfl
theorem c_sameSel : ∀ (a : Sel) (ha : SelL a), PCall Tryz.prog 18 [ag a.row, ag a.row] (fun r => r = vbool true) := by
  intro a ha
  induction ha with
  | mk hl hk ih =>
    rename_i k n l
    have hn := sEq_self n
    rw [row_mk]
    refine acall_of tok mixed 46 rfl (fn := Tryz.f18) (c := Tryz.f18.body.getD .skip) (by kernel_rfl) (by kernel_rfl) (by kernel_rfl) rfl 0 rfl ?_
    repeat' (first | refine o1 ?_ | refine o2 ?_ | refine k1 ?_ | refine k2 ?_ | refine k3 ?_ | refine k4 ?_ | refine k6 ?_ | refine k7 ?_ | refine And.intro ?_ ?_ | (intro h; first | exact Bool.noConfusion h | exact nz _ h | exact nl h | (simp at h; done) | (simp at h; first | (exfalso; omega) | skip) | skip) | (change retOk _ _ _ _; refine ret_pure rfl trivial ?_) | refine eqv_len_map ?_ | fail)
    all_goals try (exfalso; simp_all; done)
    refine loop_in (fun i : Nat => [(5, vint .i64 i)]) (fun _ => [some ⟨52, 3, false, .box (pvs [ei k, es n, .sl 3 (l.map Sel.row)])⟩, some ⟨52, 3, false, .box (pvs [ei k, es n, .sl 3 (l.map Sel.row)])⟩]) (fun i => i ≤ l.length) (fun i => l.length - i) 0 (Nat.zero_le _) ⟨?_, ?_⟩
    · exact back [0, 1] rfl rfl ⟨rfl, rfl, trivial⟩ (by repeat' (first | exact trivial | exact rfl | refine And.intro ?_ ?_))
    intro i hi
    rcases Nat.lt_or_ge i l.length with hlt | hge
    · obtain ⟨⟨kx, nx, lx⟩, hx⟩ := getE hlt
      have hc := ih _ (List.mem_of_getElem? hx)
      repeat' (first | refine o1 ?_ | refine o2 ?_ | refine k1 ?_ | refine k2 ?_ | refine k3 ?_ | refine k4 ?_ | refine k6 ?_ | refine And.intro ?_ ?_ | refine o3 ?_ | refine o4 ?_ | (intro h; first | exact Bool.noConfusion h | exact nz _ h | exact nl h | (simp at h; done) | (simp at h; first | (exfalso; omega) | skip) | skip) | exact (by kernel_rfl : drawOk _ _ = true) | refine eqv_len_map ?_ | refine eqv_wrap (by omega) (by omega) ?_ | refine ⟨_, _, (by first | rfl | assumption), at_map (by assumption), ?_⟩ | (change vcFunD _ _ _ _ _; refine callD_eq rfl (by repeat' (first | trivial | refine And.intro ?_ ?_ | (show 0 + _ ≤ List.length _; simp))) ALeL.refl (hc) rfl ?_) | fail)
      all_goals first
        | exact ⟨i + 1, by omega, by omega, back [0, 1] rfl rfl ⟨rfl, rfl, trivial⟩ (by repeat' (first | exact trivial | exact rfl | refine And.intro ?_ ?_))⟩
    · obtain rfl : i = l.length := by omega
      repeat' (first | refine o1 ?_ | refine o2 ?_ | refine k1 ?_ | refine k2 ?_ | refine k3 ?_ | refine k7 ?_ | refine k8 ?_ | refine And.intro ?_ ?_ | (intro h; first | exact Bool.noConfusion h | exact nz _ h | exact nl h | (simp at h; done) | (simp at h; first | (exfalso; omega) | skip) | skip) | (change retOk _ _ _ _; refine ret_pure rfl trivial ?_) | refine eqv_len_map ?_ | fail)
      all_goals first
        | rfl
end Go.Proofs.YtkbaecjnhmbeeaaGreat.Cw
/-
  The library's sort of selections, laid at this seat (printed by tools/laytext.py), and what it leaves.
-/
namespace Go.Proofs.YtkbaecjnhmbeeaaGreat.Cw
open Go Go.Cw Go.Proofs
set_option maxRecDepth 100000
def laySel_ren : Go.Shelf.Ren := ⟨fun | 6 => 209 | 15 => 257 | 14 => 256 | 28 => 273 | 29 => 274 | 20 => 265 | 21 => 266 | 22 => 267 | 23 => 268 | 24 => 269 | 25 => 270 | 26 => 271 | 27 => 272 | 46 => 276 | 47 => 277 | 48 => 278 | 49 => 279 | 50 => 280 | 57 => 281 | n => n, fun | 22 => 50 | 24 => 52 | 25 => 59 | 3 => 3 | 39 => 158 | 0 => 0 | 53 => 264 | 55 => 266 | 4 => 4 | 46 => 258 | 45 => 257 | 50 => 243 | 5 => 5 | 9 => 9 | 66 => 267 | 70 => 271 | 76 => 273 | 77 => 274 | n => n, fun | n => n⟩
theorem laySel : Go.Proofs.SlLaysF0.n6 Tryz.prog laySel_ren where
  mixed := by kernel_rfl
  f6 := ⟨"slices.SortFunc[[]timetable/api.Select,timetable/api.Select]", by decide, Tryz.func209.trans (congrArg some (by kernel_rfl))⟩
  f14 := ⟨"slices.pdqsortCmpFunc[timetable/api.Select]", by decide, Tryz.func256.trans (congrArg some (by kernel_rfl))⟩
  f15 := Tryz.func257.trans (congrArg some (by kernel_rfl))
  f20 := ⟨"slices.insertionSortCmpFunc[timetable/api.Select]", by decide, Tryz.func265.trans (congrArg some (by kernel_rfl))⟩
  f21 := ⟨"slices.heapSortCmpFunc[timetable/api.Select]", by decide, Tryz.func266.trans (congrArg some (by kernel_rfl))⟩
  f22 := ⟨"slices.breakPatternsCmpFunc[timetable/api.Select]", by decide, Tryz.func267.trans (congrArg some (by kernel_rfl))⟩
  f23 := ⟨"slices.choosePivotCmpFunc[timetable/api.Select]", by decide, Tryz.func268.trans (congrArg some (by kernel_rfl))⟩
  f24 := ⟨"slices.reverseRangeCmpFunc[timetable/api.Select]", by decide, Tryz.func269.trans (congrArg some (by kernel_rfl))⟩
  f25 := ⟨"slices.partialInsertionSortCmpFunc[timetable/api.Select]", by decide, Tryz.func270.trans (congrArg some (by kernel_rfl))⟩
  f26 := ⟨"slices.partitionEqualCmpFunc[timetable/api.Select]", by decide, Tryz.func271.trans (congrArg some (by kernel_rfl))⟩
  f27 := ⟨"slices.partitionCmpFunc[timetable/api.Select]", by decide, Tryz.func272.trans (congrArg some (by kernel_rfl))⟩
  f28 := Tryz.func273.trans (congrArg some (by kernel_rfl))
  f29 := Tryz.func274.trans (congrArg some (by kernel_rfl))
  f46 := ⟨"slices.siftDownCmpFunc[timetable/api.Select]", by decide, Tryz.func276.trans (congrArg some (by kernel_rfl))⟩
  f47 := Tryz.func277.trans (congrArg some (by kernel_rfl))
  f48 := Tryz.func278.trans (congrArg some (by kernel_rfl))
  f49 := ⟨"slices.medianAdjacentCmpFunc[timetable/api.Select]", by decide, Tryz.func279.trans (congrArg some (by kernel_rfl))⟩
  f50 := ⟨"slices.medianCmpFunc[timetable/api.Select]", by decide, Tryz.func280.trans (congrArg some (by kernel_rfl))⟩
  f57 := ⟨"slices.order2CmpFunc[timetable/api.Select]", by decide, Tryz.func281.trans (congrArg some (by kernel_rfl))⟩
  t0 := Tryz.underlying0
  a0 := Tryz.isAgg0
  z0 := Tryz.sizeOf0
  v0 := Tryz.zeroValue0
  t3 := Tryz.underlying3
  a3 := Tryz.isAgg3
  z3 := Tryz.sizeOf3
  v3 := Tryz.zeroValue3
  t4 := Tryz.underlying4
  a4 := Tryz.isAgg4
  z4 := Tryz.sizeOf4
  v4 := Tryz.zeroValue4
  t5 := Tryz.underlying5
  a5 := Tryz.isAgg5
  z5 := Tryz.sizeOf5
  v5 := Tryz.zeroValue5
  t9 := Tryz.underlying9
  a9 := Tryz.isAgg9
  z9 := Tryz.sizeOf9
  v9 := Tryz.zeroValue9
  t22 := Tryz.underlying50
  a22 := Tryz.isAgg50
  z22 := Tryz.sizeOf50
  v22 := Tryz.zeroValue50
  t25 := Tryz.underlying59
  a25 := Tryz.isAgg59
  z25 := Tryz.sizeOf59
  v25 := Tryz.zeroValue59
  t39 := Tryz.underlying158
  a39 := Tryz.isAgg158
  z39 := Tryz.sizeOf158
  v39 := Tryz.zeroValue158
  t45 := Tryz.underlying257
  a45 := Tryz.isAgg257
  z45 := Tryz.sizeOf257
  v45 := Tryz.zeroValue257
  t46 := Tryz.underlying258
  a46 := Tryz.isAgg258
  z46 := Tryz.sizeOf258
  v46 := Tryz.zeroValue258
  t50 := Tryz.underlying243
  a50 := Tryz.isAgg243
  z50 := Tryz.sizeOf243
  v50 := Tryz.zeroValue243
  t53 := Tryz.underlying264
  a53 := Tryz.isAgg264
  z53 := Tryz.sizeOf264
  v53 := Tryz.zeroValue264
  t55 := Tryz.underlying266
  a55 := Tryz.isAgg266
  z55 := Tryz.sizeOf266
  v55 := Tryz.zeroValue266
  t66 := Tryz.underlying267
  a66 := Tryz.isAgg267
  z66 := Tryz.sizeOf267
  v66 := Tryz.zeroValue267
  t70 := Tryz.underlying271
  a70 := Tryz.isAgg271
  z70 := Tryz.sizeOf271
  v70 := Tryz.zeroValue271
  t76 := Tryz.underlying273
  a76 := Tryz.isAgg273
  z76 := Tryz.sizeOf273
  v76 := Tryz.zeroValue273
  t77 := Tryz.underlying274
  a77 := Tryz.isAgg274
  z77 := Tryz.sizeOf274
  v77 := Tryz.zeroValue274
theorem ent {f : FuncId} {fn : Func} (h : Tryz.prog.funcs[f]? = some fn) (h1 : (fn.name == "runtime.NumGoroutine") = false) (h2 : fn.body.isNone = false) : Enterable Tryz.prog f := ⟨fn, h, h1, h2⟩
theorem c_sortSel (l : List Sel) (hs : ∀ x ∈ l, SelL x) (hne : l ≠ []) (hl : l.length ≤ 1000000) :
    ACall Tryz.prog 209 [.ms 0 3 0 l.length, .pv (.fn 42 [])] [some ⟨52, 3, false, .p (l.map Sel.row)⟩] fun r H' => r = .tup [] ∧ ∃ m : List Sel, m.Perm l ∧ sortW m ∧ H' = [some ⟨52, 3, false, .p (m.map Sel.row)⟩] := by
  have h := acall_sortK laySel (ent Tryz.func209 (by kernel_rfl) (by kernel_rfl)) Tryz.isAgg52 Tryz.sizeOf52 52 (l.map Sel.row) 42 [] selC (Go.Proofs.enters_of Tryz.func42 (by kernel_rfl) rfl) (fun x hx y hy => by
    obtain ⟨a, ha, rfl⟩ := List.mem_map.1 hx
    obtain ⟨b, hb, rfl⟩ := List.mem_map.1 hy
    rw [selC_row]
    exact c_ordS a (hs a ha) b (hs b hb)) (selC_weak _) (by decide) (fun e => hne (List.map_eq_nil_iff.1 e)) (by rw [List.length_map]; omega)
  rw [List.length_map] at h
  exact h.mono fun r H' ⟨h1, ys, h2, h3, h4⟩ => by
    obtain ⟨m, g1, g2, rfl⟩ := sorted_sel h2 h3
    exact ⟨h1, m, g1, g2, h4⟩
end Go.Proofs.YtkbaecjnhmbeeaaGreat.Cw
/-
  A whole list is appended to a slice that grows.
-/
namespace Go.Proofs.YtkbaecjnhmbeeaaGreat.Cw
open Go Go.Cw Go.Proofs
set_option linter.unusedVariables false
section
variable {P : Program} {T : Tab} {id z ty : Nat} {rows ys : List (List PV)}
theorem st_appL {site b size bytes : Nat} {agg eagg : Bool} {zero ezero : List PV} {etk : TK} {s x : Operand} {t : TypeId} {d : Tmp} {Γ : Slots} {H : Heap} {K : Slots → Heap → Prop} (hs : ev Γ s = some (slP id z rows)) (hx : ev Γ x = some (.pv (.sl z ys))) (hl : Cw.look T t = some ⟨size, bytes, agg, .slice ty, zero⟩) (he : Cw.look T ty = some ⟨z, b, eagg, etk, ezero⟩) (hz : Nat.blt 0 z = true)
    (ho : H[id]? = some (obP ty z rows)) (hsite : H[site]? = some none) (hb : (rows.length + ys.length) * b ≤ 140737488355328) (hn : rows.length + ys.length ≤ 9223372036854775807)
    (h : forceH (app H [(id, none), (site, obP ty z (rows ++ ys))]) fun H2 => K ((d, slP site z (rows ++ ys)) :: Γ) H2) :
    vcStep P T site (some d) (.call { callee := .builtin .append, args := #[s, x], argTypes := #[t, t] }) Γ H K := by
  have hbq : Nat.beq t t = true := Nat.beq_refl t
  have hzz : Nat.beq z z = true := Nat.beq_refl z
  have hty : Nat.beq ty ty = true := Nat.beq_refl ty
  rw [forceH_eq] at h
  cases rows with
  | nil =>
    rw [app_none ho] at h
    simp only [vcStep, vcOp, hbq, hs, hx, vcAppend, hl, he, srcOk, hzz, hz, srcRows, Bool.and_self, Bool.true_and, slP, nilA, eqv_eq, putK, forceV, appK, forceH_eq]
    refine Or.inl ?_
    cases ys with
    | nil =>
      have e : app H [(site, obP ty z ([] ++ []))] = H := by
        show H.set site none = H
        apply List.ext_getElem?
        intro k
        rw [List.getElem?_set]
        by_cases e : site = k
        · subst e
          rw [if_pos rfl, if_pos (List.getElem?_eq_some_iff.1 hsite).1, hsite]
        · rw [if_neg e]
      rw [e] at h
      exact ⟨rfl, by simp [rowsLen], by simp [rowsLen], fun e => by simp [rowsLen] at e, fun _ => h⟩
    | cons a l =>
      refine ⟨rfl, by simpa [rowsLen] using hb, by simpa [rowsLen] using hn, fun _ => ?_, fun e => by simp [rowsLen] at e⟩
      exact h
  | cons a l =>
    simp only [vcStep, vcOp, hbq, hs, hx, vcAppend, hl, he, srcOk, hzz, hz, srcRows, ho, obP, Bool.and_self, Bool.true_and, slP, eqv_eq, putK, forceV, appK, forceH_eq, Bool.not_false, hty, dropR, catRows, List.drop_zero]
    refine Or.inl ?_
    have el : rowsLen (.p (a :: l ++ ys)) = (a :: l).length + ys.length := by simp only [rowsLen, List.length_append]
    refine ⟨by simp [rowsLen], rfl, by rw [el]; exact hb, by rw [el]; exact hn, ?_⟩
    have e : rowsLen (.p (a :: l ++ ys)) = (a :: (l ++ ys)).length := by simp [rowsLen]
    rw [e]
    exact h
theorem o_appL {n site b size bytes : Nat} {agg eagg : Bool} {zero ezero : List PV} {etk : TK} {s x : Operand} {t : TypeId} {d : Tmp} {Γ : Slots} {H : Heap} {K : Slots → Heap → Prop} {o : Oper} {all l : List Oper} {dc : Known}
    (hop : o.op = .call { callee := .builtin .append, args := #[s, x], argTypes := #[t, t] }) (hg : o.guard = none) (hd : o.dst = some d) (hdn : Nat.blt d n = true) (hs : ev Γ s = some (slP id z rows)) (hx : ev Γ x = some (.pv (.sl z ys))) (hl : Cw.look T t = some ⟨size, bytes, agg, .slice ty, zero⟩) (he : Cw.look T ty = some ⟨z, b, eagg, etk, ezero⟩) (hz : Nat.blt 0 z = true)
    (ho : H[id]? = some (obP ty z rows)) (hsite : H[site]? = some none) (hb : (rows.length + ys.length) * b ≤ 140737488355328) (hn : rows.length + ys.length ≤ 9223372036854775807)
    (h : knOut dc d fun d2 => forceH (app H [(id, none), (site, obP ty z (rows ++ ys))]) fun H2 => xOps P T n all l (site + 1) K d2 ((d, slP site z (rows ++ ys)) :: Γ) H2) :
    xOps P T n all (o :: l) site K dc Γ H := by
  refine ops_cons ?_
  have e1 : dstOk n o = true := by unfold dstOk; rw [hd]; exact hdn
  have e2 : isAlloc o.op = true := by rw [hop]; rfl
  rw [e1, e2]
  show vcGuard all Γ dc o.guard _ _
  rw [hg]
  simp only [vcGuard, knPut, hd, hop, knRes, simpOp]
  exact knOut_mono dc _ _ (fun d2 hh => st_appL hs hx hl he hz ho hsite hb hn hh) h
end
end Go.Proofs.YtkbaecjnhmbeeaaGreat.Cw
