/-
  Part 4 of the proof (CwTC, CwTD, CwSA, CwSS, CwSC, CwSK, CwTE, CwTG): what later parts use. No conditions.
-/
import Derived.Sort.Grow
import Derived.Sort.EncStr
import Derived.Shelf.Sort.Plain
import Derived.Shelf.Slices.In.SortNone
import Derived.Shelf.Slices.CompactS
import Derived.Sort.Walk0
import Derived.Shelf.SlSortCmp.NoneTotal
import Derived.Test.YtbcacaodfpgflaaGreatDoorYG3

/-
  Loops and joins that say only what changes; shorter words.
-/
namespace Go.Cw
open Go
set_option linter.unusedVariables false

def asgOps : List Oper → List Nat → List Nat
  | [], acc => acc
  | o :: l, acc => match o.dst with
    | some d => asgOps l (d :: acc)
    | none => asgOps l acc

/-- The slots that code writes. -/
def asg : Code → List Nat → List Nat
  | .region _ ops _, acc => asgOps ops.toList acc
  | .seq a b, acc => asg a (asg b acc)
  | .cond _ a b, acc => asg a (asg b acc)
  | .block _ a, acc => asg a acc
  | .loop a, acc => asg a acc
  | .scope a, acc => asg a acc
  | _, acc => acc

/-- The slots but those, each once. -/
def keepS : List Nat → Slots → Slots
  | _, [] => []
  | bad, (k, v) :: l => bif hasN k bad then keepS bad l else (k, v) :: keepS (k :: bad) l

def forceS : Slots → (Slots → Prop) → Prop
  | [], K => K []
  | x :: l, K => forceS l fun l => K (x :: l)

/-- Other rows for some objects; none: the object is given up. -/
def setR : Heap → List (Nat × Option Rows) → Heap
  | H, [] => H
  | H, (i, r) :: l => setR (match r, H[i]? with
    | some r, some (some o) => H.set i (some { o with rows := r })
    | _, _ => H.set i none) l

/-- What the first state says the second says, but for objects that are given up. -/
def subH : Heap → Heap → Prop
  | [], [] => True
  | none :: l, _ :: m => subH l m
  | some o :: l, some o' :: m => o = o' ∧ subH l m
  | _, _ => False

def entS (Γ : Slots) : Slots → Prop
  | [] => True
  | (s, y) :: l => (∃ x, get Γ s = some x ∧ ALe x y) ∧ entS Γ l

theorem forceS_eq : ∀ (l : Slots) (K : Slots → Prop), forceS l K = K l
  | [], _ => rfl
  | x :: l, K => by simp only [forceS]; rw [forceS_eq l]

theorem hasN_mem : ∀ {l : List Nat} {k : Nat}, hasN k l = true ↔ k ∈ l
  | [], k => by simp [hasN]
  | x :: l, k => by
    simp only [hasN, List.mem_cons]
    cases h : Nat.beq x k
    · have : ¬ k = x := fun e => by subst e; simp at h
      simp only [cond_false, hasN_mem (l := l), this, false_or]
    · have := Nat.eq_of_beq_eq_true h; subst this; simp

theorem keepS_get : ∀ {Γ : Slots} {bad : List Nat} {s : Nat} {x : AV}, get (keepS bad Γ) s = some x → get Γ s = some x ∧ s ∉ bad
  | [], bad, s, x, h => by simp [keepS, get] at h
  | (k, v) :: l, bad, s, x, h => by
    simp only [keepS] at h
    cases hk : hasN k bad
    · rw [hk] at h
      simp only [cond_false, get_cons] at h
      rw [get_cons]
      have hkb : k ∉ bad := fun e => by rw [hasN_mem.2 e] at hk; cases hk
      split at h
      · rename_i e; subst e; rw [if_pos rfl]; exact ⟨h, hkb⟩
      · rename_i e
        obtain ⟨h1, h2⟩ := keepS_get h
        rw [if_neg e]; exact ⟨h1, fun hb => h2 (by simp [hb])⟩
    · rw [hk] at h
      simp only [cond_true] at h
      obtain ⟨h1, h2⟩ := keepS_get h
      have hkb := hasN_mem.1 hk
      have hne : ¬ k = s := fun e => by subst e; exact h2 hkb
      rw [get_cons, if_neg hne]
      exact ⟨h1, h2⟩

theorem get_append : ∀ {a b : Slots} {s : Nat} {x : AV}, get (a ++ b) s = some x → get a s = some x ∨ get b s = some x
  | [], b, s, x, h => .inr h
  | (k, v) :: a, b, s, x, h => by
    simp only [List.cons_append, get_cons] at h ⊢
    split at h
    · rename_i e; rw [if_pos e]; exact .inl h
    · rename_i e; rw [if_neg e]; exact get_append h

theorem entS_get {Γ : Slots} : ∀ {l : Slots} {s : Nat} {y : AV}, entS Γ l → get l s = some y → ∃ x, get Γ s = some x ∧ ALe x y
  | [], s, y, _, h => by simp [get] at h
  | (k, v) :: l, s, y, he, h => by
    rw [get_cons] at h
    split at h
    · rename_i e; subst e; injection h with h; subst h; exact he.1
    · exact entS_get he.2 h

theorem subH_get : ∀ {A B : Heap}, subH A B → A.length = B.length ∧ ∀ (i : Nat) o, A[i]? = some (some o) → B[i]? = some (some o)
  | [], [], _ => ⟨rfl, fun i o h => by simp at h⟩
  | [], _ :: _, h => h.elim
  | none :: l, [], h => h.elim
  | some _ :: l, [], h => h.elim
  | some _ :: l, none :: m, h => h.elim
  | none :: l, x :: m, h => by
    obtain ⟨h1, h2⟩ := subH_get (A := l) (B := m) h
    refine ⟨by simp [h1], fun i o hi => ?_⟩
    cases i with
    | zero => simp at hi
    | succ i => simpa using h2 i o (by simpa using hi)
  | some o :: l, some o' :: m, h => by
    obtain ⟨rfl, h⟩ := h
    obtain ⟨h1, h2⟩ := subH_get (A := l) (B := m) h
    refine ⟨by simp [h1], fun i o2 hi => ?_⟩
    cases i with
    | zero => simpa using hi
    | succ i => simpa using h2 i o2 (by simpa using hi)

/-- A state that says less. -/
theorem Ghost.le {n nh : Nat} {Γ Γ' : Slots} {H H' : Heap} (hs : ∀ s y, get Γ' s = some y → ∃ x, get Γ s = some x ∧ ALe x y) (hh : subH H' H) : Ghost n nh Γ H Γ' H' := fun I0 β0 w0 a w _ ⟨I, β, h⟩ => by
  obtain ⟨hl, ho⟩ := subH_get hh
  have hH := h.h
  refine ⟨I, β, ⟨by rw [hH.len, hl], fun i o hi => hH.obj i o (ho i o hi), fun i j oi oj b b' h1 h2 => hH.inj i j oi oj b b' (ho i oi h1) (ho j oj h2), hH.imm, hH.lt⟩, h.defers, h.size, fun s y hy => ?_, h.evo, h.free⟩
  obtain ⟨x, hx, hle⟩ := hs s y hy
  exact hle _ _ _ _ (h.slot s x hx)

theorem ghost_ent {n nh : Nat} {Γ G : Slots} {H H' : Heap} {bad : List Nat} (he : entS Γ G) (hh : subH H' H) : Ghost n nh Γ H (G ++ keepS bad Γ) H' :=
  Ghost.le (fun s y hy => (get_append hy).elim (entS_get he) fun h => ⟨y, (keepS_get h).1, ALe.refl⟩) hh

section
variable {P : Program} {T : Tab} {n nh : Nat} {a b : Code} {Q : Exit → Slots → Heap → Prop} {Γ : Slots} {H : Heap}

/-- A loop: x: what changes; the other slots and objects stay as_ they are. -/
theorem loop_at {X : Type} (g : X → Slots) (h : X → List (Nat × Option Rows)) (cond : X → Prop) (μ : X → Nat) (x0 : X) (h0 : cond x0) (he : entS Γ (g x0)) (hh : subH (setR H (h x0)) H)
    (hb : forceS (keepS (asg a []) Γ) fun base => ∀ x, cond x → forceH (setR H (h x)) fun H1 => xCode P T n nh a (thenQ (fun Γ' H' => ∃ x', cond x' ∧ μ x' < μ x ∧ Ghost n nh Γ' H' (g x' ++ base) (setR H (h x'))) Q) (g x ++ base) H1) : xCode P T n nh (.loop a) Q Γ H := by
  rw [forceS_eq] at hb
  refine code_loop (fun x => ⟨g x ++ keepS (asg a []) Γ, setR H (h x)⟩) cond μ ⟨x0, h0, ghost_ent he hh⟩ fun x hx => ?_
  have := hb x hx
  rw [forceH_eq] at this
  exact this

/-- Back to the head, with other numbers for the objects. -/
theorem back (rn : List Nat) {Γ' : Slots} {H' : Heap} {G : Slots} {H2 : Heap} (hd : allD rn = true) (ht : rn.take nh = tabl 0 nh) (hk : kept H' H'.length rn rn H2) (hs : refSlots H'.length rn Γ' G) : Ghost n nh Γ' H' G H2 :=
  Ghost.ref (S := ⟨G, H2⟩) ⟨rn, hd, ht, hk, hs⟩
end

abbrev o1 := @ops_cons
abbrev o2 := @ops_nil
abbrev o3 := @opsD_cons
abbrev o4 := @opsD_nil
abbrev o5 := @any_step
abbrev o6 := @any_nil
abbrev k1 := @code_seq
abbrev k2 := @code_region
abbrev k3 := @code_cond
abbrev k4 := @code_block
abbrev k5 := @code_scope
abbrev k6 := @code_skip
abbrev k7 := @code_ret
abbrev k8 := @code_exit

theorem ws {x : Int} {K : Int → Prop} (h1 : -9223372036854775808 ≤ x ∧ x ≤ 9223372036854775807) (h : K x) : eqv (IntKind.i64.wrap x) K := eqv_wrap h1.1 h1.2 h
theorem eqv_size {s : ByteArray} {K : Nat → Prop} (h : K s.size) : eqv s.size K := ⟨_, rfl, h⟩
theorem nz (n : Nat) {p : Prop} (h : n + 1 = 0) : p := absurd h (Nat.succ_ne_zero _)
theorem nl {n : Nat} {p : Prop} (h : n < 0) : p := absurd h (Nat.not_lt_zero _)

theorem conv_pv (H : Heap) (p : PV) : conv H (.pv p) = some (.pv p) := by simp [conv, conv1, convC]
theorem andL_cons {f : AV → Prop} (hp : ∀ p, f (.pv p)) {x : AV} {l : List AV} : andL f (x :: l) ↔ f x ∧ andL f l := by
  cases x <;> simp [andL, hp]
/-- A map whose keys are strings. -/
def strM (es : List (Value × Nat × AV)) : Prop := ∀ e ∈ es, ∃ s, e.1 = .string s
def pureM (es : List (Value × Nat × AV)) : Prop := ∀ e ∈ es, ∃ p, e.2.2 = .pv p
end Go.Cw

/-
  More ghost steps and statements: cells of rows become pure; loops unrolled; objects at a loop's head.
-/
namespace Go.Cw
set_option linter.unusedVariables false

section
variable {P : Program} {T : Tab} {n nh : Nat} {a b c : Code} {Q : Exit → Slots → Heap → Prop} {Γ : Slots} {H : Heap}
/-- What comes later: walks stop here. -/
structure Later (p : Prop) : Prop where
  go : p
/-- Behind a statement its ways are brought together; what comes behind is kept for later. -/
theorem join_in {X : Type} (g : X → Slots) (hp : X → Heap) (cond : X → Prop)
    (ha : forceS (keepS (asg a []) Γ) fun base => xCode P T n nh a (thenQ (fun Γ' H' => ∃ x, cond x ∧ Ghost n nh Γ' H' (g x ++ base) (hp x)) Q) Γ H ∧
      Later (∀ x, cond x → forceH (hp x) fun H1 => xCode P T n nh b Q (g x ++ base) H1)) : xCode P T n nh (.seq a b) Q Γ H := by
  rw [forceS_eq] at ha
  refine code_join (fun S => ∃ x, cond x ∧ S = ⟨g x ++ keepS (asg a []) Γ, hp x⟩) ?_ ?_
  · have : (fun Γ' H' => ∃ x, cond x ∧ Ghost n nh Γ' H' (g x ++ keepS (asg a []) Γ) (hp x)) = fun Γ' H' => ∃ S, (∃ x, cond x ∧ S = (⟨g x ++ keepS (asg a []) Γ, hp x⟩ : ASt)) ∧ Ghost n nh Γ' H' S.sl S.hp := by
      funext Γ' H'
      exact propext ⟨fun ⟨x, h1, h2⟩ => ⟨_, ⟨x, h1, rfl⟩, h2⟩, fun ⟨S, ⟨x, h1, e⟩, h2⟩ => ⟨x, h1, by subst e; exact h2⟩⟩
    rw [← this]
    exact ha.1
  · rintro S ⟨x, hx, rfl⟩
    have := ha.2.go x hx
    rw [forceH_eq] at this
    exact this
end
end Go.Cw

/-
  Cw: the library's sort, part 1: worlds that have grown, rows of cells that are put anew. No conditions.
-/
namespace Go.Cw
open Go.Sort
set_option linter.unusedVariables false

theorem shape_lt {w : World} {b : Nat} {t : TypeId} {n : Nat} (h : w.shape? b = some (t, n)) : b < w.heap.size := by
  rcases Nat.lt_or_ge b w.heap.size with h1 | h1
  · exact h1
  · simp [World.shape?, Array.getElem?_eq_none h1] at h

/-- New blocks behind a world. -/
theorem grow_sim {I : Nat → Prop} {β : Beta} {H : Heap} {w : World} (hH : HSim I β H w) (os : Array Obj) : HSim I β H (grow w os) ∧ Evo I β w I β (grow w os) := by
  have hold : ∀ b, b < w.heap.size → (grow w os).heap[b]? = w.heap[b]? := fun b hb => heap_grow_old w os hb
  have hkI : ∀ b, I b → (grow w os).heap[b]? = w.heap[b]? ∧ I b := fun b hb => ⟨hold b (hH.imm b hb), hb⟩
  have hsh : ∀ b t n, w.shape? b = some (t, n) → (grow w os).shape? b = some (t, n) := fun b t n hs => by
    have hb := shape_lt hs
    simpa [World.shape?, hold b hb] using hs
  have hsz : w.heap.size ≤ (grow w os).heap.size := by rw [size_grow]; omega
  refine ⟨⟨hH.len, fun i o ho => ?_, hH.inj, ⟨fun b hb => Nat.lt_of_lt_of_le (hH.imm b hb) hsz, hH.imm.gl.mono hkI⟩, fun i b hb => Nat.lt_of_lt_of_le (hH.lt i b hb) hsz⟩, ⟨rfl, rfl, rfl, hsz, fun _ _ h => h, fun i b h => .inr ⟨i, b, h, rfl⟩, fun b hb _ => hold b hb, hkI, fun _ _ h => .inl h, hsh, Nat.le_refl _⟩⟩
  obtain ⟨b, hb, hos⟩ := hH.obj i o ho
  exact ⟨b, hb, hos.mono hkI (fun _ _ h => h) hsh (hold b.1 (hH.lt i b hb)) (fun h => h)⟩

theorem get!_of {α : Type} [Inhabited α] {a : Array α} {i : Nat} {x : α} (h : a[i]? = some x) : a[i]! = x := by simp [getElem!_def, h]

theorem putCells_get {α : Type} [Inhabited α] {enc : α → Value} {off : Nat} {d : Array α} {c : Array Value} {j : Nat} (hj : j < d.size) (hc : off + d.size ≤ c.size) : (putCells enc off d c)[off + j]? = some (enc d[j]!) := by
  have h1 : off + j < c.size := by omega
  simp only [putCells, Array.getElem?_mapIdx, Array.getElem?_eq_getElem h1, Option.map_some]
  rw [if_pos ⟨by omega, by omega⟩, show off + j - off = j by omega]
theorem putCells_size {α : Type} [Inhabited α] {enc : α → Value} {off : Nat} {d : Array α} {c : Array Value} : (putCells enc off d c).size = c.size := by simp [putCells]

theorem putRow_heap {α : Type} [Inhabited α] (enc : α → Value) (w : World) (blk off : Nat) (d : Array α) {c : Array Value} {e : TypeId} {fr : Nat × Nat} (h : w.heap[blk]? = some (.cells c e fr)) :
    (putRow enc w blk off d).heap[blk]? = some (.cells (putCells enc off d c) e fr) := by
  simp [putRow, mapBlock, Array.getElem?_modify, h, onCells]
theorem putRow_heap_other {α : Type} [Inhabited α] (enc : α → Value) (w : World) (blk off : Nat) (d : Array α) {k : Nat} (h : k ≠ blk) : (putRow enc w blk off d).heap[k]? = w.heap[k]? := by
  simp [putRow, mapBlock, Array.getElem?_modify, Ne.symm h]

/-- Object 0's rows are put anew, and the world has grown: what is left is that the new cells are those of the new rows. -/
theorem put_sim {I : Nat → Prop} {β : Beta} {w : World} {ty : TypeId} {z : Nat} {xs ys : List (List PV)} {b : Nat × Nat} {c : Array Value} (hH : HSim I β [some ⟨ty, z, false, .p xs⟩] w) (hb : β[0]? = some (some b))
    (hc : w.heap[b.1]? = some (.cells c ty (0, 0))) {α : Type} [Inhabited α] (enc : α → Value) (d : Array α) (n off : Nat) (os : Array Obj) (hwide : rowsWide (.p ys) z)
    (hcell : BCellsAt I β w (.p ys) z b.2 (putCells enc off d c)) :
    HSim I β [some ⟨ty, z, false, .p ys⟩] (grow (putRow enc (Sort.ahead w n) b.1 off d) os) ∧ Evo I β w I β (grow (putRow enc (Sort.ahead w n) b.1 off d) os) := by
  have hw1 : (putRow enc (Sort.ahead w n) b.1 off d).heap[b.1]? = some (.cells (putCells enc off d c) ty (0, 0)) := putRow_heap enc (Sort.ahead w n) b.1 off d hc
  obtain ⟨h1, h2⟩ := heap_upd (id := 0) (tgt := 0) (b := b) (b2 := b) (on := ⟨ty, z, false, .p ys⟩) (arr := putCells enc off d c) (w' := putRow enc (Sort.ahead w n) b.1 off d) (β2 := β) (H2 := [some ⟨ty, z, false, .p ys⟩]) hH rfl hb rfl rfl rfl
    hw1 (fun t m hs => by rw [shape_of_heap hc] at hs; rw [shape_of_heap hw1, putCells_size]; exact hs) (fun k hk => putRow_heap_other enc (Sort.ahead w n) b.1 off d hk) (by simp) rfl rfl rfl (by show w.drawn ≤ w.drawn + n; omega) hH.len (fun _ _ h => h)
    (fun i o2 ho2 => by
      cases i with
      | zero => injection ho2 with ho2; injection ho2 with ho2; exact .inr ⟨rfl, ho2.symm⟩
      | succ i => cases ho2) hb (fun _ _ h => .inl h) hwide hcell
  obtain ⟨h3, h4⟩ := grow_sim h1 os
  exact ⟨h3, h2.trans h4⟩

/-- What an object's rows lie in. -/
theorem obj_p {I : Nat → Prop} {β : Beta} {w : World} {ty : TypeId} {z : Nat} {xs : List (List PV)} (hH : HSim I β [some ⟨ty, z, false, .p xs⟩] w) :
    ∃ b c, β[0]? = some (some b) ∧ w.heap[b.1]? = some (.cells c ty (0, 0)) ∧ ¬ I b.1 ∧ b.1 < w.heap.size ∧ (∀ (i : Nat) r, xs[i]? = some r → r.length = z) ∧
      ∀ (i j : Nat) r p, xs[i]? = some r → r[j]? = some p → ∃ v, c[(i + b.2) * z + j]? = some v ∧ v.oneCell' = true ∧ PRel I w p v := by
  obtain ⟨b, hb, h1, h2, c, h3, h4⟩ := hH.obj 0 _ rfl
  refine ⟨b, c, hb, h3, (fun h => by have := h2.2 h; cases this), hH.lt 0 b hb, h1, fun i j r p hr hp => ?_⟩
  obtain ⟨v, hv, ho, ha⟩ := h4 i j (.pv p) (by simp [rowCell, hr, hp])
  cases ha with
  | pv ha => exact ⟨v, hv, ho, ha⟩

/-- A slice that is the whole of object 0. -/
theorem arg_ms {I : Nat → Prop} {β : Beta} {w : World} {z n : Nat} {b : Nat × Nat} {v : Value} (h : ARel I β w (.ms 0 z 0 n) v) (hb : β[0]? = some (some b)) (hn : 0 < n) : ∃ cap, v = .slice (some ⟨b.1, b.2 * z, none⟩) n cap := by
  cases h with
  | ms h1 h2 h3 h4 h5 =>
    rw [hb] at h1; injection h1 with h1; injection h1 with h1; subst h1
    rcases h4 with h4 | h4
    · subst h4; exact ⟨_, by rw [Nat.zero_add]⟩
    · omega
end Go.Cw

/-
  Cw: the library's sort, part 2: slices.Sort at strings. Conditions: the program bears its text (Lays.n190).
-/
namespace Go.Cw
open Go.Sort Go.Shelf
set_option linter.unusedVariables false
variable {P : Program} {ρ : Ren}

def strRow (s : ByteArray) : List PV := [.val (.string s)]
/-- The strings in ascending order. -/
def sortS (l : List ByteArray) : List ByteArray := ((l.map bts).mergeSort fun x y => decide (x ≤ y)).map fun x => ⟨x.toArray⟩

theorem bts_back (s : ByteArray) : (⟨(bts s).toArray⟩ : ByteArray) = s := by cases s; rfl

theorem acall_sortS (L : Go.Proofs.Lays.n190 P ρ) (he : Enterable P (ρ.f 190)) (ty : TypeId) (ss : List ByteArray) (hne : ss ≠ []) (hlen : ss.length < 4611686018427387904) :
    ACall P (ρ.f 190) [.ms 0 1 0 ss.length] [some ⟨ty, 1, false, .p (ss.map strRow)⟩] fun r H' => r = .tup [] ∧ H' = [some ⟨ty, 1, false, .p ((sortS ss).map strRow)⟩] := by
  refine ⟨he, fun I β w vs hH hvs hrel => ?_⟩
  obtain ⟨b, c, hb, hc, hI, hblk, hwide, hcell⟩ := obj_p hH
  obtain ⟨v, rfl⟩ : ∃ v, vs = #[v] := by
    match vs, hvs with
    | ⟨[v]⟩, _ => exact ⟨v, rfl⟩
  obtain ⟨cap, rfl⟩ := arg_ms (hrel 0 _ rfl) hb (List.length_pos_iff.2 hne)
  have hat : ∀ (i : Nat) s, ss[i]? = some s → c[b.2 + i]? = some (.string s) := fun i s hs => by
    obtain ⟨v, hv, ho, hp⟩ := hcell i 0 (strRow s) (.val (.string s)) (by simp [hs]) rfl
    cases hp
    rw [show b.2 + i = (i + b.2) * 1 + 0 by omega]; exact hv
  have hcs : b.2 + ss.length ≤ c.size := by
    have h0 := List.length_pos_iff.2 hne
    obtain ⟨s, hs⟩ : ∃ s, ss[ss.length - 1]? = some s := ⟨_, List.getElem?_eq_getElem (by omega)⟩
    have := (Array.getElem?_eq_some_iff.1 (hat _ _ hs)).1
    omega
  have hH2 : Holds Go.Proofs.encStr w b.1 b.2 (ss.map bts).toArray := fun j hj => by
    have hj : j < ss.length := by simpa using hj
    obtain ⟨s, hs⟩ : ∃ s, ss[j]? = some s := ⟨_, List.getElem?_eq_getElem hj⟩
    have e : (ss.map bts).toArray[j]! = bts s := get!_of (by simp [hs])
    refine ⟨?_, by simp [World.frozen?, hc]⟩
    rw [e]
    simp only [World.cell?, hc]
    show c[b.2 + j]? = some (.string ⟨(bts s).toArray⟩)
    rw [bts_back]; exact hat j s hs
  have hcall := Go.Proofs.Any.slices_Sort_string L b.1 b.2 cap (ss.map bts) w hH2 hblk (by simpa using hlen)
  rw [List.length_map] at hcall
  rw [Nat.mul_one]
  refine hcall.mono ?_
  rintro e w' ⟨rfl, n, os, rfl⟩
  have hl2 : ((ss.map bts).mergeSort fun x y => decide (x ≤ y)).length = ss.length := by rw [List.length_mergeSort, List.length_map]
  obtain ⟨h1, h2⟩ := put_sim (ys := (sortS ss).map strRow) hH hb hc Go.Proofs.encStr ((ss.map bts).mergeSort fun x y => decide (x ≤ y)).toArray n b.2 os
    (fun i r hr => by rw [List.getElem?_map] at hr; obtain ⟨s, -, rfl⟩ := Option.map_eq_some_iff.1 hr; rfl)
    (fun i j x hx => by
      simp only [rowCell, sortS, List.map_map, List.getElem?_map] at hx
      cases hm : ((ss.map bts).mergeSort fun x y => decide (x ≤ y))[i]? with
      | none => rw [hm] at hx; cases hx
      | some s =>
        rw [hm] at hx
        have hi : i < ss.length := by rw [← hl2]; exact (List.getElem?_eq_some_iff.1 hm).1
        cases j with
        | succ j => simp [strRow] at hx
        | zero =>
          simp only [Option.map_some, Option.bind_some, Function.comp, strRow, List.getElem?_cons_zero] at hx
          injection hx with hx; subst hx
          refine ⟨.string ⟨s.toArray⟩, ?_, rfl, .pv (.val _)⟩
          rw [show (i + b.2) * 1 + 0 = b.2 + i by omega, putCells_get (by simpa [hl2] using hi) (by simpa [hl2] using hcs)]
          congr 1
          rw [get!_of (x := s) (by simpa using hm)])
  exact ⟨_, _, I, β, _, rfl, ⟨rfl, rfl⟩, h1, .tup rfl (fun j c hj => by simp at hj), h2⟩

theorem acall_sortS0 (L : Go.Proofs.Lays.n190 P ρ) (he : Enterable P (ρ.f 190)) : PCall P (ρ.f 190) [.pv (.val (.slice none 0 0))] (fun r => r = .tup []) := by
  refine ⟨he, fun I β w vs hH hvs hrel => ?_⟩
  obtain ⟨v0, rfl⟩ : ∃ v0, vs = #[v0] := by
    match vs, hvs with
    | ⟨[v]⟩, _ => exact ⟨v, rfl⟩
  have h0 := hrel 0 _ rfl
  cases h0 with
  | pv h0 =>
    change PRel I w _ v0 at h0
    cases h0
    refine (Go.Proofs.Any.slices_Sort_string_none L none 0 w).mono ?_
    rintro e w' ⟨rfl, rfl⟩
    exact ⟨_, [], I, β, _, rfl, ⟨rfl, rfl⟩, hH, .tup rfl (fun j c hj => by simp at hj), Evo.refl I β w'⟩
end Go.Cw

/-
  Cw: the library's sort, part 4: slices.Compact at strings; what slices.Sort and slices.Compact give together. Conditions: the program bears its text (Lays.n194).
-/
namespace Go.Cw
open Go.Sort Go.Shelf
set_option linter.unusedVariables false
variable {P : Program} {ρ : Ren}

/-- Of equal neighbours the first. -/
def compactS (l : List ByteArray) : List ByteArray := (Lib.compact (l.map bts)).map fun x => ⟨x.toArray⟩

theorem compact_len {α : Type} [Inhabited α] [DecidableEq α] (l : List α) : (Lib.compact l).length ≤ l.length := by
  unfold Lib.compact Lib.compactUpTo
  rw [List.length_map]
  have := List.length_filter_le (Lib.keeps l.toArray) (List.range l.length)
  rwa [List.length_range] at this

theorem compactS_len (l : List ByteArray) : (compactS l).length ≤ l.length := by
  unfold compactS
  rw [List.length_map]
  have := compact_len (l.map bts)
  rwa [List.length_map] at this

theorem arg_ms2 {I : Nat → Prop} {β : Beta} {w : World} {z n : Nat} {b : Nat × Nat} {v : Value} (h : ARel I β w (.ms 0 z 0 n) v) (hb : β[0]? = some (some b)) (hn : 0 < n) :
    ∃ cap, v = .slice (some ⟨b.1, b.2 * z, none⟩) n cap ∧ n ≤ cap ∧ cap ≤ maxLen ∧ ∃ t, w.shape? b.1 = some (t, (0 + b.2 + cap) * z) := by
  cases h with
  | ms h1 h2 h3 h4 h5 =>
    rw [hb] at h1; injection h1 with h1; injection h1 with h1; subst h1
    rcases h4 with h4 | h4
    · subst h4; exact ⟨_, by rw [Nat.zero_add], h2, h3, h5⟩
    · omega

theorem acall_compactS (L : Go.Proofs.Lays.n194 P ρ) (he : Enterable P (ρ.f 194)) (ty : TypeId) (ss : List ByteArray) (hne : ss ≠ []) (hlen : ss.length < 4611686018427387904) :
    ACall P (ρ.f 194) [.ms 0 1 0 ss.length] [some ⟨ty, 1, false, .p (ss.map strRow)⟩] fun r H' => r = .ms 0 1 0 (compactS ss).length ∧ ∃ zs : List ByteArray, H' = [some ⟨ty, 1, false, .p ((compactS ss).map strRow ++ zs.map strRow)⟩] := by
  refine ⟨he, fun I β w vs hH hvs hrel => ?_⟩
  obtain ⟨b, c, hb, hc, hI, hblk, hwide, hcell⟩ := obj_p hH
  obtain ⟨v, rfl⟩ : ∃ v, vs = #[v] := by
    match vs, hvs with
    | ⟨[v]⟩, _ => exact ⟨v, rfl⟩
  obtain ⟨cap, rfl, hcap, hcm, hsh⟩ := arg_ms2 (hrel 0 _ rfl) hb (List.length_pos_iff.2 hne)
  have hat : ∀ (i : Nat) s, ss[i]? = some s → c[b.2 + i]? = some (.string s) := fun i s hs => by
    obtain ⟨v, hv, ho, hp⟩ := hcell i 0 (strRow s) (.val (.string s)) (by simp [hs]) rfl
    cases hp
    rw [show b.2 + i = (i + b.2) * 1 + 0 by omega]; exact hv
  have hcs : b.2 + ss.length ≤ c.size := by
    have h0 := List.length_pos_iff.2 hne
    obtain ⟨s, hs⟩ : ∃ s, ss[ss.length - 1]? = some s := ⟨_, List.getElem?_eq_getElem (by omega)⟩
    have := (Array.getElem?_eq_some_iff.1 (hat _ _ hs)).1
    omega
  have hH2 : Holds Go.Proofs.encStr w b.1 b.2 (ss.map bts).toArray := fun j hj => by
    have hj : j < ss.length := by simpa using hj
    obtain ⟨s, hs⟩ : ∃ s, ss[j]? = some s := ⟨_, List.getElem?_eq_getElem hj⟩
    have e : (ss.map bts).toArray[j]! = bts s := get!_of (by simp [hs])
    refine ⟨?_, by simp [World.frozen?, hc]⟩
    rw [e]
    simp only [World.cell?, hc]
    show c[b.2 + j]? = some (.string ⟨(bts s).toArray⟩)
    rw [bts_back]; exact hat j s hs
  have hcall := Go.Proofs.Any.slices_Compact_string L b.1 b.2 cap (ss.map bts) w hH2 (by rw [List.length_map]; omega) (by rw [List.length_map]; exact hcap)
  have hcl := compact_len (ss.map bts)
  rw [List.length_map] at hcall hcl
  rw [Nat.mul_one]
  refine hcall.mono ?_
  rintro e w' ⟨rfl, n, rfl⟩
  let zs : List ByteArray := List.replicate (ss.length - (Lib.compact (ss.map bts)).length) ⟨(([] : List UInt8)).toArray⟩
  let all : List (List UInt8) := Lib.compact (ss.map bts) ++ List.replicate (ss.length - (Lib.compact (ss.map bts)).length) []
  have hal : all.length = ss.length := by simp only [all, List.length_append, List.length_replicate]; omega
  have hys : (compactS ss).map strRow ++ zs.map strRow = all.map fun l => strRow ⟨l.toArray⟩ := by
    simp only [compactS, zs, all, List.map_append, List.map_map, List.map_replicate]
    rfl
  have h := put_sim (ys := (compactS ss).map strRow ++ zs.map strRow) hH hb hc Go.Proofs.encStr all.toArray n b.2 #[]
    (fun i r hr => by rw [hys, List.getElem?_map] at hr; obtain ⟨s, -, rfl⟩ := Option.map_eq_some_iff.1 hr; rfl)
    (fun i j x hx => by
      rw [hys] at hx
      simp only [rowCell, List.getElem?_map] at hx
      cases hm : all[i]? with
      | none => rw [hm] at hx; cases hx
      | some s =>
        rw [hm] at hx
        have hi : i < ss.length := by rw [← hal]; exact (List.getElem?_eq_some_iff.1 hm).1
        cases j with
        | succ j => simp [strRow] at hx
        | zero =>
          simp only [Option.map_some, Option.bind_some, strRow, List.getElem?_cons_zero] at hx
          injection hx with hx; subst hx
          refine ⟨.string ⟨s.toArray⟩, ?_, rfl, .pv (.val _)⟩
          rw [show (i + b.2) * 1 + 0 = b.2 + i by omega, putCells_get (by simpa [hal] using hi) (by simpa [hal] using hcs)]
          congr 1
          rw [get!_of (x := s) (by simpa using hm)])
  rw [grow_empty] at h
  have hl3 : (compactS ss).length = (Lib.compact (ss.map bts)).length := List.length_map _
  refine ⟨_, _, I, β, _, rfl, ⟨rfl, zs, rfl⟩, h.1, ?_, h.2⟩
  rw [hl3]
  obtain ⟨t, ht⟩ := hsh
  exact .ms hb (Nat.le_trans hcl hcap) hcm (.inl (by omega)) ⟨t, h.2.shape _ _ _ ht⟩

theorem acall_compactS0 (L : Go.Proofs.Lays.n194 P ρ) (he : Enterable P (ρ.f 194)) : PCall P (ρ.f 194) [.pv (.val (.slice none 0 0))] (fun r => r = .pv (.val (.slice none 0 0))) := by
  refine ⟨he, fun I β w vs hH hvs hrel => ?_⟩
  obtain ⟨v0, rfl⟩ : ∃ v0, vs = #[v0] := by
    match vs, hvs with
    | ⟨[v]⟩, _ => exact ⟨v, rfl⟩
  have h0 := hrel 0 _ rfl
  cases h0 with
  | pv h0 =>
    change PRel I w _ v0 at h0
    cases h0
    refine (Go.Proofs.Any.slices_Compact_string_empty L none 0 w).mono ?_
    rintro e w' ⟨rfl, rfl⟩
    exact ⟨_, [], I, β, _, rfl, ⟨rfl, rfl⟩, hH, .pv (.val _), Evo.refl I β w'⟩

/-! ### Plain laws -/
theorem sLt_eq (a b : ByteArray) : sLt a b = decide (bts a < bts b) := Go.Proofs.bytesLess_eq _ _
theorem bts_inj {a b : ByteArray} (h : bts a = bts b) : a = b := by rw [← bts_back a, ← bts_back b, h]
theorem bts_of (x : List UInt8) : bts ⟨x.toArray⟩ = x := rfl

/-- Ascending; strictly. -/
def ascS (l : List ByteArray) : Prop := l.Pairwise fun a b => sLt b a = false
def strS (l : List ByteArray) : Prop := l.Pairwise fun a b => sLt a b = true

theorem sortS_perm (l : List ByteArray) : (sortS l).Perm l := by
  unfold sortS
  have h := (List.mergeSort_perm (l.map bts) fun x y => decide (x ≤ y)).map fun x => (⟨x.toArray⟩ : ByteArray)
  refine h.trans ?_
  rw [List.map_map]
  have : ((fun x => (⟨x.toArray⟩ : ByteArray)) ∘ bts) = id := funext fun s => bts_back s
  rw [this, List.map_id]
theorem sortS_asc (l : List ByteArray) : ascS (sortS l) := by
  unfold sortS ascS
  rw [List.pairwise_map]
  refine (List.pairwise_mergeSort (le := fun x y : List UInt8 => decide (x ≤ y)) ?_ ?_ (l.map bts)).imp fun {a b} h => ?_
  · intro a b c h1 h2
    exact decide_eq_true (List.le_trans (of_decide_eq_true h1) (of_decide_eq_true h2))
  · intro a b
    rcases List.le_total a b with h | h
    · simp [h]
    · simp [h]
  · rw [sLt_eq, bts_of, bts_of]
    exact decide_eq_false (List.not_lt.2 (of_decide_eq_true h))

theorem compUpTo {d : Array (List UInt8)} (hs : ∀ i j, i ≤ j → j < d.size → d[i]! ≤ d[j]!) : ∀ m, m ≤ d.size → (∀ x, x ∈ Lib.compactUpTo d m ↔ ∃ j, j < m ∧ x = d[j]!) ∧ (Lib.compactUpTo d m).Pairwise fun a b => a < b
  | 0, _ => by simp [Lib.compactUpTo]
  | m + 1, hm => by
    obtain ⟨h1, h2⟩ := compUpTo hs m (by omega)
    rw [Lib.compactUpTo_succ]
    by_cases hk : Lib.keeps d m = true
    · rw [if_pos hk]
      refine ⟨fun x => ?_, List.pairwise_append.2 ⟨h2, List.pairwise_singleton _ _, fun a ha b hb => ?_⟩⟩
      · rw [List.mem_append, h1, List.mem_singleton]
        constructor
        · rintro (⟨j, hj, rfl⟩ | rfl)
          · exact ⟨j, by omega, rfl⟩
          · exact ⟨m, by omega, rfl⟩
        · rintro ⟨j, hj, rfl⟩
          rcases Nat.lt_or_ge j m with h | h
          · exact .inl ⟨j, h, rfl⟩
          · obtain rfl : j = m := by omega
            exact .inr rfl
      · obtain ⟨j, hj, rfl⟩ := (h1 a).1 ha
        rw [List.mem_singleton] at hb; subst hb
        have hk' := of_decide_eq_true hk
        have hk2 : d[m]! ≠ d[m - 1]! := hk'.resolve_left (by omega)
        have e1 : d[j]! ≤ d[m - 1]! := hs j (m - 1) (by omega) (by omega)
        have e2 : d[m - 1]! ≤ d[m]! := hs (m - 1) m (by omega) (by omega)
        have e3 : d[m - 1]! < d[m]! := by
          apply Classical.byContradiction
          intro h
          exact hk2 (List.le_antisymm (List.not_lt.1 h) e2)
        exact List.lt_of_le_of_lt e1 e3
    · rw [if_neg hk, List.append_nil]
      refine ⟨fun x => ?_, h2⟩
      rw [h1]
      have hk' : ¬ (m = 0 ∨ d[m]! ≠ d[m - 1]!) := fun h => hk (decide_eq_true h)
      have hm0 : m ≠ 0 := fun h => hk' (.inl h)
      have he : d[m]! = d[m - 1]! := Classical.byContradiction fun h => hk' (.inr h)
      constructor
      · rintro ⟨j, hj, rfl⟩; exact ⟨j, by omega, rfl⟩
      · rintro ⟨j, hj, rfl⟩
        rcases Nat.lt_or_ge j m with h | h
        · exact ⟨j, h, rfl⟩
        · obtain rfl : j = m := by omega
          exact ⟨j - 1, by omega, he⟩

theorem compactS_spec {l : List ByteArray} (h : ascS l) : (∀ x, x ∈ compactS l ↔ x ∈ l) ∧ strS (compactS l) := by
  have hg : ∀ (j : Nat) s, l[j]? = some s → (l.map bts).toArray[j]! = bts s := fun j s hs => get!_of (by simp [hs])
  have hs : ∀ i j, i ≤ j → j < (l.map bts).toArray.size → (l.map bts).toArray[i]! ≤ (l.map bts).toArray[j]! := fun i j hij hj => by
    have hj : j < l.length := by simpa using hj
    rw [hg i l[i] (List.getElem?_eq_getElem (by omega)), hg j l[j] (List.getElem?_eq_getElem hj)]
    rcases Nat.lt_or_ge i j with hlt | hge
    · have := List.pairwise_iff_getElem.1 h i j (by omega) hj hlt
      rw [sLt_eq] at this
      exact List.not_lt.1 (of_decide_eq_false this)
    · obtain rfl : i = j := by omega
      exact List.le_refl _
  obtain ⟨h1, h2⟩ := compUpTo hs (l.map bts).length (by simp)
  refine ⟨fun x => ?_, ?_⟩
  · unfold compactS
    rw [List.mem_map]
    constructor
    · rintro ⟨y, hy, rfl⟩
      obtain ⟨j, hj, rfl⟩ := (h1 y).1 hy
      have hj : j < l.length := by simpa using hj
      rw [hg j l[j] (List.getElem?_eq_getElem hj), bts_back]
      exact List.getElem_mem hj
    · intro hx
      obtain ⟨j, hj⟩ := List.getElem?_of_mem hx
      have hjl := (List.getElem?_eq_some_iff.1 hj).1
      exact ⟨bts x, (h1 _).2 ⟨j, by simpa using hjl, (hg j x hj).symm⟩, bts_back x⟩
  · unfold strS compactS
    rw [List.pairwise_map]
    exact h2.imp fun {a b} h => by rw [sLt_eq, bts_of, bts_of]; exact decide_eq_true h

theorem sLt_irr (a : ByteArray) : sLt a a = false := by rw [sLt_eq]; exact decide_eq_false (List.lt_irrefl _)
theorem sLt_trans {a b c : ByteArray} (h1 : sLt a b = true) (h2 : sLt b c = true) : sLt a c = true := by
  rw [sLt_eq] at *
  exact decide_eq_true (List.lt_trans (of_decide_eq_true h1) (of_decide_eq_true h2))
theorem sLt_conn {a b : ByteArray} (h1 : sLt a b = false) (h2 : sLt b a = false) : a = b := by
  rw [sLt_eq] at *
  exact bts_inj (List.le_antisymm (List.not_lt.1 (of_decide_eq_false h2)) (List.not_lt.1 (of_decide_eq_false h1)))

/-- Two strictly ascending lists of the same strings are one. -/
theorem strS_unique : ∀ {a b : List ByteArray}, strS a → strS b → (∀ x, x ∈ a ↔ x ∈ b) → a = b
  | [], [], _, _, _ => rfl
  | [], y :: b, _, _, h => by have := (h y).2 (by simp); simp at this
  | x :: a, [], _, _, h => by have := (h x).1 (by simp); simp at this
  | x :: a, y :: b, ha, hb, h => by
    have ha' := List.pairwise_cons.1 ha
    have hb' := List.pairwise_cons.1 hb
    have e : x = y := by
      rcases List.mem_cons.1 ((h x).1 (by simp)) with e | e
      · exact e
      rcases List.mem_cons.1 ((h y).2 (by simp)) with e2 | e2
      · exact e2.symm
      have h1 := hb'.1 x e
      have h2 := ha'.1 y e2
      have := sLt_trans h1 h2
      rw [sLt_irr] at this; cases this
    subst e
    rw [strS_unique ha'.2 hb'.2 fun z => ?_]
    constructor
    · intro hz
      rcases List.mem_cons.1 ((h z).1 (List.mem_cons_of_mem _ hz)) with rfl | e
      · have := ha'.1 z hz; rw [sLt_irr] at this; cases this
      · exact e
    · intro hz
      rcases List.mem_cons.1 ((h z).2 (List.mem_cons_of_mem _ hz)) with rfl | e
      · have := hb'.1 z hz; rw [sLt_irr] at this; cases this
      · exact e
end Go.Cw

/-
  Cw: the library's sort, part 3: slices.SortFunc at structs of k cells. Conditions: the program bears its text (SlLaysF0.n6); the function that compares is a strict weak order on the rows.
-/
namespace Go.Cw
open Go.Sort Go.Shelf
set_option linter.unusedVariables false
variable {P : Program} {ρ : Ren}

/-- Nobody behind comes before. -/
def RowsAsc (C : List PV → List PV → Int) (ys : List (List PV)) : Prop := ∀ (i j : Nat) x y, i < j → ys[i]? = some x → ys[j]? = some y → ¬ C y x < 0

structure WeakOrd (C : List PV → List PV → Int) (xs : List (List PV)) : Prop where
  irr : ∀ x ∈ xs, ¬ C x x < 0
  trans : ∀ x ∈ xs, ∀ y ∈ xs, ∀ z ∈ xs, C x y < 0 → C y z < 0 → C x z < 0
  ntrans : ∀ x ∈ xs, ∀ y ∈ xs, ∀ z ∈ xs, ¬ C x y < 0 → ¬ C y z < 0 → ¬ C x z < 0

end Go.Cw

/-
  What a law is handed, type by type.
-/
namespace Go.Cw
set_option linter.unusedVariables false
def intAt (T : Tab) (t : TypeId) : Bool := match look T t with
  | some ⟨_, _, _, .int .i64, _⟩ => true
  | _ => false
def strAt (T : Tab) (t : TypeId) : Bool := match look T t with
  | some ⟨_, _, _, .str, _⟩ => true
  | _ => false
def boolAt (T : Tab) (t : TypeId) : Bool := match look T t with
  | some ⟨_, _, _, .bool, _⟩ => true
  | _ => false
def elemAt (T : Tab) (t : TypeId) : Option (TypeId × Nat) := match look T t with
  | some ⟨_, _, _, .slice e, _⟩ => match look T e with
    | some d => some (e, d.size)
    | none => none
  | _ => none
def fieldsAt (T : Tab) (t : TypeId) : Option (List TypeId) := match look T t with
  | some ⟨_, _, _, .struct fs, _⟩ => some (fs.map (·.2))
  | _ => none
def aggAt (T : Tab) (t : TypeId) : Option Bool := match look T t with
  | some d => some d.agg
  | none => none
section
variable {T : Tab} {N : TypeId → Nat} {t : TypeId} {qs : List PV}
theorem kd_int (hk : intAt T t = true) (h : PTyN T N t qs) : ∃ n : Int, qs = [.val (.int .i64 n)] ∧ -9223372036854775808 ≤ n ∧ n ≤ 9223372036854775807 := by
  unfold intAt at hk
  cases h with
  | int h hw => rw [h] at hk; rename_i k _ n; cases k <;> first | exact ⟨n, rfl, hw.1, hw.2⟩ | cases hk
  | bool h => rw [h] at hk; cases hk
  | str h => rw [h] at hk; cases hk
  | slice h => rw [h] at hk; cases hk
  | struct h => rw [h] at hk; cases hk
theorem kd_str (hk : strAt T t = true) (h : PTyN T N t qs) : ∃ s : ByteArray, qs = [.val (.string s)] ∧ s.size ≤ 9223372036854775807 := by
  unfold strAt at hk
  cases h with
  | int h => rw [h] at hk; cases hk
  | bool h => rw [h] at hk; cases hk
  | str h hs => exact ⟨_, rfl, hs⟩
  | slice h => rw [h] at hk; cases hk
  | struct h => rw [h] at hk; cases hk
theorem kd_rows {α : Type} {f : α → List PV} {p : α → Prop} : ∀ {xs : List (List PV)}, (∀ r ∈ xs, ∃ a, r = f a ∧ p a) → ∃ l : List α, xs = l.map f ∧ ∀ a ∈ l, p a
  | [], _ => ⟨[], rfl, by simp⟩
  | r :: xs, h => by
    obtain ⟨a, rfl, ha⟩ := h r (by simp)
    obtain ⟨l, rfl, hl⟩ := kd_rows (xs := xs) fun r hr => h r (by simp [hr])
    exact ⟨a :: l, rfl, by simpa using ⟨ha, hl⟩⟩
theorem kd_slice {α : Type} (f : α → List PV) (p : α → Prop) {e : TypeId} {z : Nat} (hk : elemAt T t = some (e, z)) (hr : ∀ r, PTyN T N e r → ∃ a, r = f a ∧ p a) (h : PTyN T N t qs) :
    ∃ l : List α, qs = [.sl z (l.map f)] ∧ l.length ≤ N e ∧ ∀ a ∈ l, p a := by
  unfold elemAt at hk
  cases h with
  | int h => rw [h] at hk; cases hk
  | bool h => rw [h] at hk; cases hk
  | str h hs => rw [h] at hk; cases hk
  | slice h he2 hlen hx =>
    rw [h] at hk
    dsimp only at hk
    rw [he2] at hk
    injection hk with hk; injection hk with hk hz; subst hk; subst hz
    obtain ⟨l, rfl, hl⟩ := kd_rows (f := f) (p := p) fun r hr' => by obtain ⟨i, hi⟩ := List.getElem?_of_mem hr'; exact hr r (hx i r hi)
    exact ⟨l, rfl, by simpa using hlen, hl⟩
  | struct h => rw [h] at hk; cases hk
theorem kd_struct {ts : List TypeId} (hk : fieldsAt T t = some ts) (h : PTyN T N t qs) : PTyLN T N ts qs := by
  unfold fieldsAt at hk
  cases h with
  | int h => rw [h] at hk; cases hk
  | bool h => rw [h] at hk; cases hk
  | str h hs => rw [h] at hk; cases hk
  | slice h => rw [h] at hk; cases hk
  | struct h hr => rw [h] at hk; injection hk with hk; subst hk; exact hr
theorem kd_cons {ts : List TypeId} (h : PTyLN T N (t :: ts) qs) : ∃ q r, qs = q ++ r ∧ PTyN T N t q ∧ PTyLN T N ts r := by
  cases h with
  | cons h hd hq hr => exact ⟨_, _, rfl, h, hr⟩
theorem kd_nil (h : PTyLN T N [] qs) : qs = [] := by cases h; rfl
variable {ts : List TypeId} {al : List AV}
theorem args_one (hk : aggAt T t = some false) (h : ArgsN T N (t :: ts) al) : ∃ q al', al = .pv q :: al' ∧ PTyN T N t [q] ∧ ArgsN T N ts al' := by
  cases h with
  | one h hl ha hr => exact ⟨_, _, rfl, h, hr⟩
  | agg h hl ha hr => unfold aggAt at hk; rw [hl] at hk; injection hk with hk; rw [ha] at hk; cases hk
end
end Go.Cw

/-
  How long what a law is handed is: by the form's own reach.
-/
namespace Go.Cw
set_option linter.unusedVariables false
section
variable {H : Type} {P : Program}
theorem weights_all {e : TypeId} {n : Nat} {d : DataW H} : ∀ {l : List (DataW H)}, d ∈ l → n ∈ d.weights P e → n ∈ DataW.weightsAll P e l
  | x :: l, h, hn => by
    simp only [DataW.weightsAll, List.mem_append]
    rcases List.mem_cons.1 h with rfl | h
    · exact .inl hn
    · exact .inr (weights_all h hn)
  | [], h, _ => by cases h
theorem weights_each {t : TypeId} {n : Nat} {d : DataW H} : ∀ {ts : List TypeId} {ds : List (DataW H)} {i : Nat}, ts[i]? = some t → ds[i]? = some d → n ∈ d.weights P t → n ∈ DataW.weightsEach P ts ds
  | t0 :: ts, d0 :: ds, 0, h1, h2, hn => by
    simp only [List.getElem?_cons_zero, Option.some.injEq] at h1 h2
    subst h1; subst h2
    simp only [DataW.weightsEach, List.mem_append]
    exact .inl hn
  | t0 :: ts, d0 :: ds, i + 1, h1, h2, hn => by
    simp only [List.getElem?_cons_succ] at h1 h2
    simp only [DataW.weightsEach, List.mem_append]
    exact .inr (weights_each h1 h2 hn)
  | [], _, _, h1, _, _ => by simp at h1
  | _ :: _, [], _, _, h2, _ => by simp at h2
def wN (P : Program) (e : TypeId) : Nat := match P.bytesOf e with
  | 0 => 9223372036854775807
  | b + 1 => reachBytes / (b + 1)
/-- The form's own reach. -/
def Within (P : Program) (t : TypeId) (d : DataW H) : Prop := ∀ n ∈ d.weights P t, n ≤ reachBytes
theorem bnd_w : Bnd P (Within (H := H) P) (wN P) := by
  constructor
  · intro t e elems spare hu h
    have hw : DataW.weights P t (.slice elems spare) = (elems.length + spare.length) * P.bytesOf e :: (DataW.weightsAll P e elems ++ DataW.weightsAll P e spare) := by
      simp only [DataW.weights, hu]
    refine ⟨fun hl => ?_, fun d hd n hn => h n (by rw [hw]; exact List.mem_cons_of_mem _ (List.mem_append.2 (.inl (weights_all hd hn))))⟩
    have h0 := h _ (by rw [hw]; exact List.mem_cons_self ..)
    unfold wN
    cases hb : P.bytesOf e with
    | zero => exact hl
    | succ b =>
      rw [hb] at h0
      rw [Nat.le_div_iff_mul_le (Nat.succ_pos b)]
      exact Nat.le_trans (Nat.mul_le_mul_right _ (Nat.le_add_right ..)) h0
  · intro t fs parts hu h i f d hf hd n hn
    refine h n ?_
    have hw : DataW.weights P t (.agg parts) = DataW.weightsEach P (fs.toList.map (·.type)) parts := by
      simp only [DataW.weights, hu]
    rw [hw]
    exact weights_each (i := i) (by rw [List.getElem?_map, hf]; rfl) hd hn
theorem within_of {ts us : List TypeId} {ds gs : List (DataW H)} (h : (DataW.weightsEach P (ts ++ us) (ds ++ gs)).all (· ≤ reachBytes) = true) : ∀ (j : Nat) t d, ts[j]? = some t → ds[j]? = some d → Within P t d := fun j t d ht hd n hn => by
  have hm : n ∈ DataW.weightsEach P (ts ++ us) (ds ++ gs) := weights_each (i := j) (by rw [List.getElem?_append_left (List.getElem?_eq_some_iff.1 ht).1]; exact ht) (by rw [List.getElem?_append_left (List.getElem?_eq_some_iff.1 hd).1]; exact hd) hn
  exact of_decide_eq_true (List.all_eq_true.1 h n hm)
end
end Go.Cw
