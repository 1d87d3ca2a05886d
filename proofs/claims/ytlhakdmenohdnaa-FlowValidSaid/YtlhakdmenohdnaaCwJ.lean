/-
  Cw, part J: what a law is handed, as pure values with their types.
-/
import Derived.Test.YtlhakdmenohdnaaCwL
import Derived.Carry
import Derived.ChangeSame
import Derived.WideShapes
namespace Go.Cw
set_option linter.unusedVariables false
open Go.WideShapes

mutual
/-- The cells of a pure value of a type. -/
inductive PTy (T : Tab) : TypeId → List PV → Prop
  | int {t : TypeId} {size bytes : Nat} {agg : Bool} {k : IntKind} {zero : List PV} {n : Int} (h : look T t = some ⟨size, bytes, agg, .int k, zero⟩) (hw : k.min ≤ n ∧ n ≤ k.max) : PTy T t [.val (.int k n)]
  | bool {t : TypeId} {size bytes : Nat} {agg : Bool} {zero : List PV} {b : Bool} (h : look T t = some ⟨size, bytes, agg, .bool, zero⟩) : PTy T t [.val (.bool b)]
  | str {t : TypeId} {size bytes : Nat} {agg : Bool} {zero : List PV} {s : ByteArray} (h : look T t = some ⟨size, bytes, agg, .str, zero⟩) (hs : s.size ≤ 9223372036854775807) : PTy T t [.val (.string s)]
  | slice {t : TypeId} {size bytes : Nat} {agg : Bool} {e : TypeId} {zero : List PV} {esize ebytes : Nat} {eagg : Bool} {etk : TK} {ezero : List PV} {xs : List (List PV)} (h : look T t = some ⟨size, bytes, agg, .slice e, zero⟩)
      (he : look T e = some ⟨esize, ebytes, eagg, etk, ezero⟩) (hl : xs.length ≤ 9223372036854775807) (hx : ∀ (i : Nat) r, xs[i]? = some r → PTy T e r) : PTy T t [.sl esize xs]
  | struct {t : TypeId} {size bytes : Nat} {agg : Bool} {fs : List (Nat × TypeId)} {zero : List PV} {cs : List PV} (h : look T t = some ⟨size, bytes, agg, .struct fs, zero⟩) (hl : PTyL T (fs.map (·.2)) cs) : PTy T t cs
inductive PTyL (T : Tab) : List TypeId → List PV → Prop
  | nil : PTyL T [] []
  | cons {t : TypeId} {ts : List TypeId} {q qs : List PV} {d : TyD} (h : PTy T t q) (hd : look T t = some d) (hq : q.length = d.size) (hr : PTyL T ts qs) : PTyL T (t :: ts) (q ++ qs)
end

def tiles (T : Tab) : Nat → List (Nat × TypeId) → Nat → Bool
  | o, [], size => Nat.beq o size
  | o, (off, t) :: l, size => match look T t with
    | some d => Nat.beq off o && tiles T (o + d.size) l size
    | none => false

/-- Types whose values 'PTy' tells. -/
def plain (T : Tab) : Nat → TypeId → Bool
  | 0, _ => false
  | n + 1, t => match look T t with
    | some ⟨size, _, agg, tk, _⟩ => match tk with
      | .int _ | .bool | .str => Nat.beq size 1 && !agg
      | .slice e => Nat.beq size 1 && !agg && (match look T e with
        | some d => Nat.blt 0 d.size
        | none => false) && plain T n e
      | .struct fs => tiles T 0 fs size && agg && fs.all fun f => plain T n f.2
      | _ => false
    | none => false

section
variable {H : Type} {enc : TypeId × Value → H} {P : Program} {T : Tab} {W : World}

theorem mapM_opt {α γ : Type} {f : α → Option γ} : ∀ {l : List α} {r : List γ}, l.mapM f = some r → r.length = l.length ∧ ∀ (j : Nat) x, l[j]? = some x → ∃ y, r[j]? = some y ∧ f x = some y
  | [], r, h => by simp at h; subst h; simp
  | x :: l, r, h => by
    simp only [List.mapM_cons, Option.bind_eq_bind, Option.bind_eq_some_iff, Option.pure_def, Option.some.injEq] at h
    obtain ⟨y, hy, ys, hys, rfl⟩ := h
    obtain ⟨h1, h2⟩ := mapM_opt hys
    refine ⟨by simp [h1], fun j z hj => ?_⟩
    cases j with
    | zero => simp at hj; subst hj; exact ⟨y, rfl, hy⟩
    | succ j => simpa using h2 j z (by simpa using hj)

theorem pick_list {α : Type} {R : Nat → α → Prop} : ∀ (n : Nat), (∀ i, i < n → ∃ x, R i x) → ∃ xs : List α, xs.length = n ∧ ∀ (i : Nat) x, xs[i]? = some x → R i x
  | 0, _ => ⟨[], rfl, fun i x h => by simp at h⟩
  | n + 1, h => by
    obtain ⟨xs, h1, h2⟩ := pick_list n fun i hi => h i (by omega)
    obtain ⟨x, hx⟩ := h n (by omega)
    refine ⟨xs ++ [x], by simp [h1], fun i y hy => ?_⟩
    rcases Nat.lt_or_ge i n with hi | hi
    · rw [List.getElem?_append_left (by omega)] at hy; exact h2 i y hy
    · have : i = n := by have := (List.getElem?_eq_some_iff.1 hy).1; simp at this; omega
      subst this
      rw [List.getElem?_append_right (by omega)] at hy
      simp [h1] at hy; subst hy; exact hx

theorem tkOf_int {u : TypeDesc} {k : IntKind} (h : TK.int k = tkOf u) : u = .int k := by cases u <;> simp [tkOf] at h; subst h; rfl

/-- What stands in cells. -/
def Reads (W : World) (qs : List PV) (cs : List Value) : Prop := qs.length = cs.length ∧ ∀ (j : Nat) q v, qs[j]? = some q → cs[j]? = some v → v.oneCell' = true ∧ PRel (fun b => b < W.heap.size) W q v

theorem cell_block {a : Addr} {v : Value} (h : W.cell? a = some v) : a.block < W.heap.size := by
  unfold World.cell? at h
  split at h
  · rename_i hb
    have := (Array.getElem?_eq_some_iff.1 hb).1
    exact this
  · cases h

theorem reads_one {q : PV} {v : Value} (h1 : v.oneCell' = true) (h : PRel (fun b => b < W.heap.size) W q v) : Reads W [q] [v] := ⟨rfl, fun j q' v' hq hv => by
  cases j with
  | zero => simp at hq hv; subst hq; subst hv; exact ⟨h1, h⟩
  | succ j => simp at hq⟩

theorem cells_sp {a : Addr} {n : Nat} {cs : List Value} (h : W.cells? 0 a n = some cs) : cs.length = n ∧ ∀ j, j < n → ∃ v, cs[j]? = some v ∧ W.cell? (a.add j) = some v := by
  unfold World.cells? at h
  rw [if_pos (Nat.zero_le _)] at h
  obtain ⟨h1, h2⟩ := mapM_opt h
  refine ⟨by simpa using h1, fun j hj => ?_⟩
  obtain ⟨y, h3, h4⟩ := h2 j j (by simp [hj])
  exact ⟨y, h3, h4⟩

theorem trod_pv (hT : TabOk P T) : ∀ (n fuel : Nat) (t : TypeId) (cs : List Value) (x : DataW H × List MemPlace), plain T n t = true → DataW.trod enc P W 0 (fun _ => true) true fuel t cs = some x →
    ∃ qs, PTy T t qs ∧ Reads W qs cs ∧ ∃ d, look T t = some d ∧ cs.length = d.size
  | 0, fuel, t, cs, x, h, _ => by simp [plain] at h
  | n + 1, 0, t, cs, x, _, h => by simp [DataW.trod] at h
  | n + 1, fuel + 1, t, cs, x, hp, h => by
    simp only [plain] at hp
    split at hp
    · rename_i size bytes agg tk zero hl
      obtain ⟨i, u, z, hi, hu, _, _, hsz, _, _, htk, _⟩ := look_spec hT hl
      split at hp
      · rename_i k
        have := tkOf_int htk; subst this
        simp only [Bool.and_eq_true, Nat.beq_eq] at hp
        obtain ⟨rfl, _⟩ := hp
        unfold DataW.trod at h
        rw [hu] at h
        split at h <;> try (rename_i h0 _; cases h0; done)
        all_goals (try (rename_i h0; cases h0; done))
        · rename_i h0
          injection h0 with h0; injection h0 with h0; subst h0
          split at h
          · rename_i hk
            obtain ⟨rfl, hw⟩ := hk
            simp only [Lit.wf, Bool.and_eq_true, decide_eq_true_eq] at hw
            exact ⟨_, .int hl hw, reads_one rfl (.val _), _, hl, rfl⟩
          · cases h
        · cases h
      · have := tkOf_bool htk; subst this
        simp only [Bool.and_eq_true, Nat.beq_eq] at hp
        obtain ⟨rfl, _⟩ := hp
        unfold DataW.trod at h
        rw [hu] at h
        split at h <;> try (rename_i h0 _; cases h0; done)
        all_goals (try (rename_i h0; cases h0; done))
        · exact ⟨_, .bool hl, reads_one rfl (.val _), _, hl, rfl⟩
        · cases h
      · have := tkOf_str htk; subst this
        simp only [Bool.and_eq_true, Nat.beq_eq] at hp
        obtain ⟨rfl, _⟩ := hp
        unfold DataW.trod at h
        rw [hu] at h
        split at h <;> try (rename_i h0 _; cases h0; done)
        all_goals (try (rename_i h0; cases h0; done))
        · split at h
          · rename_i hs
            exact ⟨_, .str hl (by simpa [maxLen] using hs), reads_one rfl (.val _), _, hl, rfl⟩
          · cases h
        · cases h
      · rename_i e
        have := tkOf_slice htk; subst this
        simp only [Bool.and_eq_true, Nat.beq_eq] at hp
        obtain ⟨⟨⟨rfl, _⟩, hpos⟩, hpe⟩ := hp
        split at hpos
        case h_2 => cases hpos
        rename_i de hle
        obtain ⟨esize, ebytes, eagg, etk, ezero⟩ := de
        obtain ⟨ie, ue, ze, hie, hue, _, _, hesz, _, _, hetk, _⟩ := look_spec hT hle
        have hcells : P.cellsOf e = esize := by simp [Program.cellsOf, hie, hesz]
        unfold DataW.trod at h
        rw [hu] at h
        split at h <;> try (rename_i h0 _; cases h0; done)
        all_goals (try (rename_i h0; cases h0; done))
        · exact ⟨[.sl esize []], .slice hl hle (Nat.zero_le _) (fun i r h => by simp at h), reads_one rfl (PLe.nil _ _ _ (.val _)), _, hl, rfl⟩
        · rename_i a len cap h0
          injection h0 with h0; injection h0 with h0; subst h0
          simp only [hcells] at h
          split at h
          case isFalse => cases h
          rename_i hcap
          simp only [Option.bind_eq_some_iff] at h
          obtain ⟨elems, hel, _⟩ := h
          obtain ⟨hlen, hget⟩ := mapM_opt hel
          have hrow : ∀ i, i < len → ∃ qs : List PV, PTy T e qs ∧ qs.length = esize ∧ a.block < W.heap.size ∧ ∀ j, j < esize → ∃ q v, qs[j]? = some q ∧ W.cell? (a.add (i * esize + j)) = some v ∧ v.oneCell' = true ∧ PRel (fun b => b < W.heap.size) W q v := fun i hi => by
            obtain ⟨y, _, hy⟩ := hget i i (by simp [hi])
            simp only [Option.bind_eq_some_iff] at hy
            obtain ⟨cs', hcs', htr⟩ := hy
            obtain ⟨qs, h1, ⟨h2, h2'⟩, d, h3, h4⟩ := trod_pv hT n fuel e cs' y hpe htr
            rw [hle] at h3; injection h3 with h3; subst h3
            obtain ⟨h5, h6⟩ := cells_sp hcs'
            have hb : a.block < W.heap.size := by
              obtain ⟨v, _, hv⟩ := h6 0 (by simpa [Nat.blt_eq] using hpos)
              have := cell_block hv
              rwa [add_block, add_block] at this
            refine ⟨qs, h1, by rw [h2, h4], hb, fun j hj => ?_⟩
            obtain ⟨v, hv, hcell⟩ := h6 j hj
            have hq : qs[j]? = some qs[j] := List.getElem?_eq_getElem (by rw [h2, h5]; exact hj)
            rw [add_add] at hcell
            exact ⟨_, v, hq, hcell, (h2' j _ v hq hv).1, (h2' j _ v hq hv).2⟩
          obtain ⟨xs, hxl, hxs⟩ := pick_list len hrow
          subst hxl
          refine ⟨[.sl esize xs], .slice hl hle (by simp [maxLen] at hcap; omega) (fun i r hr => (hxs i r hr).1), reads_one rfl ?_, _, hl, rfl⟩
          refine .sl (fun i j => (W.cell? (a.add (i * esize + j))).getD undef) hcap.2.1 (fun i r hr => ?_) (fun i r j p hr hp => ?_)
          · obtain ⟨_, h1, hb, h2⟩ := hxs i r hr
            refine ⟨h1, a, rfl, hb, fun j hj => ?_⟩
            obtain ⟨q, v, _, h3, h4, _⟩ := h2 j hj
            simp only [h3, Option.getD_some]
            exact ⟨trivial, h4⟩
          · obtain ⟨_, h1, hb, h2⟩ := hxs i r hr
            have hj : j < esize := by rw [← h1]; exact (List.getElem?_eq_some_iff.1 hp).1
            obtain ⟨q, v, h3, h4, _, h5⟩ := h2 j hj
            rw [hp] at h3; injection h3 with h3; subst h3
            simp only [h4, Option.getD_some]
            exact h5
        · cases h
      · rename_i fs
        obtain ⟨Fs, rfl, rfl⟩ := tkOf_struct htk
        simp only [Bool.and_eq_true, List.all_eq_true] at hp
        obtain ⟨⟨htile, _⟩, hall⟩ := hp
        have hcells : P.cellsOf t = size := by simp [Program.cellsOf, hi, hsz]
        unfold DataW.trod at h
        simp only [hu] at h
        · split at h
          case isFalse => cases h
          rename_i hlen
          rw [hcells] at hlen
          simp only [Option.map_eq_some_iff] at h
          obtain ⟨xs, hxs, _⟩ := h
          have key : ∀ (fs : List Field) (o : Nat) (xs : List (DataW H × List MemPlace)), tiles T o (fs.map fun f => (f.offset, f.type)) size = true → (∀ f ∈ fs, plain T n f.type = true) → o ≤ cs.length →
              fs.mapM (fun f => DataW.trod enc P W 0 (fun _ => true) true fuel f.type ((cs.drop f.offset).take (P.cellsOf f.type))) = some xs →
              ∃ qs, PTyL T (fs.map (·.type)) qs ∧ Reads W qs (cs.drop o) := by
            intro fs
            induction fs with
            | nil =>
              intro o xs h1 _ ho _
              simp only [List.map_nil, tiles] at h1
              have : o = size := Nat.eq_of_beq_eq_true h1
              refine ⟨[], .nil, by simp; omega, fun j q v hq => by simp at hq⟩
            | cons f fs ih =>
              intro o xs h1 h2 ho h3
              simp only [List.map_cons, tiles] at h1
              split at h1
              case h_2 => cases h1
              rename_i df hdf
              simp only [Bool.and_eq_true] at h1
              obtain ⟨hoff, h1⟩ := h1
              have hoff := Nat.eq_of_beq_eq_true hoff
              simp only [List.mapM_cons, Option.bind_eq_bind, Option.bind_eq_some_iff, Option.pure_def, Option.some.injEq] at h3
              obtain ⟨y, hy, ys, hys, _⟩ := h3
              obtain ⟨qs, g1, ⟨g2, g2'⟩, d, g3, g4⟩ := trod_pv hT n fuel f.type _ y (h2 f (by simp)) hy
              rw [hdf] at g3; injection g3 with g3; subst g3
              obtain ⟨dsz, dby, dag, dtk, dze⟩ := df
              obtain ⟨fi, fu, fz, hfi, _, _, _, hfsz, _⟩ := look_spec hT hdf
              have hfc : P.cellsOf f.type = dsz := by simp [Program.cellsOf, hfi, hfsz]
              rw [hfc, hoff] at g4 g2 g2'
              simp only [List.length_take, List.length_drop] at g4
              simp only at h1
              obtain ⟨qs', k1, k2, k3⟩ := ih (o + dsz) ys h1 (fun f hf => h2 f (by simp [hf])) (by omega) hys
              refine ⟨qs ++ qs', .cons g1 hdf (by rw [g2]; simp; omega) k1, ?_, fun j q v hq hv => ?_⟩
              · simp only [List.length_append, k2, g2, List.length_take, List.length_drop]; omega
              · rcases Nat.lt_or_ge j qs.length with hj | hj
                · rw [List.getElem?_append_left hj] at hq
                  have hjd : j < dsz := by rw [g2] at hj; simp at hj; omega
                  exact g2' j q v hq (by rw [List.getElem?_take, if_pos hjd]; exact hv)
                · rw [List.getElem?_append_right hj] at hq
                  have hql : qs.length = dsz := by rw [g2]; simp; omega
                  refine k3 (j - qs.length) q v hq ?_
                  rw [List.getElem?_drop] at hv ⊢
                  rw [← hv]; congr 1; omega
          obtain ⟨qs, g1, g2⟩ := key Fs.toList 0 xs htile (fun f hf => hall (f.offset, f.type) (by simpa using ⟨f, by simpa using hf, rfl, rfl⟩)) (Nat.zero_le _) hxs
          rw [List.drop_zero] at g2
          refine ⟨qs, .struct hl (by simpa [List.map_map, Function.comp_def] using g1), g2, _, hl, hlen⟩
      · cases hp
    · cases hp

end
end Go.Cw
