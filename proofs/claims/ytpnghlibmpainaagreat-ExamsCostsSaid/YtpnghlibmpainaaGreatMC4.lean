/-
  Part 4 of the proof (CwSC): what later parts use. No conditions.
-/
import Derived.Shelf.Slices.CompactS
import Derived.Sort.Walk0
import Derived.Test.YtpnghlibmpainaaGreatMC3

/-
  Cw: the library's sort, part 4: slices.Compact at strings; what slices.Sort and slices.Compact give together. Conditions: the program bears its text (Lays.n194).
-/
namespace Go.Cw
open Go.Sort Go.Shelf
set_option linter.unusedVariables false
variable {P : Program} {ρ : Ren}

/-- Of equal neighbours the first. -/
def compactS (l : List ByteArray) : List ByteArray := (Lib.compact (l.map bts)).map fun x => ⟨x.toArray⟩

theorem compact_len {α : Type} [Inhabited α] [DecidableEq α] (l : List α) : (Lib.compact l).length ≤ l.length := by
  unfold Lib.compact Lib.compactUpTo
  rw [List.length_map]
  have := List.length_filter_le (Lib.keeps l.toArray) (List.range l.length)
  rwa [List.length_range] at this

theorem compactS_len (l : List ByteArray) : (compactS l).length ≤ l.length := by
  unfold compactS
  rw [List.length_map]
  have := compact_len (l.map bts)
  rwa [List.length_map] at this

theorem arg_ms2 {I : Nat → Prop} {β : Beta} {w : World} {z n : Nat} {b : Nat × Nat} {v : Value} (h : ARel I β w (.ms 0 z 0 n) v) (hb : β[0]? = some (some b)) (hn : 0 < n) :
    ∃ cap, v = .slice (some ⟨b.1, b.2 * z, none⟩) n cap ∧ n ≤ cap ∧ cap ≤ maxLen ∧ ∃ t, w.shape? b.1 = some (t, (0 + b.2 + cap) * z) := by
  cases h with
  | ms h1 h2 h3 h4 h5 =>
    rw [hb] at h1; injection h1 with h1; injection h1 with h1; subst h1
    rcases h4 with h4 | h4
    · subst h4; exact ⟨_, by rw [Nat.zero_add], h2, h3, h5⟩
    · omega

theorem acall_compactS (L : Go.Proofs.Lays.n194 P ρ) (he : Enterable P (ρ.f 194)) (ty : TypeId) (ss : List ByteArray) (hne : ss ≠ []) (hlen : ss.length < 4611686018427387904) :
    ACall P (ρ.f 194) [.ms 0 1 0 ss.length] [some ⟨ty, 1, false, .p (ss.map strRow)⟩] fun r H' => r = .ms 0 1 0 (compactS ss).length ∧ ∃ zs : List ByteArray, H' = [some ⟨ty, 1, false, .p ((compactS ss).map strRow ++ zs.map strRow)⟩] := by
  refine ⟨he, fun I β w vs hH hvs hrel => ?_⟩
  obtain ⟨b, c, hb, hc, hI, hblk, hwide, hcell⟩ := obj_p hH
  obtain ⟨v, rfl⟩ : ∃ v, vs = #[v] := by
    match vs, hvs with
    | ⟨[v]⟩, _ => exact ⟨v, rfl⟩
  obtain ⟨cap, rfl, hcap, hcm, hsh⟩ := arg_ms2 (hrel 0 _ rfl) hb (List.length_pos_iff.2 hne)
  have hat : ∀ (i : Nat) s, ss[i]? = some s → c[b.2 + i]? = some (.string s) := fun i s hs => by
    obtain ⟨v, hv, ho, hp⟩ := hcell i 0 (strRow s) (.val (.string s)) (by simp [hs]) rfl
    cases hp
    rw [show b.2 + i = (i + b.2) * 1 + 0 by omega]; exact hv
  have hcs : b.2 + ss.length ≤ c.size := by
    have h0 := List.length_pos_iff.2 hne
    obtain ⟨s, hs⟩ : ∃ s, ss[ss.length - 1]? = some s := ⟨_, List.getElem?_eq_getElem (by omega)⟩
    have := (Array.getElem?_eq_some_iff.1 (hat _ _ hs)).1
    omega
  have hH2 : Holds Go.Proofs.encStr w b.1 b.2 (ss.map bts).toArray := fun j hj => by
    have hj : j < ss.length := by simpa using hj
    obtain ⟨s, hs⟩ : ∃ s, ss[j]? = some s := ⟨_, List.getElem?_eq_getElem hj⟩
    have e : (ss.map bts).toArray[j]! = bts s := get!_of (by simp [hs])
    refine ⟨?_, by simp [World.frozen?, hc]⟩
    rw [e]
    simp only [World.cell?, hc]
    show c[b.2 + j]? = some (.string ⟨(bts s).toArray⟩)
    rw [bts_back]; exact hat j s hs
  have hcall := Go.Proofs.Any.slices_Compact_string L b.1 b.2 cap (ss.map bts) w hH2 (by rw [List.length_map]; omega) (by rw [List.length_map]; exact hcap)
  have hcl := compact_len (ss.map bts)
  rw [List.length_map] at hcall hcl
  rw [Nat.mul_one]
  refine hcall.mono ?_
  rintro e w' ⟨rfl, n, rfl⟩
  let zs : List ByteArray := List.replicate (ss.length - (Lib.compact (ss.map bts)).length) ⟨(([] : List UInt8)).toArray⟩
  let all : List (List UInt8) := Lib.compact (ss.map bts) ++ List.replicate (ss.length - (Lib.compact (ss.map bts)).length) []
  have hal : all.length = ss.length := by simp only [all, List.length_append, List.length_replicate]; omega
  have hys : (compactS ss).map strRow ++ zs.map strRow = all.map fun l => strRow ⟨l.toArray⟩ := by
    simp only [compactS, zs, all, List.map_append, List.map_map, List.map_replicate]
    rfl
  have h := put_sim (ys := (compactS ss).map strRow ++ zs.map strRow) hH hb hc Go.Proofs.encStr all.toArray n b.2 #[]
    (fun i r hr => by rw [hys, List.getElem?_map] at hr; obtain ⟨s, -, rfl⟩ := Option.map_eq_some_iff.1 hr; rfl)
    (fun i j x hx => by
      rw [hys] at hx
      simp only [rowCell, List.getElem?_map] at hx
      cases hm : all[i]? with
      | none => rw [hm] at hx; cases hx
      | some s =>
        rw [hm] at hx
        have hi : i < ss.length := by rw [← hal]; exact (List.getElem?_eq_some_iff.1 hm).1
        cases j with
        | succ j => simp [strRow] at hx
        | zero =>
          simp only [Option.map_some, Option.bind_some, strRow, List.getElem?_cons_zero] at hx
          injection hx with hx; subst hx
          refine ⟨.string ⟨s.toArray⟩, ?_, rfl, .pv (.val _)⟩
          rw [show (i + b.2) * 1 + 0 = b.2 + i by omega, putCells_get (by simpa [hal] using hi) (by simpa [hal] using hcs)]
          congr 1
          rw [get!_of (x := s) (by simpa using hm)])
  rw [grow_empty] at h
  have hl3 : (compactS ss).length = (Lib.compact (ss.map bts)).length := List.length_map _
  refine ⟨_, _, I, β, _, rfl, ⟨rfl, zs, rfl⟩, h.1, ?_, h.2⟩
  rw [hl3]
  obtain ⟨t, ht⟩ := hsh
  exact .ms hb (Nat.le_trans hcl hcap) hcm (.inl (by omega)) ⟨t, h.2.shape _ _ _ ht⟩

theorem acall_compactS0 (L : Go.Proofs.Lays.n194 P ρ) (he : Enterable P (ρ.f 194)) : PCall P (ρ.f 194) [.pv (.val (.slice none 0 0))] (fun r => r = .pv (.val (.slice none 0 0))) := by
  refine ⟨he, fun I β w vs hH hvs hrel => ?_⟩
  obtain ⟨v0, rfl⟩ : ∃ v0, vs = #[v0] := by
    match vs, hvs with
    | ⟨[v]⟩, _ => exact ⟨v, rfl⟩
  have h0 := hrel 0 _ rfl
  cases h0 with
  | pv h0 =>
    change PRel I w _ v0 at h0
    cases h0
    refine (Go.Proofs.Any.slices_Compact_string_empty L none 0 w).mono ?_
    rintro e w' ⟨rfl, rfl⟩
    exact ⟨_, [], I, β, _, rfl, ⟨rfl, rfl⟩, hH, .pv (.val _), Evo.refl I β w'⟩

/-! ### Plain laws -/
theorem sLt_eq (a b : ByteArray) : sLt a b = decide (bts a < bts b) := Go.Proofs.bytesLess_eq _ _
theorem bts_of (x : List UInt8) : bts ⟨x.toArray⟩ = x := rfl

/-- Ascending; strictly. -/
def ascS (l : List ByteArray) : Prop := l.Pairwise fun a b => sLt b a = false
def strS (l : List ByteArray) : Prop := l.Pairwise fun a b => sLt a b = true

theorem sortS_perm (l : List ByteArray) : (sortS l).Perm l := by
  unfold sortS
  have h := (List.mergeSort_perm (l.map bts) fun x y => decide (x ≤ y)).map fun x => (⟨x.toArray⟩ : ByteArray)
  refine h.trans ?_
  rw [List.map_map]
  have : ((fun x => (⟨x.toArray⟩ : ByteArray)) ∘ bts) = id := funext fun s => bts_back s
  rw [this, List.map_id]
theorem sortS_asc (l : List ByteArray) : ascS (sortS l) := by
  unfold sortS ascS
  rw [List.pairwise_map]
  refine (List.pairwise_mergeSort (le := fun x y : List UInt8 => decide (x ≤ y)) ?_ ?_ (l.map bts)).imp fun {a b} h => ?_
  · intro a b c h1 h2
    exact decide_eq_true (List.le_trans (of_decide_eq_true h1) (of_decide_eq_true h2))
  · intro a b
    rcases List.le_total a b with h | h
    · simp [h]
    · simp [h]
  · rw [sLt_eq, bts_of, bts_of]
    exact decide_eq_false (List.not_lt.2 (of_decide_eq_true h))

theorem compUpTo {d : Array (List UInt8)} (hs : ∀ i j, i ≤ j → j < d.size → d[i]! ≤ d[j]!) : ∀ m, m ≤ d.size → (∀ x, x ∈ Lib.compactUpTo d m ↔ ∃ j, j < m ∧ x = d[j]!) ∧ (Lib.compactUpTo d m).Pairwise fun a b => a < b
  | 0, _ => by simp [Lib.compactUpTo]
  | m + 1, hm => by
    obtain ⟨h1, h2⟩ := compUpTo hs m (by omega)
    rw [Lib.compactUpTo_succ]
    by_cases hk : Lib.keeps d m = true
    · rw [if_pos hk]
      refine ⟨fun x => ?_, List.pairwise_append.2 ⟨h2, List.pairwise_singleton _ _, fun a ha b hb => ?_⟩⟩
      · rw [List.mem_append, h1, List.mem_singleton]
        constructor
        · rintro (⟨j, hj, rfl⟩ | rfl)
          · exact ⟨j, by omega, rfl⟩
          · exact ⟨m, by omega, rfl⟩
        · rintro ⟨j, hj, rfl⟩
          rcases Nat.lt_or_ge j m with h | h
          · exact .inl ⟨j, h, rfl⟩
          · obtain rfl : j = m := by omega
            exact .inr rfl
      · obtain ⟨j, hj, rfl⟩ := (h1 a).1 ha
        rw [List.mem_singleton] at hb; subst hb
        have hk' := of_decide_eq_true hk
        have hk2 : d[m]! ≠ d[m - 1]! := hk'.resolve_left (by omega)
        have e1 : d[j]! ≤ d[m - 1]! := hs j (m - 1) (by omega) (by omega)
        have e2 : d[m - 1]! ≤ d[m]! := hs (m - 1) m (by omega) (by omega)
        have e3 : d[m - 1]! < d[m]! := by
          apply Classical.byContradiction
          intro h
          exact hk2 (List.le_antisymm (List.not_lt.1 h) e2)
        exact List.lt_of_le_of_lt e1 e3
    · rw [if_neg hk, List.append_nil]
      refine ⟨fun x => ?_, h2⟩
      rw [h1]
      have hk' : ¬ (m = 0 ∨ d[m]! ≠ d[m - 1]!) := fun h => hk (decide_eq_true h)
      have hm0 : m ≠ 0 := fun h => hk' (.inl h)
      have he : d[m]! = d[m - 1]! := Classical.byContradiction fun h => hk' (.inr h)
      constructor
      · rintro ⟨j, hj, rfl⟩; exact ⟨j, by omega, rfl⟩
      · rintro ⟨j, hj, rfl⟩
        rcases Nat.lt_or_ge j m with h | h
        · exact ⟨j, h, rfl⟩
        · obtain rfl : j = m := by omega
          exact ⟨j - 1, by omega, he⟩

theorem compactS_spec {l : List ByteArray} (h : ascS l) : (∀ x, x ∈ compactS l ↔ x ∈ l) ∧ strS (compactS l) := by
  have hg : ∀ (j : Nat) s, l[j]? = some s → (l.map bts).toArray[j]! = bts s := fun j s hs => get!_of (by simp [hs])
  have hs : ∀ i j, i ≤ j → j < (l.map bts).toArray.size → (l.map bts).toArray[i]! ≤ (l.map bts).toArray[j]! := fun i j hij hj => by
    have hj : j < l.length := by simpa using hj
    rw [hg i l[i] (List.getElem?_eq_getElem (by omega)), hg j l[j] (List.getElem?_eq_getElem hj)]
    rcases Nat.lt_or_ge i j with hlt | hge
    · have := List.pairwise_iff_getElem.1 h i j (by omega) hj hlt
      rw [sLt_eq] at this
      exact List.not_lt.1 (of_decide_eq_false this)
    · obtain rfl : i = j := by omega
      exact List.le_refl _
  obtain ⟨h1, h2⟩ := compUpTo hs (l.map bts).length (by simp)
  refine ⟨fun x => ?_, ?_⟩
  · unfold compactS
    rw [List.mem_map]
    constructor
    · rintro ⟨y, hy, rfl⟩
      obtain ⟨j, hj, rfl⟩ := (h1 y).1 hy
      have hj : j < l.length := by simpa using hj
      rw [hg j l[j] (List.getElem?_eq_getElem hj), bts_back]
      exact List.getElem_mem hj
    · intro hx
      obtain ⟨j, hj⟩ := List.getElem?_of_mem hx
      have hjl := (List.getElem?_eq_some_iff.1 hj).1
      exact ⟨bts x, (h1 _).2 ⟨j, by simpa using hjl, (hg j x hj).symm⟩, bts_back x⟩
  · unfold strS compactS
    rw [List.pairwise_map]
    exact h2.imp fun {a b} h => by rw [sLt_eq, bts_of, bts_of]; exact decide_eq_true h

theorem sLt_irr (a : ByteArray) : sLt a a = false := by rw [sLt_eq]; exact decide_eq_false (List.lt_irrefl _)
end Go.Cw
