/-
  Cw, part O: a block that is written; append, store, make and literals of slices.
-/
import Derived.Test.YtlhakdmenohdnaaCwN
namespace Go.Cw
set_option linter.unusedVariables false
section
variable {P : Program} {T : Tab} {I : Nat → Prop} {β : Beta} {w : World} {H : Heap}

/-- Cells of rows, as a block has them from row s on. -/
def BCellsAt (I : Nat → Prop) (β : Beta) (w : World) (rows : Rows) (z s : Nat) (c : Array Value) : Prop :=
  ∀ i j x, rowCell rows i j = some x → ∃ v, c[(i + s) * z + j]? = some v ∧ v.oneCell' = true ∧ ARel I β w x v

theorem BCells.at0 {rows : Rows} {z : Nat} {c : Array Value} (h : BCells I β w rows z c) : BCellsAt I β w rows z 0 c := h

/-- A block that was object id's is written, and is object tgt's now. -/
theorem heap_upd (hH : HSim I β H w) {id tgt : Nat} {b b2 : Nat × Nat} {o on : AObj} (ho : H[id]? = some (some o)) (hb : β[id]? = some (some b)) (hbb : b2.1 = b.1) (hfz : o.fz = false) (hfn : on.fz = false) {w' : World} {c arr : Array Value}
    (hc : w.heap[b.1]? = some (.cells c o.ty (0, 0))) (hw1 : w'.heap[b.1]? = some (.cells arr o.ty (0, 0))) (hty : on.ty = o.ty) (hsz : arr.size = c.size) (hw2 : ∀ k, k ≠ b.1 → w'.heap[k]? = w.heap[k]?) (hw3 : w'.heap.size = w.heap.size)
    (hos : w'.os = w.os) (htp : w'.tape = w.tape) (hout : w'.output = w.output) {β2 : Beta} {H2 : Heap} (hlen : β2.length = H2.length) (hpre : ∀ (i : Nat) b, β[i]? = some (some b) → β2[i]? = some (some b))
    (hlive : ∀ (i : Nat) o2, H2[i]? = some (some o2) → (H[i]? = some (some o2) ∧ i ≠ id) ∨ (i = tgt ∧ o2 = on)) (htgt : β2[tgt]? = some (some b2)) (hnew : ∀ (i : Nat) b', β2[i]? = some (some b') → β[i]? = some (some b') ∨ b' = b2)
    (hwide : rowsWide on.rows on.z) (hcell : BCellsAt I β w on.rows on.z b2.2 arr) : HSim I β2 H2 w' ∧ Evo I β w I β2 w' := by
  have hIb : ¬ I b.1 := fun h => by
    have := (obj_at hH ho hb).2.1.2 h
    rw [hfz] at this; cases this
  have hkI : ∀ k, I k → w'.heap[k]? = w.heap[k]? ∧ I k := fun k hk => ⟨hw2 k (fun e => hIb (e ▸ hk)), hk⟩
  have hshape : ∀ k t n, w.shape? k = some (t, n) → w'.shape? k = some (t, n) := fun k t n hs => by
    by_cases hkb : k = b.1
    · subst hkb
      rw [shape_of_heap hc] at hs
      rw [shape_of_heap hw1, hsz]; exact hs
    · simpa [World.shape?, hw2 k hkb] using hs
  have hblt : b.1 < w.heap.size := hH.lt id b hb
  refine ⟨⟨hlen, fun i o2 ho2 => ?_, fun i j oi oj bi bj hi hj hbi hbj hbij => ?_, fun k hk => by rw [hw3]; exact hH.imm k hk, fun i b' hb' => ?_⟩,
    ⟨hos, htp, hout, by omega, hpre, fun i b' hb' => ?_, fun k hk hn => hw2 k (fun e => hn id b hb e.symm), hkI, fun k _ h => .inl h, hshape⟩⟩
  · rcases hlive i o2 ho2 with ⟨h1, h2⟩ | ⟨rfl, rfl⟩
    · obtain ⟨bi, hbi, hosim⟩ := hH.obj i o2 h1
      have hne : bi.1 ≠ b.1 := fun e => h2 (hH.inj i id o2 o bi b h1 ho hbi hb e)
      exact ⟨bi, hpre i bi hbi, hosim.mono hkI hpre hshape (hw2 bi.1 hne) (fun h => h)⟩
    · refine ⟨b2, htgt, hwide, ⟨(fun h => absurd (hfn ▸ h) (by simp)), (fun h => absurd h (by rw [hbb]; exact hIb))⟩, arr, by rw [hty, hbb]; exact hw1, fun i j x hx => ?_⟩
      obtain ⟨v, hv, h1, hr⟩ := hcell i j x hx
      exact ⟨v, hv, h1, hr.mono hkI hpre hshape⟩
  · have val : ∀ {k : Nat} {x y : Nat × Nat}, β2[k]? = some (some x) → β2[k]? = some (some y) → x = y := fun h1 h2 => by
      rw [h1] at h2; injection h2 with h2; injection h2
    rcases hlive i oi hi with ⟨h1, h2⟩ | ⟨rfl, rfl⟩
    · obtain ⟨bi0, hbi', _⟩ := hH.obj i oi h1
      obtain rfl := val (hpre i bi0 hbi') hbi
      have hne : bi0.1 ≠ b.1 := fun e => h2 (hH.inj i id oi o bi0 b h1 ho hbi' hb e)
      rcases hlive j oj hj with ⟨h3, h4⟩ | ⟨rfl, rfl⟩
      · obtain ⟨bj0, hbj', _⟩ := hH.obj j oj h3
        obtain rfl := val (hpre j bj0 hbj') hbj
        exact hH.inj i j oi oj bi0 bj0 h1 h3 hbi' hbj' hbij
      · obtain rfl := val htgt hbj
        exact absurd (hbij.trans hbb) hne
    · obtain rfl := val htgt hbi
      rcases hlive j oj hj with ⟨h3, h4⟩ | ⟨rfl, rfl⟩
      · obtain ⟨bj0, hbj', _⟩ := hH.obj j oj h3
        obtain rfl := val (hpre j bj0 hbj') hbj
        exact absurd (hH.inj j id oj o bj0 b h3 ho hbj' hb (hbij.symm.trans hbb)) h4
      · rfl
  · rcases hnew i b' hb' with h | rfl
    · rw [hw3]; exact hH.lt i b' h
    · rw [hw3, hbb]; exact hblt
  · rcases hnew i b' hb' with h | rfl
    · exact .inr ⟨i, b', h, rfl⟩
    · exact .inr ⟨id, b, hb, hbb.symm⟩

/-- An append that stays in its block. -/
theorem append_here (hH : HSim I β H w) {id site cap off : Nat} {b : Nat × Nat} {o' : Nat} {o : AObj} (ho : H[id]? = some (some o)) (hb : β[id]? = some (some b)) (hfz : o.fz = false) (hsite : β[site]? = some none) {w' : World} {c arr : Array Value}
    (hc : w.heap[b.1]? = some (.cells c o.ty (0, 0))) (hw1 : w'.heap[b.1]? = some (.cells arr o.ty (0, 0))) (hsz : arr.size = c.size) (hw2 : ∀ k, k ≠ b.1 → w'.heap[k]? = w.heap[k]?) (hw3 : w'.heap.size = w.heap.size)
    (hos : w'.os = w.os) (htp : w'.tape = w.tape) (hout : w'.output = w.output) {rr : Rows} {n z : Nat} (hwide : rowsWide rr z) (hcell : BCellsAt I β w rr z (off + b.2) arr) (hn : n ≤ cap) (hcm : cap ≤ maxLen) (hcs : c.size = (off + b.2 + cap) * z)
    (ho' : o' = (off + b.2) * z ∨ (cap = 0 ∧ 0 < off + b.2)) :
    Left_ I β w H (.ms site z 0 n) [(id, none), (site, some ⟨o.ty, z, false, rr⟩)] (.slice (some ⟨b.1, o', none⟩) n cap) w' site := by
  have hlt : site < β.length := (List.getElem?_eq_some_iff.1 hsite).1
  have hne : site ≠ id := fun e => by subst e; rw [hsite] at hb; cases hb
  obtain ⟨h1, h2⟩ := heap_upd (on := ⟨o.ty, z, false, rr⟩) (tgt := site) (b2 := (b.1, off + b.2)) (β2 := β.set site (some (b.1, off + b.2))) (H2 := (H.set id none).set site (some ⟨o.ty, z, false, rr⟩)) hH ho hb rfl hfz rfl hc hw1 rfl hsz hw2 hw3 hos htp hout
    (by simp [hH.len]) (fun i b' hb' => by
      by_cases h : site = i
      · subst h; rw [hsite] at hb'; cases hb'
      · rw [List.getElem?_set_ne h]; exact hb')
    (fun i o2 ho2 => by
      by_cases h : site = i
      · subst h
        rw [List.getElem?_set_self (by rw [List.length_set, ← hH.len]; exact hlt)] at ho2
        injection ho2 with ho2; injection ho2 with ho2
        exact .inr ⟨rfl, ho2.symm⟩
      · rw [List.getElem?_set_ne h] at ho2
        by_cases h3 : id = i
        · subst h3
          rw [List.getElem?_set_self (List.getElem?_eq_some_iff.1 ho).1] at ho2
          cases ho2
        · rw [List.getElem?_set_ne h3] at ho2
          exact .inl ⟨ho2, fun e => h3 e.symm⟩)
    (by rw [List.getElem?_set_self hlt]) (fun i b' hb' => by
      by_cases h : site = i
      · subst h; rw [List.getElem?_set_self hlt] at hb'; injection hb' with hb'; injection hb' with hb'; exact .inr hb'.symm
      · rw [List.getElem?_set_ne h] at hb'; exact .inl hb') hwide hcell
  refine ⟨I, _, h1, ?_, h2, fun s hs hne => new_free hs hne⟩
  have := ARel.ms (I := I) (w := w') (z := z) (off := 0) (id := site) (b := (b.1, off + b.2)) (o := o') (β := β.set site (some (b.1, off + b.2))) (by rw [List.getElem?_set_self hlt]) hn hcm (by rw [Nat.zero_add]; exact ho')
    ⟨o.ty, by simp only; rw [shape_of_heap hw1, hsz, hcs, Nat.zero_add]⟩
  exact this

/-- An append that moves to a new block. -/
theorem append_there (hH : HSim I β H w) {id site cap : Nat} {o : AObj} (ho : H[id]? = some (some o)) (hsite : β[site]? = some none) (hid : β[id]? ≠ some none) {arr : Array Value} {rr : Rows} {n z : Nat} (ty : TypeId)
    (hwide : rowsWide rr z) (hcell : BCells I β w rr z arr) (hn : n ≤ cap) (hcm : cap ≤ maxLen) (hcs : arr.size = cap * z) {w' : World} (hw' : w' = w.alloc (.cells arr ty) ∨ w' = w.drew.alloc (.cells arr ty)) :
    Left_ I β w H (.ms site z 0 n) [(id, none), (site, some ⟨ty, z, false, rr⟩)] (.slice (some ⟨w.heap.size, 0, none⟩) n cap) w' site := by
  have hH2 : HSim I β (H.set id none) w := by
    refine ⟨by simp [hH.len], fun i o2 ho2 => ?_, fun i j oi oj b b' hi hj hbi hbj hbb => ?_, hH.imm, hH.lt⟩
    · by_cases h : id = i
      · subst h; rw [List.getElem?_set_self (List.getElem?_eq_some_iff.1 ho).1] at ho2; cases ho2
      · rw [List.getElem?_set_ne h] at ho2; exact hH.obj i o2 ho2
    · by_cases h : id = i
      · subst h; rw [List.getElem?_set_self (List.getElem?_eq_some_iff.1 ho).1] at hi; cases hi
      · by_cases h2 : id = j
        · subst h2; rw [List.getElem?_set_self (List.getElem?_eq_some_iff.1 ho).1] at hj; cases hj
        · rw [List.getElem?_set_ne h] at hi; rw [List.getElem?_set_ne h2] at hj
          exact hH.inj i j oi oj b b' hi hj hbi hbj hbb
  exact new_slice hH2 hsite ty z n cap rr arr hwide hcell hn hcm hcs hw'

theorem run_append_nil_src (t ty e : TypeId) (i : TypeInfo) (ht : P.underlying t = some (.slice e)) (hi : P.info? e = some i) (A : Option Addr) (n cap c : Nat) (hn : n ≤ cap) :
    (Builtin.append_ #[t, t] ty #[.slice A n cap, .slice none 0 c]).run P w = .ok (.slice A n cap) w := by
  cases A <;> simp [Builtin.append_, run_underlying ht, sizeOf, typeInfo, hi, Builtin.lenOf, Builtin.firstCells, hn, storeCells]

theorem run_append_empty_src (t ty e : TypeId) (i : TypeInfo) (ht : P.underlying t = some (.slice e)) (hi : P.info? e = some i) (a : Addr) (c : Nat) :
    (Builtin.append_ #[t, t] ty #[.slice none 0 0, .slice (some a) 0 c]).run P w = .ok (.slice none 0 0) w := by
  simp [Builtin.append_, run_underlying ht, sizeOf, typeInfo, hi, Builtin.lenOf, Builtin.firstCells, loadCells, loadCellsFrom]

theorem rowCell_rl {a b c : Rows} (hcat : catRows a b = some c) {i j : Nat} {x : AV} (hx : rowCell a i j = some x) : i < rowsLen a := by
  cases a with
  | box cs => cases b <;> simp [catRows] at hcat
  | p xs =>
    rcases Nat.lt_or_ge i xs.length with h | h
    · exact h
    · simp [rowCell, List.getElem?_eq_none h] at hx
  | m xs =>
    rcases Nat.lt_or_ge i xs.length with h | h
    · exact h
    · simp [rowCell, List.getElem?_eq_none h] at hx

theorem rowCell_drop {off : Nat} {a : Rows} {i j : Nat} {x : AV} (hx : rowCell (dropR off a) i j = some x) (hb : ∀ cs, a ≠ .box cs) : rowCell a (off + i) j = some x := by
  cases off with
  | zero => rw [Nat.zero_add]; exact hx
  | succ n =>
    cases a with
    | box cs => exact absurd rfl (hb cs)
    | p xs => simpa [dropR, rowCell, List.getElem?_drop] using hx
    | m xs => simpa [dropR, rowCell, List.getElem?_drop] using hx

theorem rowsLen_drop {off len : Nat} {a : Rows} (h : off + len = rowsLen a) : rowsLen (dropR off a) = len := by
  cases off with
  | zero => simpa [dropR] using h.symm
  | succ n =>
    cases a <;> simp only [rowsLen, dropR, List.length_drop] at h ⊢ <;> omega

theorem rowsWide_drop {off z : Nat} {a : Rows} (h : rowsWide a z) : rowsWide (dropR off a) z := by
  cases off with
  | zero => exact h
  | succ n =>
    cases a with
    | box cs => exact h
    | p xs => exact fun i r hr => h (n + 1 + i) r (by simpa [List.getElem?_drop] using hr)
    | m xs => exact fun i r hr => h (n + 1 + i) r (by simpa [List.getElem?_drop] using hr)

theorem cat_nobox {off : Nat} {a b c : Rows} (h : catRows (dropR off a) b = some c) : ∀ cs, a ≠ .box cs := fun cs e => by
  subst e
  cases off <;> cases b <;> simp [dropR, catRows] at h

theorem run_append_room_at (t ty e : TypeId) (i : TypeInfo) (ht : P.underlying t = some (.slice e)) (hi : P.info? e = some i)
    (g o' sLen sCap : Nat) (cur : Array Value) (hg : w.heap[g]? = some (.cells cur e (0, 0)))
    (a : Addr) (m c : Nat) (news : List Value) (hl : news.length = m * i.size) (hnews : ∀ (j : Nat) u, news[j]? = some u → w.cell? (a.add j) = some u) (h1 : ∀ u ∈ news, u.oneCell' = true)
    (hroom : sLen + m ≤ sCap) (hfit : o' + sLen * i.size + news.length ≤ cur.size) :
    (Builtin.append_ #[t, t] ty #[.slice (some ⟨g, o', none⟩) sLen sCap, .slice (some a) m c]).run P w =
      .ok (.slice (some ⟨g, o', none⟩) (sLen + m) sCap) (w.setRow g (cur.toList.take (o' + sLen * i.size) ++ news ++ cur.toList.drop (o' + sLen * i.size + news.length)).toArray) := by
  have hf := run_firstCells_some (P := P) w i.size m a m c news hl hnews
  have hst := run_storeCells_at P g (o' + sLen * i.size) e news 0 cur w hg (by simpa using hfit) h1
  simp only [Nat.add_zero] at hst
  simp [Builtin.append_, run_underlying ht, sizeOf, typeInfo, hi, Builtin.lenOf, hroom, hf, Addr.add_lit, hst]

theorem vcAppend_sound (hT : TabOk P T) (hH : HSim I β H w) {t ty : TypeId} {site : Nat} (hsite : β[site]? = some none) {s x : AV} {vs vx : Value} {K : AV → Upd → List Nat → Prop}
    (hs : ARel I β w s vs) (hx : ARel I β w x vx) (h : vcAppend T t site s x H K) :
    ∃ r u rd, K r u rd ∧ ∃ v' w', (Builtin.append_ #[t, t] ty #[vs, vx]).run P w = .ok v' w' ∧ Left_ I β w H r u v' w' site := by
  unfold vcAppend at h
  simp only [eqv_eq] at h
  split at h
  · rename_i hl
    obtain ⟨i0, u, zv, hi, hu, _, _, hsz, _, hagg, htk, _⟩ := look_spec hT hl
    split at h
    · rename_i e
      obtain rfl := tkOf_slice htk
      split at h
      · rename_i hle
        obtain ⟨ie, ue, ze, hie, _, hze, hzs, hse, hby, _, _, _⟩ := look_spec hT hle
        subst hse; subst hby
        split at h
        · rename_i rx rdx hok hrows
          simp only [Bool.and_eq_true] at hok
          obtain ⟨hok, hpos⟩ := hok
          have hpos : 0 < ie.size := by simpa [Nat.blt_eq] using hpos
          split at h
          · obtain rfl := val_inv hs
            obtain ⟨hsl, hbytes, hmax, hk1, hk2⟩ := h
            obtain ⟨news, hsrc⟩ := src_of hH hx hok hrows hsl
            by_cases hm : rowsLen rx = 0
            · refine ⟨_, _, _, hk2 hm, .slice none 0 0, w, ?_, Left_.same hH (rel_val _)⟩
              rcases hsrc.form with ⟨c, rfl, _⟩ | ⟨a, c, rfl, _⟩
              · exact run_append_nil_src t ty e ie hu hie none 0 0 c (Nat.le_refl _)
              · rw [hm]; exact run_append_empty_src t ty e ie hu hie a c
            · rcases hsrc.form with ⟨c, rfl, h0⟩ | ⟨a, c, rfl, hcells⟩
              · exact absurd h0 hm
              · refine ⟨_, _, _, hk1 (by omega), _, _, run_append_nil (P := P) w t ty e ie ze hu hie hze a _ c news hsrc.len hcells (by omega) (by omega) (by omega), ?_⟩
                refine new_slice hH hsite e ie.size _ _ rx _ hsrc.wide (fun i j x hx => ?_) (grownCap_ge _ _ _ _) (grownCap_le_maxLen _ _ _ _ hmax) ?_ (.inr rfl)
                · obtain ⟨v, hv, h1, hr⟩ := hsrc.cell i j x hx
                  refine ⟨v, ?_, h1, hr⟩
                  have hlt := (List.getElem?_eq_some_iff.1 hv).1
                  rw [Array.getElem?_append_left (by simpa using hlt)]
                  simpa using hv
                · have hge := grownCap_ge w (rowsLen rx) 0 e
                  simp only [Array.size_append, List.size_toArray, size_zeroCells, hzs, hsrc.len, ← Nat.add_mul]
                  congr 1; omega
          · rename_i id z off len
            obtain ⟨b, cap, o', rfl, hbl, hcap, hcm, ho', t', hsh⟩ := ms_inv hs
            split at h
            · rename_i o hz ho
              have hz := Nat.eq_of_beq_eq_true hz; subst hz
              split at h
              · rename_i rr hck hcat
                simp only [Bool.and_eq_true, Bool.not_eq_true'] at hck
                obtain ⟨hfz, hty, hoz⟩ := hck
                have hty := Nat.eq_of_beq_eq_true hty
                have hoz := Nat.eq_of_beq_eq_true hoz
                obtain ⟨hlen0, hsl, hbytes, hmax, hk⟩ := h
                obtain ⟨news, hsrc⟩ := src_of hH hx hok hrows hsl
                obtain ⟨hw, _, c, hc, hcell⟩ := obj_at hH ho hbl
                rw [hoz] at hw hcell
                have hcsz : c.size = (off + b.2 + cap) * ie.size := by
                  rw [shape_of_heap hc] at hsh
                  injection hsh with hsh; injection hsh
                have hlen := rowsLen_drop hlen0
                have hrl := rowsLen_cat hcat
                have hwd := rowsWide_drop (off := off) hw
                have hrw := rowsWide_cat hcat hwd hsrc.wide
                have hnb := cat_nobox hcat
                have hid : β[id]? ≠ some none := by rw [hbl]; intro h; cases h
                -- the cells from the slice's first one on
                have holdl : ((c.toList.drop ((off + b.2) * ie.size)).take (len * ie.size)).length = len * ie.size := by
                  have : len * ie.size ≤ cap * ie.size := Nat.mul_le_mul_right _ hcap
                  simp only [List.length_take, List.length_drop, Array.length_toList, hcsz, Nat.add_mul]; omega
                have hold : ∀ i j x, rowCell (dropR off o.rows) i j = some x → ∃ v, ((c.toList.drop ((off + b.2) * ie.size)).take (len * ie.size))[i * ie.size + j]? = some v ∧ v.oneCell' = true ∧ ARel I β w x v := fun i j x hx => by
                  have hj := rowCell_lt hwd hx
                  have hi : i < len := by rw [← hlen]; exact rowCell_rl hcat hx
                  obtain ⟨v, hv, h1, hr⟩ := hcell _ j x (rowCell_drop hx hnb)
                  refine ⟨v, ?_, h1, hr⟩
                  rw [List.getElem?_take_of_lt (mul_lt_of hi hj), List.getElem?_drop, ← Nat.add_assoc, ← Nat.add_mul, show off + b.2 + i = off + i + b.2 from by omega]
                  simpa using hv
                have hbc : ∀ {arr : Array Value}, (∀ (k : Nat) v, ((c.toList.drop ((off + b.2) * ie.size)).take (len * ie.size) ++ news)[k]? = some v → arr[k]? = some v) → BCells I β w rr ie.size arr :=
                  fun harr => cat_cells hcat hwd hsrc.wide hlen.symm holdl hold hsrc.cell harr
                have hbs : ∀ {arr : Array Value}, (∀ (k : Nat) v, ((c.toList.drop ((off + b.2) * ie.size)).take (len * ie.size) ++ news)[k]? = some v → arr[(off + b.2) * ie.size + k]? = some v) → BCellsAt I β w rr ie.size (off + b.2) arr := fun {arr} harr i j x hx => by
                  obtain ⟨v, hv, h1, hr⟩ := hbc (arr := ((c.toList.drop ((off + b.2) * ie.size)).take (len * ie.size) ++ news).toArray) (fun k v hk => by simpa using hk) i j x hx
                  refine ⟨v, ?_, h1, hr⟩
                  rw [show (i + (off + b.2)) * ie.size + j = (off + b.2) * ie.size + (i * ie.size + j) from by rw [Nat.add_mul]; omega]
                  exact harr _ _ (by simpa using hv)
                rcases hsrc.form with ⟨c0, rfl, hm0⟩ | ⟨a, c0, rfl, hcells⟩
                · refine ⟨_, _, _, hk, _, w, run_append_nil_src t ty e ie hu hie _ len cap c0 hcap, ?_⟩
                  rw [show rowsLen rr = len from by omega]
                  rw [← hty]
                  have hn0 : news = [] := List.eq_nil_of_length_eq_zero (by rw [hsrc.len, hm0]; simp)
                  refine append_here hH ho hbl hfz hsite hc hc rfl (fun _ _ => rfl) rfl rfl rfl rfl hrw (hbs (fun k v hk => ?_)) hcap hcm hcsz ho'
                  rw [hn0, List.append_nil] at hk
                  have hlt := (List.getElem?_eq_some_iff.1 hk).1
                  rw [holdl] at hlt
                  rw [List.getElem?_take_of_lt hlt, List.getElem?_drop] at hk
                  simpa using hk
                · by_cases hroom : len + rowsLen rx ≤ cap
                  · by_cases hcap0 : cap = 0
                    · have hm0 : rowsLen rx = 0 := by omega
                      have hl0 : len = 0 := by omega
                      have hn0 : news = [] := List.eq_nil_of_length_eq_zero (by rw [hsrc.len, hm0]; simp)
                      refine ⟨_, _, _, hk, .slice (some ⟨b.1, o', none⟩) len cap, w, ?_, ?_⟩
                      · rw [hm0]
                        simp [Builtin.append_, run_underlying hu, sizeOf, typeInfo, hie, Builtin.lenOf, Builtin.firstCells, hcap, storeCells, loadCells, loadCellsFrom]
                      · rw [show rowsLen rr = len from by omega, ← hty]
                        refine append_here hH ho hbl hfz hsite hc hc rfl (fun _ _ => rfl) rfl rfl rfl rfl hrw (hbs (fun k v hk => ?_)) hcap hcm hcsz ho'
                        rw [hn0, List.append_nil] at hk
                        have hlt := (List.getElem?_eq_some_iff.1 hk).1
                        rw [holdl, hl0] at hlt
                        omega
                    · have hoo : o' = (off + b.2) * ie.size := ho'.resolve_right (fun e => hcap0 e.1)
                      have hmn : len * ie.size + news.length ≤ cap * ie.size := by rw [hsrc.len, ← Nat.add_mul]; exact Nat.mul_le_mul_right _ hroom
                      have hfit : o' + len * ie.size + news.length ≤ c.size := by rw [hoo, hcsz, Nat.add_mul (off + b.2) cap]; omega
                      rw [← hty] at hu hie hk
                      refine ⟨_, _, _, hk, _, _, run_append_room_at (P := P) (w := w) t ty o.ty ie hu hie b.1 o' len cap c hc a _ c0 news hsrc.len hcells hsrc.one hroom hfit, ?_⟩
                      rw [show rowsLen rr = len + rowsLen rx from by omega]
                      refine append_here hH ho hbl hfz hsite hc (setRow_heap w b.1 c _ o.ty _ hc) ?_ (fun k hk => setRow_other w b.1 k _ hk) (by simp) rfl rfl rfl hrw (hbs (fun k v hk => ?_)) hroom hcm hcsz ho'
                      · simp; omega
                      · have hkl := (List.getElem?_eq_some_iff.1 hk).1
                        rw [List.length_append, holdl] at hkl
                        rw [List.getElem?_toArray, ← hoo, List.getElem?_append_left (by simp; omega)]
                        rcases Nat.lt_or_ge k (len * ie.size) with hkk | hkk
                        · rw [List.getElem?_append_left (by rw [holdl]; exact hkk), List.getElem?_take_of_lt hkk, List.getElem?_drop, ← hoo] at hk
                          rw [List.getElem?_append_left (by simp; omega), List.getElem?_take_of_lt (by omega)]
                          exact hk
                        · rw [List.getElem?_append_right (by rw [holdl]; exact hkk), holdl] at hk
                          rw [List.getElem?_append_right (by simp; omega)]
                          simp only [List.length_take, Array.length_toList]
                          rw [show o' + k - min (o' + len * ie.size) c.size = k - len * ie.size from by omega]
                          exact hk
                  · by_cases hl0 : len = 0
                    · have hempty : (c.toList.drop ((off + b.2) * ie.size)).take (len * ie.size) = [] := List.eq_nil_of_length_eq_zero (by rw [holdl, hl0]; simp)
                      refine ⟨_, _, _, hk, _, _, run_append_grow (P := P) w t ty e ie ze hu hie hze ⟨b.1, o', none⟩ len cap [] (by simp [hl0]) (fun j v h => by simp at h) a _ c0 news hsrc.len hcells (by omega) (by omega) (growslice_fits (by omega) (by rw [hlen] at hrl; rw [← hrl]; exact hbytes)), ?_⟩
                      rw [show rowsLen rr = len + rowsLen rx from by omega]
                      have hge := grownCap_ge w (len + rowsLen rx) cap e
                      refine append_there hH ho hsite hid e hrw (hbc (fun k v hk => ?_)) hge (grownCap_le_maxLen _ _ _ _ (by unfold maxLen; omega)) ?_ (.inr rfl)
                      · rw [hempty] at hk
                        rw [Array.getElem?_append_left (by have := (List.getElem?_eq_some_iff.1 hk).1; simpa using this)]
                        simpa using hk
                      · simp only [Array.size_append, List.size_toArray, size_zeroCells, hzs, hsrc.len, List.length_nil, ← Nat.add_mul]
                        rw [Nat.zero_add, ← Nat.add_mul]
                        congr 1; omega
                    · have hoo : o' = (off + b.2) * ie.size := ho'.resolve_right (fun e => by omega)
                      have holds : ∀ (j : Nat) v, ((c.toList.drop ((off + b.2) * ie.size)).take (len * ie.size))[j]? = some v → w.cell? ((⟨b.1, o', none⟩ : Addr).add j) = some v := fun j v hj => by
                        have hlt := (List.getElem?_eq_some_iff.1 hj).1
                        rw [holdl] at hlt
                        rw [List.getElem?_take_of_lt hlt, List.getElem?_drop] at hj
                        rw [add_at, cell_of_row w b.1 _ c o.ty (0, 0) hc, hoo]
                        simpa using hj
                      refine ⟨_, _, _, hk, _, _, run_append_grow (P := P) w t ty e ie ze hu hie hze ⟨b.1, o', none⟩ len cap _ holdl holds a _ c0 news hsrc.len hcells (by omega) (by omega) (growslice_fits (by omega) (by rw [hlen] at hrl; rw [← hrl]; exact hbytes)), ?_⟩
                      rw [show rowsLen rr = len + rowsLen rx from by omega]
                      have hge := grownCap_ge w (len + rowsLen rx) cap e
                      refine append_there hH ho hsite hid e hrw (hbc (fun k v hk => ?_)) hge (grownCap_le_maxLen _ _ _ _ (by unfold maxLen; omega)) ?_ (.inr rfl)
                      · rw [Array.getElem?_append_left (by have := (List.getElem?_eq_some_iff.1 hk).1; simpa using this)]
                        simpa using hk
                      · simp only [Array.size_append, List.size_toArray, size_zeroCells, hzs, hsrc.len, holdl, ← Nat.add_mul]
                        congr 1; omega
              · exact h.elim
            · exact h.elim
          · exact h.elim
        · exact h.elim
      · exact h.elim
    · exact h.elim
  · exact h.elim

end
end Go.Cw
