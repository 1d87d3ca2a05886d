/-
  Part 7 of the proof (SYB, SYC, SYD, SYF, SYG, SYH, SYI, SYJ, SYK, SYL, SYM, SYN, SW1, SW2, SW3, SW4, SA1): what later parts use. No conditions.
-/
import Derived.Test.YtihpjcmloecaaaaGreatMT6
/-
  Symmetry: whether two rooms can be exchanged, by the program.
-/
namespace Go.Proofs.YtihpjcmloecaaaaGreat.Cw
open Go Go.Cw Go.Proofs
set_option linter.unusedVariables false
set_option maxRecDepth 100000
set_option maxHeartbeats 8000000
noncomputable def imN (l : List Opt) (a b : Int) (i : Nat) : Nat := (swapO l a b i).getD 0
theorem ok_imN {l : List Opt} {a b : Int} {i : Nat} (h : okO l a b i) : swapO l a b i = some (imN l a b i) ∧ imN l a b i < l.length := by
  obtain ⟨j, o, q, h1, h2, h3, -⟩ := h
  have : imN l a b i = j := by unfold imN; rw [h1]; rfl
  rw [this]
  exact ⟨h1, (List.getElem?_eq_some_iff.1 h3).1⟩
theorem imgs_get {l : List Opt} {a b : Int} (h : imgsP l a b) : ∀ {n : Nat}, n ≤ l.length → imgsL l a b n = (List.range n).map (imN l a b)
  | 0, _ => rfl
  | n + 1, hn => by
    rw [imgs_succ (ok_imN (h n (by omega))).1, imgs_get h (by omega), List.range_succ, List.map_append]; rfl
theorem imgs_at {l : List Opt} {a b : Int} (h : imgsP l a b) {i : Nat} (hi : i < l.length) : (imgsL l a b l.length)[i]? = some (imN l a b i) := by
  rw [imgs_get h (Nat.le_refl _), List.getElem?_map, List.getElem?_range hi]; rfl
theorem imgs_whole {l : List Opt} {a b : Int} (h : imgsP l a b) : (imgsL l a b l.length).length = l.length := by
  rw [imgs_get h (Nat.le_refl _), List.length_map, List.length_range]
def allImg (m : Model) (a b : Int) : Prop := ∀ l ∈ m.classes, imgsP l a b
def entSame (m : Model) (a b : Int) (p : Pair) : Prop := ∀ (x y : List Opt), m.classes[p.first.toNat]? = some x → m.classes[p.second.toNat]? = some y → ∀ i, i < x.length → ∀ k, k < y.length → entZ m p i k = entZ m p (imN x a b i) (imN y a b k)
noncomputable def imLoad (m : Model) (a b : Int) (l : Load) : Int := match m.classes[l.cls.toNat]? with
  | some x => imN x a b l.opt.toNat
  | none => 0
def cntSame (m : Model) (a b : Int) : Prop := countsV Load.opt m.counts = countsV (imLoad m a b) m.counts
def swapP (m : Model) (a b : Int) : Prop := allImg m a b ∧ (∀ p ∈ m.pairs, entSame m a b p) ∧ cntSame m a b
noncomputable def imgsAll (m : Model) (a b : Int) : List (List Nat) := m.classes.map fun l => imgsL l a b l.length
noncomputable def swapV (m : Model) (a b : Int) : List (List Nat) := if pB (swapP m a b) then imgsAll m a b else []
theorem leq_sw {m : Model} {a b : Int} (h : ¬ swapP m a b) : Leq (.tup [.pv (.val (.slice none 0 0)), .pv (.val (.bool false))]) (.tup [.pv (.sl 1 ((swapV m a b).map natsRow)), vbool (pB (swapP m a b))]) := by
  unfold swapV
  rw [if_neg (by rw [pB_f h]; simp), pB_f h]
  exact ⟨ALe.tup ⟨ALe.pv PLe.nil, ALe.refl, trivial⟩⟩
theorem good_load {m : Model} (hg : goodP m) {c : Count} (hc : c ∈ m.counts) {l : Load} (hl : l ∈ c.loads) : optionP m l.cls l.opt ∧ 1 ≤ l.weight := by
  obtain ⟨i, hi⟩ := List.getElem?_of_mem hl
  have := (hg.2.2 c hc).2.2.2.2 i (List.getElem?_eq_some_iff.1 hi).1 l hi
  exact ⟨this.1, this.2.1⟩
theorem all_at {m : Model} {a b : Int} {k : Nat} {l : List Opt} (h : m.classes[k]? = some l) : (imgsAll m a b)[k]? = some (imgsL l a b l.length) := by
  unfold imgsAll; rw [List.getElem?_map, h]; rfl
theorem all_rows {m : Model} {a b : Int} {i : Nat} {l : List Opt} (h : m.classes[i]? = some l) : ((m.classes.take (i + 1)).map fun l => imgsL l a b l.length) = ((m.classes.take i).map fun l => imgsL l a b l.length) ++ [imgsL l a b l.length] := by
  rw [tk_snoc h, List.map_append]; rfl
theorem charges_ge {m : Model} {o : Opt} (h : chargesP m o) : ∀ {i : Nat} {c : Charge}, o.charges[i]? = some c → (i : Int) ≤ c.rule ∧ c.rule < m.rules
  | 0, c, hc => by
    have := h 0 (List.getElem?_eq_some_iff.1 hc).1 c hc
    exact ⟨this.1.1, this.1.2⟩
  | i + 1, c, hc => by
    have hi := (List.getElem?_eq_some_iff.1 hc).1
    obtain ⟨b, hb⟩ := getE (show i < o.charges.length by omega)
    have ih := charges_ge h hb
    have := h (i + 1) hi c hc
    have h2 := this.2.2 i b rfl hb
    exact ⟨by omega, this.1.2⟩
theorem charges_len {m : Model} {o : Opt} (h : chargesP m o) (hr : m.rules ≤ 56) : o.charges.length ≤ 56 := by
  rcases Nat.eq_zero_or_pos o.charges.length with h0 | h0
  · omega
  · obtain ⟨c, hc⟩ := getE (show o.charges.length - 1 < o.charges.length by omega)
    have := charges_ge h hc
    omega
theorem loads_ge {m : Model} {c : Count} (hz : ∀ l ∈ m.classes, l.length ≤ 24) (h : ∀ i, i < c.loads.length → loadAt m c.loads i) : ∀ {i : Nat} {x : Load}, c.loads[i]? = some x → (i : Int) ≤ x.cls * 24 + x.opt ∧ 0 ≤ x.cls ∧ x.cls < m.classes.length ∧ 0 ≤ x.opt ∧ x.opt < 24
  | i, x, hx => by
    have hi := (List.getElem?_eq_some_iff.1 hx).1
    have hh := h i hi x hx
    obtain ⟨h1, h2, l, h3, h4⟩ := hh.1
    have h5 := hz l (List.mem_of_getElem? h3)
    have h6 := (List.getElem?_eq_some_iff.1 h3).1
    cases i with
    | zero => omega
    | succ i =>
      obtain ⟨y, hy⟩ := getE (show i < c.loads.length by omega)
      have ih := loads_ge hz h hy
      have h7 := hh.2.2.2 i y rfl hy
      omega
theorem loads_len {m : Model} {c : Count} (hz : sizedP m) (h : ∀ i, i < c.loads.length → loadAt m c.loads i) : c.loads.length ≤ 576 := by
  rcases Nat.eq_zero_or_pos c.loads.length with h0 | h0
  · omega
  · obtain ⟨x, hx⟩ := getE (show c.loads.length - 1 < c.loads.length by omega)
    have := loads_ge hz.2.1 h hx
    have h1 := hz.1
    omega
theorem c_swap2m {m : Model} {a b : Int} (ha : allImg m a b) {x : Load} (hx : optionP m x.cls x.opt) : PCall Tryz.prog 85 [ag x.row, .pv (.ia [.sl 1 ((imgsAll m a b).map natsRow)])] (fun r => r = vint .i64 (imLoad m a b x)) := by
  obtain ⟨h1, h2, l, h3, h4⟩ := hx
  have e : imLoad m a b x = (imN l a b x.opt.toNat : Int) := by unfold imLoad; rw [h3]
  rw [e]
  exact c_swap2 _ x _ _ h1 h2 (all_at h3) (imgs_at (ha l (List.mem_of_getElem? h3)) (by omega))
theorem c_swapM0 (m : Model) (a b : Int) (hz : sizedP m) (hg : goodP m) : PCall Tryz.prog 35 [ag m.cells, vint .i64 a, vint .i64 b] (fun r => Leq r (.tup [.pv (.sl 1 ((swapV m a b).map natsRow)), vbool (pB (swapP m a b))])) := by
  have hld : ∀ c ∈ m.counts, c.loads.length ≤ 576 := fun c hc => loads_len hz (hg.2.2 c hc).2.2.2.2
  obtain ⟨z1, z2, z3, z4, z5⟩ := hz
  refine acall_of tok mixed 95 rfl (fn := Tryz.f35) (c := Tryz.f35.body.getD .skip) (by kernel_rfl) (by kernel_rfl) (by kernel_rfl) rfl 0 rfl ?_
  repeat' (first | refine o1 ?_ | refine o2 ?_ | refine k1 ?_ | refine k2 ?_ | refine k4 ?_ | refine And.intro ?_ ?_ | exact (by kernel_rfl : drawOk _ _ = true) | refine eqv_len_map ?_ | fail)
  refine loop_for (fun i : Nat => [(1, vint .i64 a), (2, vint .i64 b), (3, .ptr 0 4 0 0), (8, .ptr 1 1 0 0), (22, .pv (.sl 1 (m.classes.map optsRow))), (23, vint .i64 m.classes.length), (24, vint .i64 i)])
    (fun i => [some ⟨29, 4, false, .box (pvs m.cells)⟩, some ⟨35, 1, false, .box [slP 2 1 (((m.classes.take i).map fun l => imgsL l a b l.length).map natsRow)]⟩, obP 22 1 (((m.classes.take i).map fun l => imgsL l a b l.length).map natsRow)])
    (fun i => i ≤ m.classes.length ∧ ∀ j, j < i → ∀ l, m.classes[j]? = some l → imgsP l a b) (fun i => m.classes.length - i) 0 ⟨Nat.zero_le _, fun j hj => by omega⟩ ?_ ?_
  · exact back [0, 1, 2] rfl rfl (by repeat' (first | exact trivial | exact rfl | refine And.intro ?_ ?_)) (by repeat' (first | exact trivial | exact rfl | refine And.intro ?_ ?_))
  intro i ⟨hi, hall⟩
  rcases Nat.lt_or_ge i m.classes.length with hlt | hge
  · obtain ⟨l, hl⟩ := getE hlt
    have hlm := List.mem_of_getElem? hl
    have him := c_images l a b (by have := z2 l hlm; omega) (fun o ho => by have := charges_len (hg.1 l hlm o ho) z5.2; omega)
    have htl : ((m.classes.take i).map fun l => imgsL l a b l.length).length ≤ 24 := by rw [List.length_map]; exact Nat.le_trans (List.length_take_le' ..) z1
    by_cases hp : imgsP l a b
    · have hV : imgsV l a b = imgsL l a b l.length := by unfold imgsV; rw [if_pos (pB_t hp)]
      have hnx := all_rows (a := a) (b := b) hl
      rw [pB_t hp, hV] at him
      generalize hRS : ((m.classes.take i).map fun l => imgsL l a b l.length) = RS at *
      repeat' (first | (refine fv_sl ?_) | (refine fh_ob ?_) | (refine idx_sl (k := i) (at_map hl) rfl ?_) | ((change vcFun _ _ _ _ _; refine call_frz rfl (by repeat' (first | trivial | refine And.intro ?_ ?_ | (show 0 + _ ≤ List.length _; simp))) ALeL.refl him ?_; rintro _ rfl)) | ((refine o_app rfl rfl rfl rfl rfl rfl rfl rfl rfl rfl rfl (by rw [List.length_map]; omega) (by rw [List.length_map]; omega) ?_)) | refine o1 ?_ | refine o2 ?_ | refine k1 ?_ | refine k2 ?_ | refine k3 ?_ | refine k4 ?_ | refine k6 ?_ | refine And.intro ?_ ?_ | (intro h; first | exact Bool.noConfusion h | exact nz _ h | exact nl h | (simp at h; done) | (simp at h; first | (exfalso; omega) | skip) | skip) | refine eqv_wrap (by omega) (by omega) ?_ | fail)
      refine ⟨i + 1, ⟨by omega, all_lt_succ hall fun l' h' => by rw [hl] at h'; cases h'; exact hp⟩, by omega, ?_⟩
      rw [hnx, map_snoc, sl_app, ob_app]
      exact back [0, 1, 4] rfl rfl (by repeat' (first | exact trivial | exact rfl | refine And.intro ?_ ?_)) (by repeat' (first | exact trivial | exact rfl | refine And.intro ?_ ?_))
    · rw [pB_f hp] at him
      have hno := leq_sw (m := m) (a := a) (b := b) fun k => hp (k.1 l hlm)
      repeat' (first | (refine fh_ob ?_) | (refine idx_sl (k := i) (at_map hl) rfl ?_) | ((change vcFun _ _ _ _ _; refine call_frz rfl (by repeat' (first | trivial | refine And.intro ?_ ?_ | (show 0 + _ ≤ List.length _; simp))) ALeL.refl him ?_; rintro _ rfl)) | refine o1 ?_ | refine o2 ?_ | refine k1 ?_ | refine k2 ?_ | refine k3 ?_ | refine k4 ?_ | refine k6 ?_ | refine k7 ?_ | refine And.intro ?_ ?_ | (intro h; first | exact Bool.noConfusion h | exact nz _ h | exact nl h | (simp at h; done) | (simp at h; first | (exfalso; omega) | skip) | skip) | (change retOk _ _ _ _; refine ret_pure rfl trivial ?_) | fail)
      exact hno
  · obtain rfl : i = m.classes.length := by omega
    rw [List.take_length]
    have hal : allImg m a b := fun l hl => by
      obtain ⟨j, hj⟩ := List.getElem?_of_mem hl
      exact hall j (List.getElem?_eq_some_iff.1 hj).1 l hj
    refine forceH_in ?_
    change xCode _ _ _ _ _ _ _ [_, some ⟨_, _, _, .box [slP 2 1 ((imgsAll m a b).map natsRow)]⟩, obP _ 1 ((imgsAll m a b).map natsRow)]
    refine ghost_seq (Γ' := [(1, vint .i64 a), (2, vint .i64 b), (3, .ptr 0 4 0 0), (8, .ptr 1 1 0 0), (23, vint .i64 m.classes.length), (24, vint .i64 m.classes.length)]) (H' := [some ⟨29, 4, false, .box (pvs m.cells)⟩, some ⟨35, 1, false, .box [.pv (.sl 1 ((imgsAll m a b).map natsRow))]⟩]) (Ghost.shut_sl (i := 1) (c := 0) (id := 2) rfl rfl rfl (by decide) fun H' hl h2 hH => back [0, 1] rfl rfl (And.intro (hH 0 (by decide) (by decide)) (And.intro h2 trivial)) (by repeat' (first | exact trivial | exact rfl | refine And.intro ?_ ?_))) ?_
    repeat' (first | refine o1 ?_ | refine o2 ?_ | refine k1 ?_ | refine k2 ?_ | refine k3 ?_ | refine k4 ?_ | refine k8 ?_ | refine And.intro ?_ ?_ | (intro h; first | exact Bool.noConfusion h | exact nz _ h | exact nl h | (simp at h; done) | (simp at h; first | (exfalso; omega) | skip) | skip) | refine eqv_len_map ?_ | fail)
    refine loop_for (fun i : Nat => [(3, .ptr 0 4 0 0), (8, .ptr 1 1 0 0), (43, .pv (.sl 4 (m.pairs.map Pair.row))), (44, vint .i64 m.pairs.length), (45, vint .i64 i)])
      (fun i => [some ⟨29, 4, false, .box (pvs m.cells)⟩, some ⟨35, 1, false, .box [.pv (.sl 1 ((imgsAll m a b).map natsRow))]⟩])
      (fun i => i ≤ m.pairs.length ∧ ∀ j, j < i → ∀ p, m.pairs[j]? = some p → entSame m a b p) (fun i => m.pairs.length - i) 0 ⟨Nat.zero_le _, fun j hj => by omega⟩ (back [0, 1] rfl rfl (by repeat' (first | exact trivial | exact rfl | refine And.intro ?_ ?_)) (by repeat' (first | exact trivial | exact rfl | refine And.intro ?_ ?_))) ?_
    intro i ⟨hi, hpa⟩
    rcases Nat.lt_or_ge i m.pairs.length with hlt | hge2
    · obtain ⟨p, hp⟩ := getE hlt
      have hpp := (hg.2.1 i hlt p hp).1
      obtain ⟨q1, q2, q3, ⟨x, y, hx, hy, q4⟩, q5⟩ := id hpp
      have hxa := hal x (List.mem_of_getElem? hx)
      have hya := hal y (List.mem_of_getElem? hy)
      have hxl := z2 x (List.mem_of_getElem? hx)
      have hyl := z2 y (List.mem_of_getElem? hy)
      have hxw := imgs_whole hxa
      have hyw := imgs_whole hya
      have hax := all_at (a := a) (b := b) hx
      have hay := all_at (a := a) (b := b) hy
      have hix := fun i hi => imgs_at hxa (i := i) hi
      have hiy := fun i hi => imgs_at hya (i := i) hi
      generalize imgsL x a b x.length = IX at hxw hax hix
      generalize imgsL y a b y.length = IY at hyw hay hiy
      obtain ⟨p1, p2, p3, p4⟩ := p
      dsimp only at q2 q3 hx hy hax hay
      have hk1 : p1 = (p1.toNat : Int) := by omega
      have hk2 : p2 = (p2.toNat : Int) := by omega
      repeat' (first | (refine idx_sl (k := i) (at_map hp) rfl ?_) | (refine idx_sl (k := p1.toNat) (at_map hax) hk1 ?_) | refine o1 ?_ | refine o2 ?_ | refine k1 ?_ | refine k2 ?_ | refine k3 ?_ | refine k4 ?_ | refine k6 ?_ | refine And.intro ?_ ?_ | (intro h; first | exact Bool.noConfusion h | exact nz _ h | exact nl h | (simp at h; done) | (simp at h; first | (exfalso; omega) | skip) | skip) | exact (by kernel_rfl : drawOk _ _ = true) | refine eqv_len_map ?_ | fail)
      refine loop_for (fun u : Nat => [(3, .ptr 0 4 0 0), (8, .ptr 1 1 0 0), (43, .pv (.sl 4 (m.pairs.map Pair.row))), (44, vint .i64 m.pairs.length), (45, vint .i64 i), (14, .ptr 2 4 0 0), (53, .pv (.sl 1 (IX.map natRow))), (54, vint .i64 IX.length), (55, vint .i64 u)])
        (fun u => [some ⟨29, 4, false, .box (pvs m.cells)⟩, some ⟨35, 1, false, .box [.pv (.sl 1 ((imgsAll m a b).map natsRow))]⟩, some ⟨72, 4, false, .box (pvs (Pair.row ⟨p1, p2, p3, p4⟩))⟩])
        (fun u => u ≤ x.length ∧ ∀ j, j < u → ∀ k, k < y.length → entZ m ⟨p1, p2, p3, p4⟩ j k = entZ m ⟨p1, p2, p3, p4⟩ (imN x a b j) (imN y a b k)) (fun u => x.length - u) 0 ⟨Nat.zero_le _, fun j hj => by omega⟩ (back [0, 1, 2] rfl rfl (by repeat' (first | exact trivial | exact rfl | refine And.intro ?_ ?_)) (by repeat' (first | exact trivial | exact rfl | refine And.intro ?_ ?_))) ?_
      intro u ⟨hu, hua⟩
      rcases Nat.lt_or_ge u x.length with hul | hug
      · repeat' (first | (refine idx_sl (k := u) (at_map (hix u hul)) rfl ?_) | (refine idx_sl (k := p2.toNat) (at_map hay) hk2 ?_) | refine o1 ?_ | refine o2 ?_ | refine k1 ?_ | refine k2 ?_ | refine k3 ?_ | refine k4 ?_ | refine k6 ?_ | refine And.intro ?_ ?_ | (intro h; first | exact Bool.noConfusion h | exact nz _ h | exact nl h | (simp at h; done) | (simp at h; first | (exfalso; omega) | skip) | skip) | refine eqv_len_map ?_ | fail)
        refine loop_for (fun k : Nat => [(3, .ptr 0 4 0 0), (8, .ptr 1 1 0 0), (43, .pv (.sl 4 (m.pairs.map Pair.row))), (44, vint .i64 m.pairs.length), (45, vint .i64 i), (14, .ptr 2 4 0 0), (53, .pv (.sl 1 (IX.map natRow))), (54, vint .i64 IX.length), (55, vint .i64 u), (15, vint .i64 u), (16, vint .i64 (imN x a b u)), (64, .pv (.sl 1 (IY.map natRow))), (65, vint .i64 IY.length), (66, vint .i64 k)])
          (fun k => [some ⟨29, 4, false, .box (pvs m.cells)⟩, some ⟨35, 1, false, .box [.pv (.sl 1 ((imgsAll m a b).map natsRow))]⟩, some ⟨72, 4, false, .box (pvs (Pair.row ⟨p1, p2, p3, p4⟩))⟩])
          (fun k => k ≤ y.length ∧ ∀ j, j < k → entZ m ⟨p1, p2, p3, p4⟩ u j = entZ m ⟨p1, p2, p3, p4⟩ (imN x a b u) (imN y a b j)) (fun k => y.length - k) 0 ⟨Nat.zero_le _, fun j hj => by omega⟩ (back [0, 1, 2] rfl rfl (by repeat' (first | exact trivial | exact rfl | refine And.intro ?_ ?_)) (by repeat' (first | exact trivial | exact rfl | refine And.intro ?_ ?_))) ?_
        intro k ⟨hk, hka⟩
        rcases Nat.lt_or_ge k y.length with hkl | hkg
        · obtain ⟨-, hju⟩ := ok_imN (hxa u hul)
          obtain ⟨-, hjk⟩ := ok_imN (hya k hkl)
          have hE1 := c_pentry m ⟨p1, p2, p3, p4⟩ u k y _ (by show 0 ≤ p2; omega) hy (by omega) (by omega) (by omega) (entZ_at hx hy hpp hul hkl)
          have hE2 := c_pentry m ⟨p1, p2, p3, p4⟩ (imN x a b u) (imN y a b k) y _ (by show 0 ≤ p2; omega) hy (by omega) (by omega) (by omega) (entZ_at hx hy hpp hju hjk)
          have hne : ¬ entZ m ⟨p1, p2, p3, p4⟩ u k = entZ m ⟨p1, p2, p3, p4⟩ (imN x a b u) (imN y a b k) → ¬ swapP m a b := fun h h2 => h (h2.2.1 _ (List.mem_of_getElem? hp) x y hx hy u hul k hkl)
          generalize hZ1 : entZ m ⟨p1, p2, p3, p4⟩ u k = Z1 at *
          generalize hZ2 : entZ m ⟨p1, p2, p3, p4⟩ (imN x a b u) (imN y a b k) = Z2 at *
          generalize hIU : imN x a b u = IU at *
          generalize hIK : imN y a b k = IK at *
          repeat' (first | (refine idx_sl (k := k) (at_map ((hiy k hkl).trans (congrArg some hIK))) rfl ?_) | refine o1 ?_ | refine o2 ?_ | refine k1 ?_ | refine k2 ?_ | refine k3 ?_ | refine k4 ?_ | refine k6 ?_ | refine k7 ?_ | refine And.intro ?_ ?_ | refine o3 ?_ | refine o4 ?_ | (intro h; first | exact Bool.noConfusion h | exact nz _ h | exact nl h | (simp at h; done) | (simp at h; first | (exfalso; omega) | skip) | skip) | (change retOk _ _ _ _; refine ret_pure rfl trivial ?_) | exact (by kernel_rfl : drawOk _ _ = true) | refine eqv_wrap (by omega) (by omega) ?_ | (change vcFunD _ _ _ _ _; refine callD_eq rfl (by repeat' (first | trivial | refine And.intro ?_ ?_ | (show 0 + _ ≤ List.length _; simp))) ALeL.refl (hE1) rfl ?_) | (change vcFunD _ _ _ _ _; refine callD_eq rfl (by repeat' (first | trivial | refine And.intro ?_ ?_ | (show 0 + _ ≤ List.length _; simp))) ALeL.refl (hE2) rfl ?_) | fail)
          all_goals first
            | exact leq_sw (hne (by assumption))
            | exact ⟨k + 1, ⟨by omega, all_lt_succ hka (by rw [hZ1, hIK, hZ2]; first | assumption | (exact Classical.not_not.1 (by assumption)))⟩, by omega, back [0, 1, 2] rfl rfl (by repeat' (first | exact trivial | exact rfl | refine And.intro ?_ ?_)) (by repeat' (first | exact trivial | exact rfl | refine And.intro ?_ ?_))⟩
        · obtain rfl : k = y.length := by omega
          repeat' (first | refine o1 ?_ | refine o2 ?_ | refine k1 ?_ | refine k2 ?_ | refine k3 ?_ | refine k8 ?_ | refine And.intro ?_ ?_ | (intro h; first | exact Bool.noConfusion h | exact nz _ h | exact nl h | (simp at h; done) | (simp at h; first | (exfalso; omega) | skip) | skip) | refine eqv_wrap (by omega) (by omega) ?_ | fail)
          exact ⟨u + 1, ⟨by omega, all_lt_succ hua fun j hj => hka j hj⟩, by omega, back [0, 1, 2] rfl rfl (by repeat' (first | exact trivial | exact rfl | refine And.intro ?_ ?_)) (by repeat' (first | exact trivial | exact rfl | refine And.intro ?_ ?_))⟩
      · obtain rfl : u = x.length := by omega
        repeat' (first | refine o1 ?_ | refine o2 ?_ | refine k1 ?_ | refine k2 ?_ | refine k3 ?_ | refine k8 ?_ | refine And.intro ?_ ?_ | (intro h; first | exact Bool.noConfusion h | exact nz _ h | exact nl h | (simp at h; done) | (simp at h; first | (exfalso; omega) | skip) | skip) | refine eqv_wrap (by omega) (by omega) ?_ | fail)
        exact ⟨i + 1, ⟨by omega, all_lt_succ hpa fun p' h' x' y' hx' hy' j hj k hk => by
          rw [hp] at h'; cases h'
          dsimp only at hx' hy'
          rw [hx] at hx'; cases hx'
          rw [hy] at hy'; cases hy'
          exact hua j hj k hk⟩, by omega, back [0, 1] rfl rfl (by repeat' (first | exact trivial | exact rfl | refine And.intro ?_ ?_)) (by repeat' (first | exact trivial | exact rfl | refine And.intro ?_ ?_))⟩
    · obtain rfl : i = m.pairs.length := by omega
      have hb := c_counts m 84 [] Load.opt (by omega) (fun c hc => by have := hld c hc; omega) (fun c hc l hl => c_swap1 l)
      have haf := c_counts m 85 [.ia [.sl 1 ((imgsAll m a b).map natsRow)]] (imLoad m a b) (by omega) (fun c hc => by have := hld c hc; omega) (fun c hc l hl => c_swap2m hal (good_load hg hc hl).1)
      have hlen : ∀ g, (countsV g m.counts).length ≤ 100000 := fun g => by unfold countsV; rw [srt_len, List.length_map]; omega
      have hll : ∀ g, ∀ c ∈ countsV g m.counts, c.loads.length ≤ 100000 := fun g c hc => by
        obtain ⟨d, hd, rfl⟩ := List.mem_map.1 ((srt_perm _).subset hc)
        have := hld d hd
        show (srt ldC (d.loads.map (optL g))).length ≤ _
        rw [srt_len, List.length_map]; omega
      have heq := c_equalC (countsV Load.opt m.counts) (countsV (imLoad m a b) m.counts) (hlen _) (hlen _) (hll _) (hll _)
      by_cases hcs : cntSame m a b
      · have hcs' : countsV Load.opt m.counts = countsV (imLoad m a b) m.counts := hcs
        rw [pB_t hcs'] at heq
        repeat' (first | ((change vcFun _ _ _ _ _; refine call_frz rfl (by repeat' (first | trivial | refine And.intro ?_ ?_ | (show 0 + _ ≤ List.length _; simp))) ALeL.refl hb ?_; rintro _ rfl)) | ((change vcFun _ _ _ _ _; refine call_frz rfl (by repeat' (first | trivial | refine And.intro ?_ ?_ | (show 0 + _ ≤ List.length _; simp))) ALeL.refl haf ?_; rintro _ rfl)) | refine o1 ?_ | refine o2 ?_ | refine k1 ?_ | refine k2 ?_ | refine k3 ?_ | refine k6 ?_ | refine k7 ?_ | refine k8 ?_ | refine And.intro ?_ ?_ | (intro h; first | exact Bool.noConfusion h | exact nz _ h | exact nl h | (simp at h; done) | (simp at h; first | (exfalso; omega) | skip) | skip) | (change retOk _ _ _ _; refine ret_pure rfl trivial ?_) | (change vcFun _ _ _ _ _; refine call_eq rfl (by repeat' (first | trivial | refine And.intro ?_ ?_ | (show 0 + _ ≤ List.length _; simp))) ALeL.refl (heq) rfl ?_) | fail)
        have hP : swapP m a b := ⟨hal, fun p hp => by
          obtain ⟨j, hj⟩ := List.getElem?_of_mem hp
          exact hpa j (List.getElem?_eq_some_iff.1 hj).1 p hj, hcs⟩
        rw [pB_t hP]
        unfold swapV
        rw [if_pos (pB_t hP)]
        exact ⟨ALe.refl⟩
      · have hcs' : ¬ countsV Load.opt m.counts = countsV (imLoad m a b) m.counts := hcs
        rw [pB_f hcs'] at heq
        repeat' (first | ((change vcFun _ _ _ _ _; refine call_frz rfl (by repeat' (first | trivial | refine And.intro ?_ ?_ | (show 0 + _ ≤ List.length _; simp))) ALeL.refl hb ?_; rintro _ rfl)) | ((change vcFun _ _ _ _ _; refine call_frz rfl (by repeat' (first | trivial | refine And.intro ?_ ?_ | (show 0 + _ ≤ List.length _; simp))) ALeL.refl haf ?_; rintro _ rfl)) | refine o1 ?_ | refine o2 ?_ | refine k1 ?_ | refine k2 ?_ | refine k3 ?_ | refine k7 ?_ | refine k8 ?_ | refine And.intro ?_ ?_ | (intro h; first | exact Bool.noConfusion h | exact nz _ h | exact nl h | (simp at h; done) | (simp at h; first | (exfalso; omega) | skip) | skip) | (change retOk _ _ _ _; refine ret_pure rfl trivial ?_) | (change vcFun _ _ _ _ _; refine call_eq rfl (by repeat' (first | trivial | refine And.intro ?_ ?_ | (show 0 + _ ≤ List.length _; simp))) ALeL.refl (heq) rfl ?_) | fail)
        exact leq_sw fun k => hcs k.2.2
theorem c_swapM (m : Model) (a b : Int) (hz : sizedP m) (hg : goodP m) : PCall Tryz.prog 35 [ag m.cells, vint .i64 a, vint .i64 b] (fun r => r = .tup [.pv (.sl 1 ((swapV m a b).map natsRow)), vbool (pB (swapP m a b))]) :=
  (c_swapM0 m a b hz hg).weak fun r k => ⟨_, k.le, rfl⟩
end Go.Proofs.YtihpjcmloecaaaaGreat.Cw
/-
  Symmetry: exchanges by the reference: the images, charges, weights.
-/
namespace Go.Proofs.YtihpjcmloecaaaaGreat.Cw
open Go Go.Cw Go.Proofs
set_option linter.unusedVariables false
set_option maxRecDepth 100000
set_option maxHeartbeats 8000000
theorem c_exch (r a b : Int) : PCall Tryz.prog 37 [vint .i64 r, vint .i64 a, vint .i64 b] (fun x => x = vint .i64 (exch r a b)) := by
  refine acall_of tok mixed 16 rfl (fn := Tryz.f37) (c := Tryz.f37.body.getD .skip) (by kernel_rfl) (by kernel_rfl) (by kernel_rfl) rfl 0 rfl ?_
  repeat' (first | refine o1 ?_ | refine o2 ?_ | refine k1 ?_ | refine k2 ?_ | refine k3 ?_ | refine k6 ?_ | refine k7 ?_ | refine And.intro ?_ ?_ | (intro h; first | exact Bool.noConfusion h | exact nz _ h | exact nl h | (simp at h; done) | (simp at h; first | (exfalso; omega) | skip) | skip) | (change retOk _ _ _ _; refine ret_pure rfl trivial ?_) | fail)
  all_goals first
    | exact congrArg (vint .i64) (exch_a (by assumption)).symm
    | exact congrArg (vint .i64) (exch_b (by assumption) (by assumption)).symm
    | exact congrArg (vint .i64) (exch_n (by assumption) (by assumption)).symm
    | (subst_vars; simp_all [exch]; done)
theorem place_ext {p q : Placed} (h1 : p.time.weeks = q.time.weeks) (h2 : p.time.day = q.time.day) (h3 : p.time.start = q.time.start) (h4 : p.time.len = q.time.len) (h5 : p.room = q.room) : p = q := by
  obtain ⟨⟨a, b, c, d⟩, e⟩ := p
  obtain ⟨⟨a', b', c', d'⟩, e'⟩ := q
  simp only at h1 h2 h3 h4 h5
  subst h1; subst h2; subst h3; subst h4; subst h5; rfl
def movI : Option Nat → Int
  | some j => j
  | none => -1
theorem c_moved (l : List Opt) (i : Nat) (r : Int) (hl : l.length ≤ 1000) (hi : i < l.length) : PCall Tryz.prog 36 [.pv (.sl 6 (l.map Opt.row)), vint .i64 i, vint .i64 r] (fun x => x = vint .i64 (movI (imgO l i r))) := by
  obtain ⟨o, ho⟩ := getE hi
  have himg : imgO l i r = (sameP l (withRoom o.place r) l.length)[(sameP l o.place i).length]? := by unfold imgO; rw [ho]
  rw [himg]
  have hK := sameP_len (l := l) (p := o.place) (n := i)
  refine acall_of tok mixed 55 rfl (fn := Tryz.f36) (c := Tryz.f36.body.getD .skip) (by kernel_rfl) (by kernel_rfl) (by kernel_rfl) rfl 0 rfl ?_
  repeat' (first | refine o1 ?_ | refine o2 ?_ | refine k1 ?_ | refine k2 ?_ | refine k4 ?_ | fail)
  refine loop_at (fun u : Nat => [(7, vint .i64 (sameP l o.place u).length), (8, vint .i64 u)]) (fun _ => []) (fun u => u ≤ i) (fun u => i - u) 0 (Nat.zero_le _) (by repeat' (first | exact trivial | exact ⟨_, rfl, ALe.refl⟩ | refine And.intro ?_ ?_)) (by repeat' (first | exact trivial)) ?_
  intro u hu
  rcases Nat.lt_or_ge u i with hui | hui
  · obtain ⟨q, hq⟩ := getE (show u < l.length by omega)
    by_cases hqo : q.place = o.place
    · have hs := sameP_succ_t (placed_t hq hqo)
      have hls := sameP_len (l := l) (p := o.place) (n := u)
      have e1 : (sameP l o.place (u + 1)).length = (sameP l o.place u).length + 1 := by rw [hs, List.length_append]; rfl
      have hq1 := congrArg (fun p : Placed => p.time.weeks) hqo
      have hq2 := congrArg (fun p : Placed => p.time.day) hqo
      have hq3 := congrArg (fun p : Placed => p.time.start) hqo
      have hq4 := congrArg (fun p : Placed => p.time.len) hqo
      have hq5 := congrArg (fun p : Placed => p.room) hqo
      have hback : ∀ {x : Nat}, x = u + 1 → (vint .i64 ((sameP l o.place x).length : Nat)) = vint .i64 ((sameP l o.place u).length + 1 : Nat) := fun e => by subst e; rw [e1]
      generalize hKK : (sameP l o.place u).length = K at *
      repeat' (first | (refine idx_sl (k := u) (at_map hq) (by omega) ?_) | (refine idx_sl (k := i) (at_map ho) (by omega) ?_) | refine o1 ?_ | refine o2 ?_ | refine k1 ?_ | refine k2 ?_ | refine k3 ?_ | refine k4 ?_ | refine k6 ?_ | refine And.intro ?_ ?_ | refine o3 ?_ | refine o4 ?_ | (intro h; first | exact Bool.noConfusion h | exact nz _ h | exact nl h | (simp at h; done) | (simp at h; first | (exfalso; omega) | skip) | skip) | exact (by kernel_rfl : drawOk _ _ = true) | refine eqv_wrap (by omega) (by omega) ?_ | fail)
      all_goals first
        | (exfalso; omega)
        | exact ⟨u + 1, by omega, by omega, by rw [e1]; exact back [] rfl rfl trivial (by repeat' (first | exact trivial | exact rfl | refine And.intro ?_ ?_))⟩
    · have hs := sameP_succ_f (placed_f hq hqo)
      repeat' (first | (refine idx_sl (k := u) (at_map hq) (by omega) ?_) | (refine idx_sl (k := i) (at_map ho) (by omega) ?_) | refine o1 ?_ | refine o2 ?_ | refine k1 ?_ | refine k2 ?_ | refine k3 ?_ | refine k4 ?_ | refine k6 ?_ | refine And.intro ?_ ?_ | refine o3 ?_ | refine o4 ?_ | (intro h; first | exact Bool.noConfusion h | exact nz _ h | exact nl h | (simp at h; done) | (simp at h; first | (exfalso; omega) | skip) | skip) | exact (by kernel_rfl : drawOk _ _ = true) | refine eqv_wrap (by omega) (by omega) ?_ | fail)
      all_goals first
        | (exfalso; rename_i h; exact hqo (place_ext h.1.1 h.1.2.1 h.1.2.2.1 h.1.2.2.2 h.2))
        | exact ⟨u + 1, by omega, by omega, by rw [hs]; exact back [] rfl rfl trivial (by repeat' (first | exact trivial | exact rfl | refine And.intro ?_ ?_))⟩
  · obtain rfl : u = i := by omega
    generalize hKK : (sameP l o.place u).length = K at *
    repeat' (first | (refine idx_sl (k := u) (at_map ho) (by omega) ?_) | refine o1 ?_ | refine o2 ?_ | refine k1 ?_ | refine k2 ?_ | refine k3 ?_ | refine k4 ?_ | refine k8 ?_ | refine And.intro ?_ ?_ | (intro h; first | exact Bool.noConfusion h | exact nz _ h | exact nl h | (simp at h; done) | (simp at h; first | (exfalso; omega) | skip) | skip) | exact (by kernel_rfl : drawOk _ _ = true) | fail)
    refine loop_at (fun v : Nat => [(7, vint .i64 (K - (sameP l (withRoom o.place r) v).length)), (10, vint .i64 v)]) (fun _ => []) (fun v => v ≤ l.length ∧ (sameP l (withRoom o.place r) v).length ≤ K) (fun v => l.length - v) 0 ⟨Nat.zero_le _, Nat.zero_le _⟩ (by repeat' (first | exact trivial | exact ⟨_, rfl, ALe.refl⟩ | refine And.intro ?_ ?_)) (by repeat' (first | exact trivial | exact rfl | refine And.intro ?_ ?_)) ?_
    intro v ⟨hv, hvk⟩
    rcases Nat.lt_or_ge v l.length with hvl | hvg
    · obtain ⟨q, hq⟩ := getE hvl
      by_cases hqo : q.place = withRoom o.place r
      · have hs := sameP_succ_t (placed_t hq hqo)
        have hat := sameP_at (placed_t hq hqo) hvl
        have e1 : (sameP l (withRoom o.place r) (v + 1)).length = (sameP l (withRoom o.place r) v).length + 1 := by rw [hs, List.length_append]; rfl
        have hq1 : q.place.time.weeks = o.place.time.weeks := by rw [hqo]; rfl
        have hq2 : q.place.time.day = o.place.time.day := by rw [hqo]; rfl
        have hq3 : q.place.time.start = o.place.time.start := by rw [hqo]; rfl
        have hq4 : q.place.time.len = o.place.time.len := by rw [hqo]; rfl
        have hq5 : q.place.room = r := by rw [hqo]; rfl
        generalize hJJ : (sameP l (withRoom o.place r) v).length = J at *
        repeat' (first | (refine idx_sl (k := v) (at_map hq) (by omega) ?_) | refine o1 ?_ | refine o2 ?_ | refine k1 ?_ | refine k2 ?_ | refine k3 ?_ | refine k4 ?_ | refine k6 ?_ | refine k7 ?_ | refine And.intro ?_ ?_ | refine o3 ?_ | refine o4 ?_ | (intro h; first | exact Bool.noConfusion h | exact nz _ h | exact nl h | (simp at h; done) | (simp at h; first | (exfalso; omega) | skip) | skip) | (change retOk _ _ _ _; refine ret_pure rfl trivial ?_) | exact (by kernel_rfl : drawOk _ _ = true) | refine eqv_len_map ?_ | refine eqv_wrap (by omega) (by omega) ?_ | fail)
        all_goals first
          | (exfalso; omega)
          | (have hJK : J = K := by omega
             rw [hJK] at hat
             rw [hat]; rfl)
          | exact ⟨v + 1, ⟨by omega, by omega⟩, by omega, by rw [e1, show ((K : Int) - ((J + 1 : Nat) : Int)) = (K : Int) - J - 1 by omega]; exact back [0] rfl rfl ⟨rfl, trivial⟩ (by repeat' (first | exact trivial | exact rfl | refine And.intro ?_ ?_))⟩
      · have hs := sameP_succ_f (placed_f hq hqo)
        have hno : (q.place.time.weeks = o.place.time.weeks ∧ q.place.time.day = o.place.time.day ∧ q.place.time.start = o.place.time.start ∧ q.place.time.len = o.place.time.len) ∧ q.place.room = r → False := fun h => hqo (place_ext h.1.1 h.1.2.1 h.1.2.2.1 h.1.2.2.2 h.2)
        repeat' (first | (refine idx_sl (k := v) (at_map hq) (by omega) ?_) | refine o1 ?_ | refine o2 ?_ | refine k1 ?_ | refine k2 ?_ | refine k3 ?_ | refine k4 ?_ | refine k6 ?_ | refine k7 ?_ | refine And.intro ?_ ?_ | refine o3 ?_ | refine o4 ?_ | (intro h; first | exact Bool.noConfusion h | exact nz _ h | exact nl h | (simp at h; done) | (simp at h; first | (exfalso; omega) | skip) | skip) | (change retOk _ _ _ _; refine ret_pure rfl trivial ?_) | exact (by kernel_rfl : drawOk _ _ = true) | refine eqv_len_map ?_ | refine eqv_wrap (by omega) (by omega) ?_ | fail)
        all_goals first
          | exact (hno (by assumption)).elim
          | exact ⟨v + 1, ⟨by omega, by rw [hs]; exact hvk⟩, by omega, by rw [hs]; exact back [0] rfl rfl ⟨rfl, trivial⟩ (by repeat' (first | exact trivial | exact rfl | refine And.intro ?_ ?_))⟩
    · obtain rfl : v = l.length := by omega
      have hnone : (sameP l (withRoom o.place r) l.length)[K]? = none := List.getElem?_eq_none hvk
      repeat' (first | refine o1 ?_ | refine o2 ?_ | refine k1 ?_ | refine k2 ?_ | refine k3 ?_ | refine k7 ?_ | refine k8 ?_ | refine And.intro ?_ ?_ | (intro h; first | exact Bool.noConfusion h | exact nz _ h | exact nl h | (simp at h; done) | (simp at h; first | (exfalso; omega) | skip) | skip) | (change retOk _ _ _ _; refine ret_pure rfl trivial ?_) | refine eqv_len_map ?_ | fail)
      all_goals first
        | (exfalso; omega)
        | (rw [hnone]; rfl)
theorem c_sameCh (a b : Opt) (ha : a.charges.length ≤ 100000) (hb : b.charges.length ≤ 100000) : PCall Tryz.prog 38 [ag a.row, ag b.row] (fun r => r = vbool (pB (a.charges = b.charges))) := by
  obtain ⟨ap, a⟩ := a
  obtain ⟨bp, b⟩ := b
  dsimp only at ha hb ⊢
  refine acall_of tok mixed 31 rfl (fn := Tryz.f38) (c := Tryz.f38.body.getD .skip) (by kernel_rfl) (by kernel_rfl) (by kernel_rfl) rfl 0 rfl ?_
  repeat' (first | refine o1 ?_ | refine o2 ?_ | refine k1 ?_ | refine k2 ?_ | refine k3 ?_ | refine k4 ?_ | refine k6 ?_ | refine k7 ?_ | refine And.intro ?_ ?_ | (intro h; first | exact Bool.noConfusion h | exact nz _ h | exact nl h | (simp at h; done) | (simp at h; first | (exfalso; omega) | skip) | skip) | (change retOk _ _ _ _; refine ret_pure rfl trivial ?_) | refine eqv_len_map ?_ | fail)
  · exact congrArg vbool (pB_f fun e => by subst e; simp_all).symm
  · have hl : a.length = b.length := by omega
    refine loop_at (fun i : Nat => [(5, vint .i64 i)]) (fun _ => []) (fun i => i ≤ a.length ∧ ∀ j, j < i → ∀ x y, a[j]? = some x → b[j]? = some y → x = y) (fun i => a.length - i) 0 ⟨Nat.zero_le _, fun j hj => by omega⟩ (by repeat' (first | exact trivial | exact ⟨_, rfl, ALe.refl⟩ | refine And.intro ?_ ?_)) (by repeat' (first | exact trivial | exact rfl | refine And.intro ?_ ?_)) ?_
    intro i ⟨hi, hall⟩
    rcases Nat.lt_or_ge i a.length with hlt | hge
    · obtain ⟨x, hx⟩ := getE hlt
      obtain ⟨y, hy⟩ := getE (show i < b.length by omega)
      repeat' (first | (refine idx_sl (k := i) (at_map hx) (by omega) ?_) | (refine idx_sl (k := i) (at_map hy) (by omega) ?_) | refine o1 ?_ | refine o2 ?_ | refine k1 ?_ | refine k2 ?_ | refine k3 ?_ | refine k4 ?_ | refine k6 ?_ | refine k7 ?_ | refine And.intro ?_ ?_ | refine o3 ?_ | refine o4 ?_ | (intro h; first | exact Bool.noConfusion h | exact nz _ h | exact nl h | (simp at h; done) | (simp at h; first | (exfalso; omega) | skip) | skip) | (change retOk _ _ _ _; refine ret_pure rfl trivial ?_) | exact (by kernel_rfl : drawOk _ _ = true) | refine eqv_len_map ?_ | refine eqv_wrap (by omega) (by omega) ?_ | fail)
      · exact congrArg vbool (pB_f fun e => by
          subst e
          rw [hx] at hy; injection hy with hy; subst hy
          rename_i h
          rcases h with h | h <;> exact h rfl).symm
      · rename_i h
        exact ⟨i + 1, ⟨by omega, all_lt_succ hall fun x' y' q1 q2 => by rw [hx] at q1; cases q1; rw [hy] at q2; cases q2; exact charge_eq h.1 h.2⟩, by omega, back [0, 1] rfl rfl ⟨rfl, rfl, trivial⟩ (by repeat' (first | exact trivial | exact rfl | refine And.intro ?_ ?_))⟩
    · repeat' (first | refine o1 ?_ | refine o2 ?_ | refine k1 ?_ | refine k2 ?_ | refine k3 ?_ | refine k7 ?_ | refine k8 ?_ | refine And.intro ?_ ?_ | (intro h; first | exact Bool.noConfusion h | exact nz _ h | exact nl h | (simp at h; done) | (simp at h; first | (exfalso; omega) | skip) | skip) | (change retOk _ _ _ _; refine ret_pure rfl trivial ?_) | refine eqv_len_map ?_ | fail)
      exact congrArg vbool (pB_t (lists_eq hl fun j hj => hall j (by omega))).symm
def wtL : List Load → Int → Int → Int
  | [], _, _ => 0
  | x :: l, c, o => if x.cls = c ∧ x.opt = o then x.weight else wtL l c o
theorem c_weight (c : Count) (cl o : Int) (hc : c.loads.length ≤ 100000) : PCall Tryz.prog 89 [ag c.row, vint .i64 cl, vint .i64 o] (fun r => r = vint .i64 (wtL c.loads cl o)) := by
  obtain ⟨cr, l, cm, cp⟩ := c
  dsimp only at hc ⊢
  refine acall_of tok mixed 39 rfl (fn := Tryz.f89) (c := Tryz.f89.body.getD .skip) (by kernel_rfl) (by kernel_rfl) (by kernel_rfl) rfl 0 rfl ?_
  repeat' (first | refine o1 ?_ | refine o2 ?_ | refine k1 ?_ | refine k2 ?_ | refine k4 ?_ | fail)
  refine loop_at (fun i : Nat => [(7, vint .i64 i)]) (fun _ => []) (fun i => i ≤ l.length ∧ wtL (l.drop i) cl o = wtL l cl o) (fun i => l.length - i) 0 ⟨Nat.zero_le _, rfl⟩ (by repeat' (first | exact trivial | exact ⟨_, rfl, ALe.refl⟩ | refine And.intro ?_ ?_)) (by repeat' (first | exact trivial | exact rfl | refine And.intro ?_ ?_)) ?_
  intro i ⟨hi, hw⟩
  rcases Nat.lt_or_ge i l.length with hlt | hge
  · obtain ⟨x, hx⟩ := getE hlt
    have e1 : wtL (l.drop i) cl o = if x.cls = cl ∧ x.opt = o then x.weight else wtL (l.drop (i + 1)) cl o := by rw [drop_at hx]; rfl
    by_cases hm : x.cls = cl ∧ x.opt = o
    · rw [if_pos hm] at e1
      repeat' (first | (refine idx_sl (k := i) (at_map hx) (by omega) ?_) | refine o1 ?_ | refine o2 ?_ | refine k1 ?_ | refine k2 ?_ | refine k3 ?_ | refine k4 ?_ | refine k6 ?_ | refine k7 ?_ | refine And.intro ?_ ?_ | (intro h; first | exact Bool.noConfusion h | exact nz _ h | exact nl h | (simp at h; done) | (simp at h; first | (exfalso; omega) | skip) | skip) | (change retOk _ _ _ _; refine ret_pure rfl trivial ?_) | refine eqv_len_map ?_ | fail)
      all_goals first
        | (exfalso; simp_all; done)
        | (rw [← hw, e1]; rfl)
    · rw [if_neg hm] at e1
      repeat' (first | (refine idx_sl (k := i) (at_map hx) (by omega) ?_) | refine o1 ?_ | refine o2 ?_ | refine k1 ?_ | refine k2 ?_ | refine k3 ?_ | refine k4 ?_ | refine k6 ?_ | refine And.intro ?_ ?_ | (intro h; first | exact Bool.noConfusion h | exact nz _ h | exact nl h | (simp at h; done) | (simp at h; first | (exfalso; omega) | skip) | skip) | refine eqv_len_map ?_ | refine eqv_wrap (by omega) (by omega) ?_ | fail)
      all_goals first
        | (exfalso; exact hm (by first | assumption | exact ⟨by assumption, by assumption⟩))
        | exact ⟨i + 1, ⟨by omega, by rw [← e1]; exact hw⟩, by omega, back [0] rfl rfl ⟨rfl, trivial⟩ (by repeat' (first | exact trivial | exact rfl | refine And.intro ?_ ?_))⟩
  · obtain rfl : i = l.length := by omega
    rw [List.drop_length] at hw
    repeat' (first | refine o1 ?_ | refine o2 ?_ | refine k1 ?_ | refine k2 ?_ | refine k3 ?_ | refine k7 ?_ | refine k8 ?_ | refine And.intro ?_ ?_ | (intro h; first | exact Bool.noConfusion h | exact nz _ h | exact nl h | (simp at h; done) | (simp at h; first | (exfalso; omega) | skip) | skip) | (change retOk _ _ _ _; refine ret_pure rfl trivial ?_) | refine eqv_len_map ?_ | fail)
    rw [← hw]; rfl
end Go.Proofs.YtihpjcmloecaaaaGreat.Cw
/-
  Symmetry: Swap by the program; whether a count is the image of another one, by the reference.
-/
namespace Go.Proofs.YtihpjcmloecaaaaGreat.Cw
open Go Go.Cw Go.Proofs
set_option linter.unusedVariables false
set_option maxRecDepth 100000
set_option maxHeartbeats 8000000
def exP (m : Model) (a b : Int) : Prop := modelE m = 0 ∧ a ≠ b ∧ 0 ≤ a ∧ 0 ≤ b ∧ swapP m a b
noncomputable def exV (m : Model) (a b : Int) : List (List Nat) := if pB (exP m a b) then imgsAll m a b else []
theorem leq_ex {m : Model} {a b : Int} (h : ¬ exP m a b) : Leq (.tup [.pv (.val (.slice none 0 0)), .pv (.val (.bool false))]) (.tup [.pv (.sl 1 ((exV m a b).map natsRow)), vbool (pB (exP m a b))]) := by
  unfold exV
  rw [if_neg (by rw [pB_f h]; simp), pB_f h]
  exact ⟨ALe.tup ⟨ALe.pv PLe.nil, ALe.refl, trivial⟩⟩
theorem model_good {m : Model} (h : modelE m = 0) : goodP m := Classical.byContradiction fun hn => by rw [mE1 (model_sized h) hn] at h; cases h
theorem c_Swap0 (m : Model) (a b : Int) (hl : Laid m) : PCall Tryz.prog 13 [ag m.cells, vint .i64 a, vint .i64 b] (fun r => Leq r (.tup [.pv (.sl 1 ((exV m a b).map natsRow)), vbool (pB (exP m a b))])) := by
  have hv := c_valid m hl
  by_cases hok : modelE m = 0
  · have hsw := c_swapM m a b (model_sized hok) (model_good hok)
    rw [hok] at hv
    by_cases hab : a ≠ b ∧ 0 ≤ a ∧ 0 ≤ b
    · have e : exP m a b ↔ swapP m a b := ⟨fun h => h.2.2.2.2, fun h => ⟨hok, hab.1, hab.2.1, hab.2.2, h⟩⟩
      have e1 : pB (exP m a b) = pB (swapP m a b) := pB_iff e
      have e2 : exV m a b = swapV m a b := by unfold exV swapV; rw [e1]
      rw [e1, e2]
      refine acall_of tok mixed 30 rfl (fn := Tryz.f13) (c := Tryz.f13.body.getD .skip) (by kernel_rfl) (by kernel_rfl) (by kernel_rfl) rfl 0 rfl ?_
      repeat' (first | ((change vcFun _ _ _ _ _; refine call_frz rfl (by repeat' (first | trivial | refine And.intro ?_ ?_ | (show 0 + _ ≤ List.length _; simp))) ALeL.refl hsw ?_; rintro _ rfl)) | refine o1 ?_ | refine o2 ?_ | refine k1 ?_ | refine k2 ?_ | refine k3 ?_ | refine k6 ?_ | refine k7 ?_ | refine And.intro ?_ ?_ | (intro h; first | exact Bool.noConfusion h | exact nz _ h | exact nl h | (simp at h; done) | (simp at h; first | (exfalso; omega) | skip) | skip) | (change retOk _ _ _ _; refine ret_pure rfl trivial ?_) | (change vcFun _ _ _ _ _; refine call_eq rfl (by repeat' (first | trivial | refine And.intro ?_ ?_ | (show 0 + _ ≤ List.length _; simp))) ALeL.refl (hv) rfl ?_) | fail)
      all_goals first
        | (exfalso; omega)
        | exact ⟨ALe.refl⟩
    · have hno : ¬ exP m a b := fun h => hab ⟨h.2.1, h.2.2.1, h.2.2.2.1⟩
      refine acall_of tok mixed 30 rfl (fn := Tryz.f13) (c := Tryz.f13.body.getD .skip) (by kernel_rfl) (by kernel_rfl) (by kernel_rfl) rfl 0 rfl ?_
      repeat' (first | refine o1 ?_ | refine o2 ?_ | refine k1 ?_ | refine k2 ?_ | refine k3 ?_ | refine k7 ?_ | refine And.intro ?_ ?_ | (intro h; first | exact Bool.noConfusion h | exact nz _ h | exact nl h | (simp at h; done) | (simp at h; first | (exfalso; omega) | skip) | skip) | (change retOk _ _ _ _; refine ret_pure rfl trivial ?_) | (change vcFun _ _ _ _ _; refine call_eq rfl (by repeat' (first | trivial | refine And.intro ?_ ?_ | (show 0 + _ ≤ List.length _; simp))) ALeL.refl (hv) rfl ?_) | fail)
      all_goals first
        | (exfalso; omega)
        | exact leq_ex hno
        | (exfalso; exact hab ⟨by assumption, by omega, by omega⟩)
  · have hno : ¬ exP m a b := fun h => hok h.1
    generalize modelE m = E at hv hok
    refine acall_of tok mixed 30 rfl (fn := Tryz.f13) (c := Tryz.f13.body.getD .skip) (by kernel_rfl) (by kernel_rfl) (by kernel_rfl) rfl 0 rfl ?_
    repeat' (first | refine o1 ?_ | refine o2 ?_ | refine k1 ?_ | refine k2 ?_ | refine k3 ?_ | refine k7 ?_ | refine And.intro ?_ ?_ | (intro h; first | exact Bool.noConfusion h | exact nz _ h | exact nl h | (simp at h; done) | (simp at h; first | (exfalso; omega) | skip) | skip) | (change retOk _ _ _ _; refine ret_pure rfl trivial ?_) | (change vcFun _ _ _ _ _; refine call_eq rfl (by repeat' (first | trivial | refine And.intro ?_ ?_ | (show 0 + _ ≤ List.length _; simp))) ALeL.refl (hv) rfl ?_) | fail)
    all_goals first
      | (exfalso; omega)
      | exact leq_ex hno
theorem c_Swap (m : Model) (a b : Int) (hl : Laid m) : PCall Tryz.prog 13 [ag m.cells, vint .i64 a, vint .i64 b] (fun r => r = .tup [.pv (.sl 1 ((exV m a b).map natsRow)), vbool (pB (exP m a b))]) :=
  (c_Swap0 m a b hl).weak fun r k => ⟨_, k.le, rfl⟩
def imgd (g : Load → Int) (a b : Count) : Prop := a.rule = b.rule ∧ a.most = b.most ∧ a.penalty = b.penalty ∧ a.loads.length = b.loads.length ∧ ∀ (i : Nat) (x : Load), a.loads[i]? = some x → wtL b.loads x.cls (g x) = x.weight
theorem c_imaged (a b : Count) (V : List (List Nat)) (g : Load → Int) (hal : a.loads.length ≤ 100000) (hbl : b.loads.length ≤ 100000) (hg : ∀ x ∈ a.loads, 0 ≤ x.cls ∧ 0 ≤ x.opt ∧ ∃ (v : List Nat) (j : Nat), V[x.cls.toNat]? = some v ∧ v[x.opt.toNat]? = some j ∧ g x = j) :
    PCall Tryz.prog 40 [ag a.row, ag b.row, .pv (.sl 1 (V.map natsRow))] (fun r => r = vbool (pB (imgd g a b))) := by
  refine acall_of tok mixed 65 rfl (fn := Tryz.f40) (c := Tryz.f40.body.getD .skip) (by kernel_rfl) (by kernel_rfl) (by kernel_rfl) rfl 0 rfl ?_
  by_cases h1 : a.rule = b.rule ∧ a.most = b.most ∧ a.penalty = b.penalty ∧ a.loads.length = b.loads.length
  · obtain ⟨q1, q2, q3, q4⟩ := h1
    repeat' (first | refine o1 ?_ | refine o2 ?_ | refine k1 ?_ | refine k2 ?_ | refine k3 ?_ | refine k4 ?_ | refine k6 ?_ | refine And.intro ?_ ?_ | (intro h; first | exact Bool.noConfusion h | exact nz _ h | exact nl h | (simp at h; done) | (simp at h; first | (exfalso; omega) | skip) | skip) | refine eqv_len_map ?_ | fail)
    all_goals first
      | (exfalso; omega)
      | skip
    refine loop_at (fun i : Nat => [(7, vint .i64 i)]) (fun _ => []) (fun i => i ≤ a.loads.length ∧ ∀ j, j < i → ∀ x, a.loads[j]? = some x → wtL b.loads x.cls (g x) = x.weight) (fun i => a.loads.length - i) 0 ⟨Nat.zero_le _, fun j hj => by omega⟩ (by repeat' (first | exact trivial | exact ⟨_, rfl, ALe.refl⟩ | refine And.intro ?_ ?_)) (by repeat' (first | exact trivial | exact rfl | refine And.intro ?_ ?_)) ?_
    intro i ⟨hi, hall⟩
    rcases Nat.lt_or_ge i a.loads.length with hlt | hge
    · obtain ⟨x, hx⟩ := getE hlt
      obtain ⟨p1, p2, v, j, p3, p4, p5⟩ := hg x (List.mem_of_getElem? hx)
      have hw := c_weight b x.cls (g x) hbl
      have hk1 : x.cls = (x.cls.toNat : Int) := by omega
      have hk2 : x.opt = (x.opt.toNat : Int) := by omega
      rw [p5] at hw
      have hgo : wtL b.loads x.cls j = x.weight → ∀ y, a.loads[i]? = some y → wtL b.loads y.cls (g y) = y.weight := fun h y hy => by
        rw [hx] at hy; cases hy; rw [p5]; exact h
      have hst : ¬ wtL b.loads x.cls j = x.weight → ¬ imgd g a b := fun h k => h (by rw [← p5]; exact k.2.2.2.2 i x hx)
      generalize wtL b.loads x.cls j = W at *
      repeat' (first | (refine idx_sl (k := i) (at_map hx) (by omega) ?_) | (refine idx_sl (k := x.cls.toNat) (at_map p3) hk1 ?_) | (refine idx_sl (k := x.opt.toNat) (at_map p4) hk2 ?_) | refine o1 ?_ | refine o2 ?_ | refine k1 ?_ | refine k2 ?_ | refine k3 ?_ | refine k4 ?_ | refine k6 ?_ | refine k7 ?_ | refine And.intro ?_ ?_ | refine o3 ?_ | refine o4 ?_ | (intro h; first | exact Bool.noConfusion h | exact nz _ h | exact nl h | (simp at h; done) | (simp at h; first | (exfalso; omega) | skip) | skip) | (change retOk _ _ _ _; refine ret_pure rfl trivial ?_) | exact (by kernel_rfl : drawOk _ _ = true) | refine eqv_len_map ?_ | refine eqv_wrap (by omega) (by omega) ?_ | (change vcFunD _ _ _ _ _; refine callD_eq rfl (by repeat' (first | trivial | refine And.intro ?_ ?_ | (show 0 + _ ≤ List.length _; simp))) ALeL.refl (hw) rfl ?_) | fail)
      all_goals first
        | exact congrArg vbool (pB_f (hst (by assumption))).symm
        | exact ⟨i + 1, ⟨by omega, all_lt_succ hall (hgo (by assumption))⟩, by omega, back [0, 1] rfl rfl ⟨rfl, rfl, trivial⟩ (by repeat' (first | exact trivial | exact rfl | refine And.intro ?_ ?_))⟩
    · repeat' (first | refine o1 ?_ | refine o2 ?_ | refine k1 ?_ | refine k2 ?_ | refine k3 ?_ | refine k7 ?_ | refine k8 ?_ | refine And.intro ?_ ?_ | (intro h; first | exact Bool.noConfusion h | exact nz _ h | exact nl h | (simp at h; done) | (simp at h; first | (exfalso; omega) | skip) | skip) | (change retOk _ _ _ _; refine ret_pure rfl trivial ?_) | refine eqv_len_map ?_ | fail)
      exact congrArg vbool (pB_t ⟨q1, q2, q3, q4, fun j x hx => hall j (by have := (List.getElem?_eq_some_iff.1 hx).1; omega) x hx⟩).symm
  · have hno : ¬ imgd g a b := fun k => h1 ⟨k.1, k.2.1, k.2.2.1, k.2.2.2.1⟩
    repeat' (first | refine o1 ?_ | refine o2 ?_ | refine k1 ?_ | refine k2 ?_ | refine k3 ?_ | refine k7 ?_ | refine And.intro ?_ ?_ | (intro h; first | exact Bool.noConfusion h | exact nz _ h | exact nl h | (simp at h; done) | (simp at h; first | (exfalso; omega) | skip) | skip) | (change retOk _ _ _ _; refine ret_pure rfl trivial ?_) | refine eqv_len_map ?_ | fail)
    all_goals first
      | exact congrArg vbool (pB_f hno).symm
      | (exfalso; omega)
end Go.Proofs.YtihpjcmloecaaaaGreat.Cw
/-
  Symmetry, plain: counts are the same behind an exchange if and only if each has its image.
-/
namespace Go.Proofs.YtihpjcmloecaaaaGreat.Cw
open Go Go.Cw Go.Proofs
set_option linter.unusedVariables false
set_option maxRecDepth 100000
/-! ### One by one -/
section
variable {κ : Type}
def tkn : List Bool → List κ → List κ
  | true :: T, y :: ys => y :: tkn T ys
  | false :: T, _ :: ys => tkn T ys
  | _, _ => []
def utk : List Bool → List κ → List κ
  | true :: T, _ :: ys => utk T ys
  | false :: T, y :: ys => y :: utk T ys
  | _, _ => []
theorem tkn_split : ∀ {T : List Bool} {ys : List κ}, T.length = ys.length → (tkn T ys ++ utk T ys).Perm ys
  | [], [], _ => List.Perm.refl _
  | [], _ :: _, h => by simp at h
  | _ :: _, [], h => by simp at h
  | true :: T, y :: ys, h => by
    show (y :: (tkn T ys ++ utk T ys)).Perm _
    exact (tkn_split (by simpa using h)).cons y
  | false :: T, y :: ys, h => by
    show (tkn T ys ++ y :: utk T ys).Perm _
    exact List.perm_middle.trans ((tkn_split (by simpa using h)).cons y)
theorem tkn_set {y : κ} : ∀ {T : List Bool} {ys : List κ} {k : Nat}, T[k]? = some false → ys[k]? = some y → (tkn (T.set k true) ys).Perm (y :: tkn T ys)
  | [], _, _, h, _ => by simp at h
  | _ :: _, [], _, _, h => by simp at h
  | t :: T, z :: ys, 0, h1, h2 => by
    simp only [List.getElem?_cons_zero, Option.some.injEq] at h1 h2
    subst h1; subst h2
    exact List.Perm.refl _
  | true :: T, z :: ys, k + 1, h1, h2 => by
    have ih := tkn_set (T := T) (ys := ys) (k := k) (by simpa using h1) (by simpa using h2)
    show (z :: tkn (T.set k true) ys).Perm (y :: z :: tkn T ys)
    exact (ih.cons z).trans (List.Perm.swap ..)
  | false :: T, z :: ys, k + 1, h1, h2 => tkn_set (T := T) (ys := ys) (k := k) (by simpa using h1) (by simpa using h2)
theorem utk_mem {y : κ} : ∀ {T : List Bool} {ys : List κ}, y ∈ utk T ys → ∃ k : Nat, T[k]? = some false ∧ ys[k]? = some y
  | [], _, h => by simp [utk] at h
  | _ :: _, [], h => by simp [utk] at h
  | true :: T, z :: ys, h => by
    obtain ⟨k, h1, h2⟩ := utk_mem (T := T) (ys := ys) h
    exact ⟨k + 1, by simpa using h1, by simpa using h2⟩
  | false :: T, z :: ys, h => by
    rcases List.mem_cons.1 h with rfl | h
    · exact ⟨0, rfl, rfl⟩
    · obtain ⟨k, h1, h2⟩ := utk_mem (T := T) (ys := ys) h
      exact ⟨k + 1, by simpa using h1, by simpa using h2⟩
theorem tkn_none : ∀ {n : Nat} {ys : List κ}, tkn (List.replicate n false) ys = []
  | 0, _ => rfl
  | n + 1, [] => rfl
  | n + 1, _ :: ys => by rw [List.replicate_succ]; exact tkn_none (n := n) (ys := ys)
structure Grd (xs ys : List κ) (i : Nat) (T : List Bool) : Prop where
  len : T.length = ys.length
  perm : (tkn T ys).Perm (xs.take i)
theorem Grd.start {xs ys : List κ} : Grd xs ys 0 (List.replicate ys.length false) := ⟨List.length_replicate, by rw [tkn_none]; exact List.Perm.refl _⟩
theorem Grd.next {xs ys : List κ} {i k : Nat} {T : List Bool} {x : κ} (h : Grd xs ys i T) (hx : xs[i]? = some x) (hk : T[k]? = some false) (hy : ys[k]? = some x) : Grd xs ys (i + 1) (T.set k true) :=
  ⟨by rw [List.length_set]; exact h.len, by
    rw [tk_snoc hx]
    exact (tkn_set hk hy).trans ((h.perm.cons x).trans (List.perm_append_singleton x _).symm)⟩
theorem Grd.stop {xs ys : List κ} {i : Nat} {T : List Bool} {x : κ} (h : Grd xs ys i T) (hx : xs[i]? = some x) (hno : ∀ k : Nat, T[k]? = some false → ys[k]? ≠ some x) : ¬ xs.Perm ys := fun hp => by
  have hi := (List.getElem?_eq_some_iff.1 hx).1
  have e : xs = xs.take i ++ x :: xs.drop (i + 1) := by rw [← drop_at hx, List.take_append_drop]
  have h1 : (xs.take i ++ utk T ys).Perm (xs.take i ++ x :: xs.drop (i + 1)) := by
    rw [← e]
    exact (h.perm.symm.append_right _).trans ((tkn_split h.len).trans hp.symm)
  have h2 := (List.perm_append_left_iff _).1 h1
  obtain ⟨k, h3, h4⟩ := utk_mem (h2.symm.subset (by simp : x ∈ x :: xs.drop (i + 1)))
  exact hno k h3 h4
theorem Grd.all {xs ys : List κ} {T : List Bool} (h : Grd xs ys xs.length T) (hl : xs.length = ys.length) : xs.Perm ys := by
  have h1 := h.perm
  rw [List.take_length] at h1
  have h2 := tkn_split h.len
  have h3 := h1.length_eq
  have h4 := h2.length_eq
  rw [List.length_append] at h4
  have h5 : utk T ys = [] := List.eq_nil_of_length_eq_zero (by omega)
  rw [h5, List.append_nil] at h2
  exact h1.symm.trans h2
theorem nodup_perm : ∀ {a b : List κ}, a.Nodup → (∀ x ∈ a, x ∈ b) → a.length = b.length → a.Perm b
  | [], b, _, _, h => by rw [List.eq_nil_of_length_eq_zero (l := b) (by simpa using h.symm)]
  | x :: a, b, hn, hs, h => by
    rw [List.nodup_cons] at hn
    obtain ⟨s, t, rfl⟩ := List.append_of_mem (hs x (by simp))
    have ih := nodup_perm (a := a) (b := s ++ t) hn.2 (fun y hy => by
      have := hs y (by simp [hy])
      rcases List.mem_append.1 this with h1 | h1
      · simp [h1]
      · rcases List.mem_cons.1 h1 with rfl | h1
        · exact absurd hy hn.1
        · simp [h1]) (by simp at h ⊢; omega)
    exact (ih.cons x).trans List.perm_middle.symm
end
/-! ### Images -/
theorem exch_inj {r s a b : Int} (h : exch r a b = exch s a b) : r = s := by
  unfold exch at h
  split at h <;> split at h <;> (try split at h) <;> (try split at h) <;> omega
theorem sameP_nodup {l : List Opt} {p : Placed} {n : Nat} : (sameP l p n).Nodup := List.Pairwise.filter _ List.nodup_range
theorem imN_inj {l : List Opt} {a b : Int} (h : imgsP l a b) {i j : Nat} (hi : i < l.length) (hj : j < l.length) (he : imN l a b i = imN l a b j) : i = j := by
  obtain ⟨h1, -⟩ := ok_imN (h i hi)
  obtain ⟨h2, -⟩ := ok_imN (h j hj)
  rw [he] at h1
  generalize imN l a b j = q at h1 h2
  obtain ⟨o, ho⟩ := getE hi
  obtain ⟨p, hp⟩ := getE hj
  rw [swap_of ho rfl] at h1
  rw [swap_of hp rfl] at h2
  unfold imgO at h1 h2
  rw [ho] at h1; rw [hp] at h2
  dsimp only at h1 h2
  obtain ⟨o1, k1, k2⟩ := placed_iff.1 (sameP_mem.1 (List.mem_of_getElem? h1)).2
  obtain ⟨o2, k3, k4⟩ := placed_iff.1 (sameP_mem.1 (List.mem_of_getElem? h2)).2
  rw [k1] at k3; cases k3
  have hw : withRoom o.place (exch o.place.room a b) = withRoom p.place (exch p.place.room a b) := k2.symm.trans k4
  have ht : o.place.time = p.place.time := by have := congrArg Placed.time hw; exact this
  have hr : o.place.room = p.place.room := exch_inj (by have := congrArg Placed.room hw; exact this)
  have hpl : o.place = p.place := by
    obtain ⟨⟨t, r⟩, c⟩ := o
    obtain ⟨⟨t', r'⟩, c'⟩ := p
    simp only at ht hr
    subst ht; subst hr; rfl
  rw [hpl] at h1
  have hnd := sameP_nodup (l := l) (p := withRoom p.place (exch p.place.room a b)) (n := l.length)
  have hK : (sameP l p.place i).length = (sameP l p.place j).length := by
    have e1 := (List.getElem?_eq_some_iff.1 h1)
    have e2 := (List.getElem?_eq_some_iff.1 h2)
    obtain ⟨b1, e1⟩ := e1
    obtain ⟨b2, e2⟩ := e2
    rcases Nat.lt_trichotomy (sameP l p.place i).length (sameP l p.place j).length with h | h | h
    · exact absurd (e1.trans e2.symm) (List.pairwise_iff_getElem.1 hnd _ _ b1 b2 h)
    · exact h
    · exact absurd (e2.trans e1.symm) (List.pairwise_iff_getElem.1 hnd _ _ b2 b1 h)
  have g1 := sameP_at (placed_t ho hpl) hi
  have g2 := sameP_at (placed_t hp rfl) hj
  rw [hK] at g1
  rw [g1] at g2
  injection g2
/-! ### Loads -/
def lkey (x : Load) : Int := x.cls * 24 + x.opt
theorem load_step {m : Model} {c : Count} (hz : ∀ l ∈ m.classes, l.length ≤ 24) (h : ∀ i, i < c.loads.length → loadAt m c.loads i) : ∀ {i j : Nat} {x y : Load}, i < j → c.loads[i]? = some x → c.loads[j]? = some y → lkey x < lkey y
  | i, j + 1, x, y, hij, hx, hy => by
    have hj := (List.getElem?_eq_some_iff.1 hy).1
    obtain ⟨z, hz'⟩ := getE (show j < c.loads.length by omega)
    have h1 := (h (j + 1) hj y hy).2.2.2 j z rfl hz'
    have h2 := loads_ge hz h hz'
    have h3 := loads_ge hz h hy
    have hzy : lkey z < lkey y := by unfold lkey; omega
    rcases Nat.eq_or_lt_of_le (Nat.le_of_lt_succ hij) with e | e
    · subst e; rw [hx] at hz'; cases hz'; exact hzy
    · have := load_step hz h e hx hz'; omega
  | i, 0, x, y, hij, hx, hy => by omega
theorem wt_mem : ∀ {l : List Load} {c o w : Int}, wtL l c o = w → 1 ≤ w → (⟨c, o, w⟩ : Load) ∈ l
  | [], _, _, w, h, hw => by simp [wtL] at h; omega
  | x :: l, c, o, w, h, hw => by
    unfold wtL at h
    split at h
    · rename_i k
      obtain ⟨k1, k2⟩ := k
      have : x = ⟨c, o, w⟩ := ld_eq k1 k2 h
      simp [this]
    · exact List.mem_cons_of_mem _ (wt_mem h hw)
theorem wt_of : ∀ {l : List Load} {x : Load}, l.Pairwise (fun a b => ¬ (a.cls = b.cls ∧ a.opt = b.opt)) → x ∈ l → wtL l x.cls x.opt = x.weight
  | [], x, _, h => by simp at h
  | y :: l, x, hp, h => by
    rw [List.pairwise_cons] at hp
    unfold wtL
    rcases List.mem_cons.1 h with rfl | h
    · rw [if_pos ⟨rfl, rfl⟩]
    · rw [if_neg fun k => hp.1 x h k]
      exact wt_of hp.2 h
theorem pair_of {α : Type} {l : List α} {R : α → α → Prop} (h : ∀ (i j : Nat) x y, i < j → l[i]? = some x → l[j]? = some y → R x y) : l.Pairwise R := by
  rw [List.pairwise_iff_getElem]
  intro i j hi hj hij
  exact h i j _ _ hij (List.getElem?_eq_getElem hi) (List.getElem?_eq_getElem hj)
section
variable {m : Model} {a b : Int}
theorem loads_apart (hz : sizedP m) (hg : goodP m) {c : Count} (hc : c ∈ m.counts) : c.loads.Pairwise fun x y => ¬ (x.cls = y.cls ∧ x.opt = y.opt) :=
  pair_of fun i j x y hij hx hy k => by
    have := load_step hz.2.1 (hg.2.2 c hc).2.2.2.2 hij hx hy
    unfold lkey at this; omega
theorem imLoad_inj (hi : allImg m a b) {x y : Load} (hx : optionP m x.cls x.opt) (hy : optionP m y.cls y.opt) (hc : x.cls = y.cls) (h : imLoad m a b x = imLoad m a b y) : x.opt = y.opt := by
  obtain ⟨x1, x2, l, x3, x4⟩ := hx
  obtain ⟨y1, y2, l', y3, y4⟩ := hy
  rw [hc] at x3
  rw [x3] at y3; cases y3
  have e1 : imLoad m a b x = (imN l a b x.opt.toNat : Int) := by unfold imLoad; rw [hc, x3]
  have e2 : imLoad m a b y = (imN l a b y.opt.toNat : Int) := by unfold imLoad; rw [x3]
  rw [e1, e2] at h
  have := imN_inj (hi l (List.mem_of_getElem? x3)) (i := x.opt.toNat) (j := y.opt.toNat) (by omega) (by omega) (by omega)
  omega
theorem moved_nodup (hz : sizedP m) (hg : goodP m) (hi : allImg m a b) {c : Count} (hc : c ∈ m.counts) : (c.loads.map (optL (imLoad m a b))).Nodup := by
  unfold List.Nodup
  rw [List.pairwise_map]
  have h2 : c.loads.Pairwise fun x y => (x ∈ c.loads ∧ y ∈ c.loads) ∧ ¬ (x.cls = y.cls ∧ x.opt = y.opt) :=
    pair_of fun i j x y hij hx hy => ⟨⟨List.mem_of_getElem? hx, List.mem_of_getElem? hy⟩, fun k => by
      have := load_step hz.2.1 (hg.2.2 c hc).2.2.2.2 hij hx hy
      unfold lkey at this; omega⟩
  refine h2.imp fun {x y} h e => h.2 ?_
  have e1 : x.cls = y.cls := by have := congrArg Load.cls e; exact this
  have e2 : imLoad m a b x = imLoad m a b y := by have := congrArg Load.opt e; exact this
  exact ⟨e1, imLoad_inj hi (good_load hg hc h.1.1).1 (good_load hg hc h.1.2).1 e1 e2⟩
theorem imgd_iff (hz : sizedP m) (hg : goodP m) (hi : allImg m a b) {c d : Count} (hc : c ∈ m.counts) (hd : d ∈ m.counts) : imgd (imLoad m a b) c d ↔ optC (imLoad m a b) c = optC Load.opt d := by
  have hid : d.loads.map (optL Load.opt) = d.loads := by
    have : (optL Load.opt) = id := rfl
    rw [this, List.map_id]
  have hp : optC (imLoad m a b) c = optC Load.opt d ↔ c.rule = d.rule ∧ c.most = d.most ∧ c.penalty = d.penalty ∧ (c.loads.map (optL (imLoad m a b))).Perm d.loads := by
    rw [← srt_eq totLd, ← hid]
    unfold optC
    simp only [Count.mk.injEq, hid]
    grind
  rw [hp]
  unfold imgd
  constructor
  · rintro ⟨h1, h2, h3, h4, h5⟩
    refine ⟨h1, h2, h3, nodup_perm (moved_nodup hz hg hi hc) (fun y hy => ?_) (by rw [List.length_map]; exact h4)⟩
    obtain ⟨x, hx, rfl⟩ := List.mem_map.1 hy
    obtain ⟨i, hi'⟩ := List.getElem?_of_mem hx
    exact wt_mem (h5 i x hi') (good_load hg hc hx).2
  · rintro ⟨h1, h2, h3, h4⟩
    refine ⟨h1, h2, h3, by rw [← h4.length_eq, List.length_map], fun i x hx => ?_⟩
    have := wt_of (loads_apart hz hg hd) (h4.subset (List.mem_map_of_mem (f := optL (imLoad m a b)) (List.mem_of_getElem? hx)))
    exact this
theorem cnt_iff : cntSame m a b ↔ (m.counts.map (optC (imLoad m a b))).Perm (m.counts.map (optC Load.opt)) := by
  unfold cntSame countsV
  rw [srt_eq totCt]
  exact ⟨List.Perm.symm, List.Perm.symm⟩
end
end Go.Proofs.YtihpjcmloecaaaaGreat.Cw
/-
  Symmetry: Swap by the reference.
-/
namespace Go.Proofs.YtihpjcmloecaaaaGreat.Cw
open Go Go.Cw Go.Proofs
set_option linter.unusedVariables false
set_option maxRecDepth 100000
set_option maxHeartbeats 16000000
def boolRow (b : Bool) : List PV := [.val (.bool b)]
theorem c_rSwap0 (m : Model) (a b : Int) (hl : Laid m) : PCall Tryz.prog 14 [ag m.cells, vint .i64 a, vint .i64 b] (fun r => Leq r (.tup [.pv (.sl 1 ((exV m a b).map natsRow)), vbool (pB (exP m a b))])) := by
  have hv := c_rvalid m hl
  by_cases hok : modelE m = 0
  · rw [hok] at hv
    by_cases hab : a ≠ b ∧ 0 ≤ a ∧ 0 ≤ b
    · obtain ⟨hab1, hab2, hab3⟩ := hab
      have hz := model_sized hok
      have hg := model_good hok
      have hld : ∀ c ∈ m.counts, c.loads.length ≤ 576 := fun c hc => loads_len hz (hg.2.2 c hc).2.2.2.2
      obtain ⟨z1, z2, z3, z4, z5⟩ := id hz
      refine acall_of tok mixed 188 rfl (fn := Tryz.f14) (c := Tryz.f14.body.getD .skip) (by kernel_rfl) (by kernel_rfl) (by kernel_rfl) rfl 0 rfl ?_
      repeat' (first | refine o1 ?_ | refine o2 ?_ | refine k1 ?_ | refine k2 ?_ | refine k3 ?_ | refine k4 ?_ | refine k6 ?_ | refine And.intro ?_ ?_ | (intro h; first | exact Bool.noConfusion h | exact nz _ h | exact nl h | (simp at h; done) | (simp at h; first | (exfalso; omega) | skip) | skip) | (change vcFun _ _ _ _ _; refine call_eq rfl (by repeat' (first | trivial | refine And.intro ?_ ?_ | (show 0 + _ ≤ List.length _; simp))) ALeL.refl (hv) rfl ?_) | fail)
      all_goals first
        | (exfalso; omega)
        | skip
      refine loop_for (fun i : Nat => [(1, vint .i64 a), (2, vint .i64 b), (3, .ptr 0 4 0 0), (8, slP 1 1 (((m.classes.take i).map fun l => imgsL l a b l.length).map natsRow)), (9, vint .i64 i)])
        (fun i => [some ⟨29, 4, false, .box (pvs m.cells)⟩, obP 22 1 (((m.classes.take i).map fun l => imgsL l a b l.length).map natsRow)])
        (fun i => i ≤ m.classes.length ∧ ∀ j, j < i → ∀ l, m.classes[j]? = some l → imgsP l a b) (fun i => m.classes.length - i) 0 ⟨Nat.zero_le _, fun j hj => by omega⟩ ?_ ?_
      · exact back [0, 1] rfl rfl (by repeat' (first | exact trivial | exact rfl | refine And.intro ?_ ?_)) (by repeat' (first | exact trivial | exact rfl | refine And.intro ?_ ?_))
      intro i ⟨hi, hall⟩
      rcases Nat.lt_or_ge i m.classes.length with hlt | hge
      · obtain ⟨l, hl'⟩ := getE hlt
        have hlm := List.mem_of_getElem? hl'
        have hln := z2 l hlm
        have htl : ((m.classes.take i).map fun l => imgsL l a b l.length).length ≤ 24 := by rw [List.length_map]; exact Nat.le_trans (List.length_take_le' ..) z1
        have hnx := all_rows (a := a) (b := b) hl'
        generalize hRS : ((m.classes.take i).map fun l => imgsL l a b l.length) = RS at *
        repeat' (first | (refine fh_ob ?_) | (refine idx_sl (k := i) (at_map hl') rfl ?_) | refine o1 ?_ | refine o2 ?_ | refine k1 ?_ | refine k2 ?_ | refine k3 ?_ | refine k4 ?_ | refine k6 ?_ | refine And.intro ?_ ?_ | (intro h; first | exact Bool.noConfusion h | exact nz _ h | exact nl h | (simp at h; done) | (simp at h; first | (exfalso; omega) | skip) | skip) | refine eqv_len_map ?_ | fail)
        refine loop_for (fun k : Nat => [(1, vint .i64 a), (2, vint .i64 b), (3, .ptr 0 4 0 0), (8, slP 1 1 (RS.map natsRow)), (9, vint .i64 i), (10, .pv (.sl 6 (l.map Opt.row))), (11, slP 2 1 ((imgsL l a b k).map natRow)), (12, vint .i64 k)])
          (fun k => [some ⟨29, 4, false, .box (pvs m.cells)⟩, obP 22 1 (RS.map natsRow), obP 3 1 ((imgsL l a b k).map natRow)])
          (fun k => k ≤ l.length ∧ ∀ j, j < k → okO l a b j) (fun k => l.length - k) 0 ⟨Nat.zero_le _, fun j hj => by omega⟩ ?_ ?_
        · exact back [0, 1, 2] rfl rfl (by repeat' (first | exact trivial | exact rfl | refine kept_ob rfl ?_ | refine And.intro ?_ ?_)) (by repeat' (first | exact trivial | exact rfl | exact ren_get rfl | refine And.intro ?_ ?_))
        intro k ⟨hk, hka⟩
        rcases Nat.lt_or_ge k l.length with hkl | hkg
        · obtain ⟨o, ho⟩ := getE hkl
          have hil := imgs_len (l := l) (a := a) (b := b) (n := k)
          have hex := c_exch o.place.room a b
          have hmv := c_moved l k (exch o.place.room a b) (by omega) hkl
          have hso := swap_of (a := a) (b := b) ho rfl
          generalize exch o.place.room a b = R at *
          rw [← hso] at hmv
          rcases hj : swapO l a b k with _ | j
          · have hno : ¬ exP m a b := fun h => imgs_no hkl (ok_none hj) (h.2.2.2.2.1 l hlm)
            rw [hj] at hmv
            repeat' (first | (refine fh_ob ?_) | (refine idx_sl (k := k) (at_map ho) rfl ?_) | refine o1 ?_ | refine o2 ?_ | refine k1 ?_ | refine k2 ?_ | refine k3 ?_ | refine k4 ?_ | refine k6 ?_ | refine k7 ?_ | refine And.intro ?_ ?_ | refine o3 ?_ | refine o4 ?_ | (intro h; first | exact Bool.noConfusion h | exact nz _ h | exact nl h | (simp at h; done) | (simp at h; first | (exfalso; omega) | skip) | skip) | (change retOk _ _ _ _; refine ret_pure rfl trivial ?_) | exact (by kernel_rfl : drawOk _ _ = true) | refine eqv_len_map ?_ | (change vcFun _ _ _ _ _; refine call_eq rfl (by repeat' (first | trivial | refine And.intro ?_ ?_ | (show 0 + _ ≤ List.length _; simp))) ALeL.refl (hex) rfl ?_) | (change vcFun _ _ _ _ _; refine call_eq rfl (by repeat' (first | trivial | refine And.intro ?_ ?_ | (show 0 + _ ≤ List.length _; simp))) ALeL.refl (hmv) rfl ?_) | fail)
            all_goals first
              | (exfalso; omega)
              | exact leq_ex hno
          · have hjl : j < l.length := by rw [hso] at hj; exact img_lt hj
            obtain ⟨q, hq⟩ := getE hjl
            have hsc := c_sameCh o q (by have := charges_len (hg.1 l hlm o (List.mem_of_getElem? ho)) z5.2; omega) (by have := charges_len (hg.1 l hlm q (List.mem_of_getElem? hq)) z5.2; omega)
            rw [hj] at hmv
            by_cases hcc : o.charges = q.charges
            · have hsu := imgs_succ hj
              rw [pB_t hcc] at hsc
              repeat' (first | (refine fv_sl ?_) | (refine fh_ob ?_) | (refine idx_sl (k := k) (at_map ho) rfl ?_) | (refine idx_sl (k := j) (at_map hq) rfl ?_) | ((refine o_app rfl rfl rfl rfl rfl rfl rfl rfl rfl rfl rfl (by rw [List.length_map]; omega) (by rw [List.length_map]; omega) ?_)) | refine o1 ?_ | refine o2 ?_ | refine k1 ?_ | refine k2 ?_ | refine k3 ?_ | refine k4 ?_ | refine k6 ?_ | refine And.intro ?_ ?_ | refine o3 ?_ | refine o4 ?_ | (intro h; first | exact Bool.noConfusion h | exact nz _ h | exact nl h | (simp at h; done) | (simp at h; first | (exfalso; omega) | skip) | skip) | exact (by kernel_rfl : drawOk _ _ = true) | refine eqv_len_map ?_ | refine eqv_wrap (by omega) (by omega) ?_ | (change vcFun _ _ _ _ _; refine call_eq rfl (by repeat' (first | trivial | refine And.intro ?_ ?_ | (show 0 + _ ≤ List.length _; simp))) ALeL.refl (hex) rfl ?_) | (change vcFun _ _ _ _ _; refine call_eq rfl (by repeat' (first | trivial | refine And.intro ?_ ?_ | (show 0 + _ ≤ List.length _; simp))) ALeL.refl (hmv) rfl ?_) | (change vcFunD _ _ _ _ _; refine callD_eq rfl (by repeat' (first | trivial | refine And.intro ?_ ?_ | (show 0 + _ ≤ List.length _; simp))) ALeL.refl (hsc) rfl ?_) | fail)
              all_goals first
                | (refine ⟨k + 1, ⟨by omega, all_lt_succ hka ⟨j, o, q, hj, ho, hq, hcc⟩⟩, by omega, ?_⟩
                   rw [hsu, map_snoc, sl_app, ob_app]
                   exact back [0, 1, 4] rfl rfl (by repeat' (first | exact trivial | exact rfl | refine kept_ob rfl ?_ | refine And.intro ?_ ?_)) (by repeat' (first | exact trivial | exact rfl | exact ren_get rfl | refine And.intro ?_ ?_)))
            · have hno : ¬ exP m a b := fun h => imgs_no hkl (ok_ne hj ho hq hcc) (h.2.2.2.2.1 l hlm)
              rw [pB_f hcc] at hsc
              repeat' (first | (refine fh_ob ?_) | (refine idx_sl (k := k) (at_map ho) rfl ?_) | (refine idx_sl (k := j) (at_map hq) rfl ?_) | refine o1 ?_ | refine o2 ?_ | refine k1 ?_ | refine k2 ?_ | refine k3 ?_ | refine k4 ?_ | refine k6 ?_ | refine k7 ?_ | refine And.intro ?_ ?_ | refine o3 ?_ | refine o4 ?_ | (intro h; first | exact Bool.noConfusion h | exact nz _ h | exact nl h | (simp at h; done) | (simp at h; first | (exfalso; omega) | skip) | skip) | (change retOk _ _ _ _; refine ret_pure rfl trivial ?_) | exact (by kernel_rfl : drawOk _ _ = true) | refine eqv_len_map ?_ | (change vcFun _ _ _ _ _; refine call_eq rfl (by repeat' (first | trivial | refine And.intro ?_ ?_ | (show 0 + _ ≤ List.length _; simp))) ALeL.refl (hex) rfl ?_) | (change vcFun _ _ _ _ _; refine call_eq rfl (by repeat' (first | trivial | refine And.intro ?_ ?_ | (show 0 + _ ≤ List.length _; simp))) ALeL.refl (hmv) rfl ?_) | (change vcFunD _ _ _ _ _; refine callD_eq rfl (by repeat' (first | trivial | refine And.intro ?_ ?_ | (show 0 + _ ≤ List.length _; simp))) ALeL.refl (hsc) rfl ?_) | fail)
              all_goals first
                | exact leq_ex hno
        · obtain rfl : k = l.length := by omega
          have hp : imgsP l a b := fun i hi => hka i hi
          have hlw : (imgsL l a b l.length).length ≤ 24 := by rw [imgs_whole hp]; exact hln
          refine forceH_in ?_
          refine ghost_seq (Γ' := [(1, vint .i64 a), (2, vint .i64 b), (3, .ptr 0 4 0 0), (8, slP 1 1 (RS.map natsRow)), (9, vint .i64 i), (10, .pv (.sl 6 (l.map Opt.row))), (11, .pv (.sl 1 ((imgsL l a b l.length).map natRow))), (12, vint .i64 l.length)]) (H' := [some ⟨29, 4, false, .box (pvs m.cells)⟩, obP 22 1 (RS.map natsRow)]) (Ghost.sl (s := 11) (id := 2) rfl rfl fun H' hl hH => back [0, 1] rfl rfl (And.intro (hH 0 (by decide)) (kept_ob (hH 1 (by decide)) trivial)) (by repeat' (first | exact trivial | exact rfl | exact ren_get rfl | refine And.intro ?_ ?_))) ?_
          repeat' (first | (refine fv_sl ?_) | (refine fh_ob ?_) | ((refine o_app rfl rfl rfl rfl rfl rfl rfl rfl rfl rfl rfl (by rw [List.length_map]; omega) (by rw [List.length_map]; omega) ?_)) | refine o1 ?_ | refine o2 ?_ | refine k1 ?_ | refine k2 ?_ | refine k3 ?_ | refine k8 ?_ | refine And.intro ?_ ?_ | (intro h; first | exact Bool.noConfusion h | exact nz _ h | exact nl h | (simp at h; done) | (simp at h; first | (exfalso; omega) | skip) | skip) | refine eqv_len_map ?_ | refine eqv_wrap (by omega) (by omega) ?_ | fail)
          refine ⟨i + 1, ⟨by omega, all_lt_succ hall fun l0 h' => by rw [hl'] at h'; cases h'; exact hp⟩, by omega, ?_⟩
          rw [hnx, map_snoc, sl_app, ob_app]
          exact back [0, 3] rfl rfl (by repeat' (first | exact trivial | exact rfl | refine And.intro ?_ ?_)) (by repeat' (first | exact trivial | exact rfl | refine And.intro ?_ ?_))
      · obtain rfl : i = m.classes.length := by omega
        rw [List.take_length]
        have hal : allImg m a b := fun l hl => by
          obtain ⟨j, hj⟩ := List.getElem?_of_mem hl
          exact hall j (List.getElem?_eq_some_iff.1 hj).1 l hj
        refine forceH_in ?_
        change xCode _ _ _ _ _ _ [_, _, _, (8, slP 1 1 ((imgsAll m a b).map natsRow)), _] [_, obP _ 1 ((imgsAll m a b).map natsRow)]
        refine ghost_seq (Γ' := [(3, .ptr 0 4 0 0), (8, .pv (.sl 1 ((imgsAll m a b).map natsRow))), (9, vint .i64 m.classes.length)]) (H' := [some ⟨29, 4, false, .box (pvs m.cells)⟩]) (Ghost.sl (s := 8) (id := 1) rfl rfl fun H' hl hH => back [0] rfl rfl (And.intro (hH 0 (by decide)) trivial) (by repeat' (first | exact trivial | exact rfl | refine And.intro ?_ ?_))) ?_
        repeat' (first | refine o1 ?_ | refine o2 ?_ | refine k1 ?_ | refine k2 ?_ | refine k3 ?_ | refine k4 ?_ | refine k8 ?_ | refine And.intro ?_ ?_ | (intro h; first | exact Bool.noConfusion h | exact nz _ h | exact nl h | (simp at h; done) | (simp at h; first | (exfalso; omega) | skip) | skip) | refine eqv_len_map ?_ | fail)
        refine loop_for (fun i : Nat => [(3, .ptr 0 4 0 0), (8, .pv (.sl 1 ((imgsAll m a b).map natsRow))), (14, vint .i64 i)])
          (fun i => [some ⟨29, 4, false, .box (pvs m.cells)⟩])
          (fun i => i ≤ m.pairs.length ∧ ∀ j, j < i → ∀ p, m.pairs[j]? = some p → entSame m a b p) (fun i => m.pairs.length - i) 0 ⟨Nat.zero_le _, fun j hj => by omega⟩ (back [0] rfl rfl (by repeat' (first | exact trivial | exact rfl | refine And.intro ?_ ?_)) (by repeat' (first | exact trivial | exact rfl | refine And.intro ?_ ?_))) ?_
        intro i ⟨hi, hpa⟩
        rcases Nat.lt_or_ge i m.pairs.length with hlt | hge2
        · obtain ⟨p, hp⟩ := getE hlt
          have hpp := (hg.2.1 i hlt p hp).1
          obtain ⟨q1, q2, q3, ⟨x, y, hx, hy, q4⟩, q5⟩ := id hpp
          have hxa := hal x (List.mem_of_getElem? hx)
          have hya := hal y (List.mem_of_getElem? hy)
          have hxl := z2 x (List.mem_of_getElem? hx)
          have hyl := z2 y (List.mem_of_getElem? hy)
          have hxw := imgs_whole hxa
          have hyw := imgs_whole hya
          have hax := all_at (a := a) (b := b) hx
          have hay := all_at (a := a) (b := b) hy
          have hix := fun i hi => imgs_at hxa (i := i) hi
          have hiy := fun i hi => imgs_at hya (i := i) hi
          generalize imgsL x a b x.length = IX at hxw hax hix
          generalize imgsL y a b y.length = IY at hyw hay hiy
          obtain ⟨p1, p2, p3, p4⟩ := p
          dsimp only at q2 q3 hx hy hax hay
          have hk1 : p1 = (p1.toNat : Int) := by omega
          have hk2 : p2 = (p2.toNat : Int) := by omega
          repeat' (first | (refine idx_sl (k := i) (at_map hp) rfl ?_) | (refine idx_sl (k := p1.toNat) (at_map hax) hk1 ?_) | (refine idx_sl (k := p2.toNat) (at_map hay) hk2 ?_) | refine o1 ?_ | refine o2 ?_ | refine k1 ?_ | refine k2 ?_ | refine k3 ?_ | refine k4 ?_ | refine k6 ?_ | refine And.intro ?_ ?_ | refine o3 ?_ | refine o4 ?_ | (intro h; first | exact Bool.noConfusion h | exact nz _ h | exact nl h | (simp at h; done) | (simp at h; first | (exfalso; omega) | skip) | skip) | exact (by kernel_rfl : drawOk _ _ = true) | refine eqv_len_map ?_ | fail)
          refine loop_for (fun u : Nat => [(3, .ptr 0 4 0 0), (8, .pv (.sl 1 ((imgsAll m a b).map natsRow))), (14, vint .i64 i), (15, .ptr 1 4 0 0), (16, .pv (.sl 1 (IX.map natRow))), (17, .pv (.sl 1 (IY.map natRow))), (18, vint .i64 u)])
            (fun u => [some ⟨29, 4, false, .box (pvs m.cells)⟩, some ⟨72, 4, false, .box (pvs (Pair.row ⟨p1, p2, p3, p4⟩))⟩])
            (fun u => u ≤ x.length ∧ ∀ j, j < u → ∀ k, k < y.length → entZ m ⟨p1, p2, p3, p4⟩ j k = entZ m ⟨p1, p2, p3, p4⟩ (imN x a b j) (imN y a b k)) (fun u => x.length - u) 0 ⟨Nat.zero_le _, fun j hj => by omega⟩ (back [0, 1] rfl rfl (by repeat' (first | exact trivial | exact rfl | refine And.intro ?_ ?_)) (by repeat' (first | exact trivial | exact rfl | refine And.intro ?_ ?_))) ?_
          intro u ⟨hu, hua⟩
          rcases Nat.lt_or_ge u x.length with hul | hug
          · repeat' (first | refine o1 ?_ | refine o2 ?_ | refine k1 ?_ | refine k2 ?_ | refine k3 ?_ | refine k4 ?_ | refine k6 ?_ | refine And.intro ?_ ?_ | (intro h; first | exact Bool.noConfusion h | exact nz _ h | exact nl h | (simp at h; done) | (simp at h; first | (exfalso; omega) | skip) | skip) | refine eqv_len_map ?_ | fail)
            refine loop_for (fun k : Nat => [(3, .ptr 0 4 0 0), (8, .pv (.sl 1 ((imgsAll m a b).map natsRow))), (14, vint .i64 i), (15, .ptr 1 4 0 0), (16, .pv (.sl 1 (IX.map natRow))), (17, .pv (.sl 1 (IY.map natRow))), (18, vint .i64 u), (19, vint .i64 k)])
              (fun k => [some ⟨29, 4, false, .box (pvs m.cells)⟩, some ⟨72, 4, false, .box (pvs (Pair.row ⟨p1, p2, p3, p4⟩))⟩])
              (fun k => k ≤ y.length ∧ ∀ j, j < k → entZ m ⟨p1, p2, p3, p4⟩ u j = entZ m ⟨p1, p2, p3, p4⟩ (imN x a b u) (imN y a b j)) (fun k => y.length - k) 0 ⟨Nat.zero_le _, fun j hj => by omega⟩ (back [0, 1] rfl rfl (by repeat' (first | exact trivial | exact rfl | refine And.intro ?_ ?_)) (by repeat' (first | exact trivial | exact rfl | refine And.intro ?_ ?_))) ?_
            intro k ⟨hk, hka⟩
            rcases Nat.lt_or_ge k y.length with hkl | hkg
            · obtain ⟨-, hju⟩ := ok_imN (hxa u hul)
              obtain ⟨-, hjk⟩ := ok_imN (hya k hkl)
              have hE1 := c_rentry m ⟨p1, p2, p3, p4⟩ u k y _ (by show 0 ≤ p2; omega) hy (by omega) (by omega) (by omega) (entZ_at hx hy hpp hul hkl)
              have hE2 := c_rentry m ⟨p1, p2, p3, p4⟩ (imN x a b u) (imN y a b k) y _ (by show 0 ≤ p2; omega) hy (by omega) (by omega) (by omega) (entZ_at hx hy hpp hju hjk)
              have hne : ¬ entZ m ⟨p1, p2, p3, p4⟩ u k = entZ m ⟨p1, p2, p3, p4⟩ (imN x a b u) (imN y a b k) → ¬ exP m a b := fun h h2 => h (h2.2.2.2.2.2.1 _ (List.mem_of_getElem? hp) x y hx hy u hul k hkl)
              have hiu := hix u hul
              have hik := hiy k hkl
              generalize hZ1 : entZ m ⟨p1, p2, p3, p4⟩ u k = Z1 at *
              generalize hZ2 : entZ m ⟨p1, p2, p3, p4⟩ (imN x a b u) (imN y a b k) = Z2 at *
              generalize hIU : imN x a b u = IU at *
              generalize hIK : imN y a b k = IK at *
              repeat' (first | (refine idx_sl (k := u) (at_map hiu) rfl ?_) | (refine idx_sl (k := k) (at_map hik) rfl ?_) | refine o1 ?_ | refine o2 ?_ | refine k1 ?_ | refine k2 ?_ | refine k3 ?_ | refine k4 ?_ | refine k6 ?_ | refine k7 ?_ | refine And.intro ?_ ?_ | refine o3 ?_ | refine o4 ?_ | (intro h; first | exact Bool.noConfusion h | exact nz _ h | exact nl h | (simp at h; done) | (simp at h; first | (exfalso; omega) | skip) | skip) | (change retOk _ _ _ _; refine ret_pure rfl trivial ?_) | exact (by kernel_rfl : drawOk _ _ = true) | refine eqv_len_map ?_ | refine eqv_wrap (by omega) (by omega) ?_ | (change vcFunD _ _ _ _ _; refine callD_eq rfl (by repeat' (first | trivial | refine And.intro ?_ ?_ | (show 0 + _ ≤ List.length _; simp))) ALeL.refl (hE1) rfl ?_) | (change vcFunD _ _ _ _ _; refine callD_eq rfl (by repeat' (first | trivial | refine And.intro ?_ ?_ | (show 0 + _ ≤ List.length _; simp))) ALeL.refl (hE2) rfl ?_) | fail)
              all_goals first
                | exact leq_ex (hne (by assumption))
                | exact ⟨k + 1, ⟨by omega, all_lt_succ hka (by rw [hZ1, hIK, hZ2]; first | assumption | (exact Classical.not_not.1 (by assumption)))⟩, by omega, back [0, 1] rfl rfl (by repeat' (first | exact trivial | exact rfl | refine And.intro ?_ ?_)) (by repeat' (first | exact trivial | exact rfl | refine And.intro ?_ ?_))⟩
            · obtain rfl : k = y.length := by omega
              repeat' (first | refine o1 ?_ | refine o2 ?_ | refine k1 ?_ | refine k2 ?_ | refine k3 ?_ | refine k8 ?_ | refine And.intro ?_ ?_ | (intro h; first | exact Bool.noConfusion h | exact nz _ h | exact nl h | (simp at h; done) | (simp at h; first | (exfalso; omega) | skip) | skip) | refine eqv_len_map ?_ | refine eqv_wrap (by omega) (by omega) ?_ | fail)
              exact ⟨u + 1, ⟨by omega, all_lt_succ hua fun j hj => hka j hj⟩, by omega, back [0, 1] rfl rfl (by repeat' (first | exact trivial | exact rfl | refine And.intro ?_ ?_)) (by repeat' (first | exact trivial | exact rfl | refine And.intro ?_ ?_))⟩
          · obtain rfl : u = x.length := by omega
            repeat' (first | refine o1 ?_ | refine o2 ?_ | refine k1 ?_ | refine k2 ?_ | refine k3 ?_ | refine k8 ?_ | refine And.intro ?_ ?_ | (intro h; first | exact Bool.noConfusion h | exact nz _ h | exact nl h | (simp at h; done) | (simp at h; first | (exfalso; omega) | skip) | skip) | refine eqv_len_map ?_ | refine eqv_wrap (by omega) (by omega) ?_ | fail)
            exact ⟨i + 1, ⟨by omega, all_lt_succ hpa fun p' h' x' y' hx' hy' j hj k hk => by
              rw [hp] at h'; cases h'
              dsimp only at hx' hy'
              rw [hx] at hx'; cases hx'
              rw [hy] at hy'; cases hy'
              exact hua j hj k hk⟩, by omega, back [0] rfl rfl (by repeat' (first | exact trivial | exact rfl | refine And.intro ?_ ?_)) (by repeat' (first | exact trivial | exact rfl | refine And.intro ?_ ?_))⟩
        · obtain rfl : i = m.pairs.length := by omega
          have hes : ∀ p ∈ m.pairs, entSame m a b p := fun p hp => by
            obtain ⟨j, hj⟩ := List.getElem?_of_mem hp
            exact hpa j (List.getElem?_eq_some_iff.1 hj).1 p hj
          have hcm := fun (c d : Count) (hc : c ∈ m.counts) (hd : d ∈ m.counts) => imgd_iff hz hg hal hc hd
          have hxi : ∀ {i : Nat} {c : Count}, m.counts[i]? = some c → (m.counts.map (optC (imLoad m a b)))[i]? = some (optC (imLoad m a b) c) := fun h => at_map h
          have hyi : ∀ {i : Nat} {c : Count}, m.counts[i]? = some c → (m.counts.map (optC Load.opt))[i]? = some (optC Load.opt c) := fun h => at_map h
          have hxl : (m.counts.map (optC (imLoad m a b))).length = m.counts.length := List.length_map _
          have hyl : (m.counts.map (optC Load.opt)).length = m.counts.length := List.length_map _
          have hcx : (m.counts.map (optC (imLoad m a b))).Perm (m.counts.map (optC Load.opt)) ↔ exP m a b := ⟨fun h => ⟨hok, hab1, hab2, hab3, hal, hes, cnt_iff.2 h⟩, fun h => cnt_iff.1 h.2.2.2.2.2.2⟩
          have hst := Grd.start (xs := m.counts.map (optC (imLoad m a b))) (ys := m.counts.map (optC Load.opt))
          rw [hyl] at hst
          repeat' (first | (refine ⟨m.counts.length, m.counts.length, rfl, rfl, Nat.le_refl _, (by omega), (by omega), ?_⟩) | (refine eqv_to ((List.replicate m.counts.length false).map boolRow) (by rw [List.map_replicate]; rfl) ?_) | refine o1 ?_ | refine o2 ?_ | refine k1 ?_ | refine k2 ?_ | refine k3 ?_ | refine k4 ?_ | refine k8 ?_ | refine And.intro ?_ ?_ | (intro h; first | exact Bool.noConfusion h | exact nz _ h | exact nl h | (simp at h; done) | (simp at h; first | (exfalso; omega) | skip) | skip) | exact (by kernel_rfl : drawOk _ _ = true) | refine eqv_len_map ?_ | fail)
          refine loop_for (fun x : Nat × List Bool => [(3, .ptr 0 4 0 0), (8, .pv (.sl 1 ((imgsAll m a b).map natsRow))), (20, .ms 1 1 0 m.counts.length), (21, vint .i64 x.1)])
            (fun x => [some ⟨29, 4, false, .box (pvs m.cells)⟩, some ⟨4, 1, false, .p (x.2.map boolRow)⟩])
            (fun x => x.1 ≤ m.counts.length ∧ Grd (m.counts.map (optC (imLoad m a b))) (m.counts.map (optC Load.opt)) x.1 x.2) (fun x => m.counts.length - x.1) (0, List.replicate m.counts.length false) ⟨Nat.zero_le _, hst⟩ (back [0, 1] rfl rfl (by repeat' (first | exact trivial | exact rfl | refine And.intro ?_ ?_)) (by repeat' (first | exact trivial | exact rfl | refine And.intro ?_ ?_))) ?_
          rintro ⟨i, T⟩ ⟨hi, hG⟩
          dsimp only at hi hG ⊢
          have hTl : T.length = m.counts.length := by rw [hG.len, hyl]
          rcases Nat.lt_or_ge i m.counts.length with hlt | hge3
          · obtain ⟨c, hc⟩ := getE hlt
            have hcmem := List.mem_of_getElem? hc
            repeat' (first | refine o1 ?_ | refine o2 ?_ | refine k1 ?_ | refine k2 ?_ | refine k3 ?_ | refine k4 ?_ | refine k6 ?_ | refine And.intro ?_ ?_ | (intro h; first | exact Bool.noConfusion h | exact nz _ h | exact nl h | (simp at h; done) | (simp at h; first | (exfalso; omega) | skip) | skip) | refine eqv_len_map ?_ | fail)
            refine loop_for (fun k : Nat => [(3, .ptr 0 4 0 0), (8, .pv (.sl 1 ((imgsAll m a b).map natsRow))), (20, .ms 1 1 0 m.counts.length), (21, vint .i64 i), (22, vint .i64 k)])
              (fun k => [some ⟨29, 4, false, .box (pvs m.cells)⟩, some ⟨4, 1, false, .p (T.map boolRow)⟩])
              (fun k => k ≤ m.counts.length ∧ ∀ j, j < k → T[j]? = some false → (m.counts.map (optC Load.opt))[j]? ≠ some (optC (imLoad m a b) c)) (fun k => m.counts.length - k) 0 ⟨Nat.zero_le _, fun j hj => by omega⟩ (back [0, 1] rfl rfl (by repeat' (first | exact trivial | exact rfl | refine And.intro ?_ ?_)) (by repeat' (first | exact trivial | exact rfl | refine And.intro ?_ ?_))) ?_
            intro k ⟨hk, hka⟩
            rcases Nat.lt_or_ge k m.counts.length with hkl | hkg
            · obtain ⟨d, hd⟩ := getE hkl
              have hdmem := List.mem_of_getElem? hd
              obtain ⟨t, ht⟩ := getE (show k < T.length by omega)
              have htr : (T.map boolRow)[k]? = some (boolRow t) := at_map ht
              cases t
              · have him := c_imaged c d (imgsAll m a b) (imLoad m a b) (by have := hld c hcmem; omega) (by have := hld d hdmem; omega) (fun x hx => by
                  obtain ⟨g1, g2, l, g3, g4⟩ := (good_load hg hcmem hx).1
                  exact ⟨g1, g2, _, _, all_at g3, imgs_at (hal l (List.mem_of_getElem? g3)) (by omega), by unfold imLoad; rw [g3]⟩)
                by_cases hcd : imgd (imLoad m a b) c d
                · have hnx := hG.next (hxi hc) ht ((hyi hd).trans (congrArg some ((hcm c d hcmem hdmem).1 hcd).symm))
                  have hsr : (T.map boolRow).set k [.val (.bool true)] = (T.set k true).map boolRow := by rw [List.map_set]; rfl
                  rw [pB_t hcd] at him
                  repeat' (first | (refine idx_ms k rfl hkl ?_) | (refine ⟨_, htr, ?_⟩) | (refine idx_sl (k := i) (at_map hc) rfl ?_) | (refine idx_sl (k := k) (at_map hd) rfl ?_) | (refine eqv_to _ hsr ?_) | refine o1 ?_ | refine o2 ?_ | refine k1 ?_ | refine k2 ?_ | refine k3 ?_ | refine k6 ?_ | refine k8 ?_ | refine And.intro ?_ ?_ | refine o3 ?_ | refine o4 ?_ | (intro h; first | exact Bool.noConfusion h | exact nz _ h | exact nl h | (simp at h; done) | (simp at h; first | (exfalso; omega) | skip) | skip) | exact Nat.le_of_ble_eq_true rfl | exact (by kernel_rfl : drawOk _ _ = true) | refine eqv_zero ?_ | refine eqv_wrap (by omega) (by omega) ?_ | (change vcFunD _ _ _ _ _; refine callD_eq rfl (by repeat' (first | trivial | refine And.intro ?_ ?_ | (show 0 + _ ≤ List.length _; simp))) ALeL.refl (him) rfl ?_) | fail)
                  all_goals first
                    | exact ⟨(i + 1, T.set k true), ⟨by dsimp only; omega, hnx⟩, by dsimp only; omega, back [0, 1] rfl rfl (by repeat' (first | exact trivial | exact rfl | refine And.intro ?_ ?_)) (by repeat' (first | exact trivial | exact rfl | refine And.intro ?_ ?_))⟩
                    | (exfalso; omega)
                · rw [pB_f hcd] at him
                  repeat' (first | (refine idx_ms k rfl hkl ?_) | (refine ⟨_, htr, ?_⟩) | (refine idx_sl (k := i) (at_map hc) rfl ?_) | (refine idx_sl (k := k) (at_map hd) rfl ?_) | refine o1 ?_ | refine o2 ?_ | refine k1 ?_ | refine k2 ?_ | refine k3 ?_ | refine k4 ?_ | refine k6 ?_ | refine And.intro ?_ ?_ | refine o3 ?_ | refine o4 ?_ | (intro h; first | exact Bool.noConfusion h | exact nz _ h | exact nl h | (simp at h; done) | (simp at h; first | (exfalso; omega) | skip) | skip) | exact (by kernel_rfl : drawOk _ _ = true) | refine eqv_zero ?_ | refine eqv_wrap (by omega) (by omega) ?_ | (change vcFunD _ _ _ _ _; refine callD_eq rfl (by repeat' (first | trivial | refine And.intro ?_ ?_ | (show 0 + _ ≤ List.length _; simp))) ALeL.refl (him) rfl ?_) | fail)
                  exact ⟨k + 1, ⟨by omega, all_lt_succ hka fun _ e => hcd ((hcm c d hcmem hdmem).2 (Option.some.inj ((hyi hd).symm.trans e)).symm)⟩, by omega, back [0, 1] rfl rfl (by repeat' (first | exact trivial | exact rfl | refine And.intro ?_ ?_)) (by repeat' (first | exact trivial | exact rfl | refine And.intro ?_ ?_))⟩
              · repeat' (first | (refine idx_ms k rfl hkl ?_) | (refine ⟨_, htr, ?_⟩) | refine o1 ?_ | refine o2 ?_ | refine k1 ?_ | refine k2 ?_ | refine k3 ?_ | refine k4 ?_ | refine k6 ?_ | refine And.intro ?_ ?_ | refine o3 ?_ | refine o4 ?_ | (intro h; first | exact Bool.noConfusion h | exact nz _ h | exact nl h | (simp at h; done) | (simp at h; first | (exfalso; omega) | skip) | skip) | exact (by kernel_rfl : drawOk _ _ = true) | refine eqv_zero ?_ | refine eqv_wrap (by omega) (by omega) ?_ | fail)
                exact ⟨k + 1, ⟨by omega, all_lt_succ hka fun e => by rw [ht] at e; cases e⟩, by omega, back [0, 1] rfl rfl (by repeat' (first | exact trivial | exact rfl | refine And.intro ?_ ?_)) (by repeat' (first | exact trivial | exact rfl | refine And.intro ?_ ?_))⟩
            · obtain rfl : k = m.counts.length := by omega
              have hno : ¬ exP m a b := fun h => hG.stop (hxi hc) (fun k hk hy => hka k (by have := (List.getElem?_eq_some_iff.1 hk).1; omega) hk hy) (hcx.2 h)
              repeat' (first | refine o1 ?_ | refine o2 ?_ | refine k1 ?_ | refine k2 ?_ | refine k3 ?_ | refine k7 ?_ | refine k8 ?_ | refine And.intro ?_ ?_ | refine o3 ?_ | refine o4 ?_ | (intro h; first | exact Bool.noConfusion h | exact nz _ h | exact nl h | (simp at h; done) | (simp at h; first | (exfalso; omega) | skip) | skip) | (change retOk _ _ _ _; refine ret_pure rfl trivial ?_) | exact (by kernel_rfl : drawOk _ _ = true) | fail)
              all_goals first
                | exact leq_ex hno
                | (exfalso; omega)
          · obtain rfl : i = m.counts.length := by omega
            rw [← hxl] at hG
            have hP := hcx.1 (hG.all (hxl.trans hyl.symm))
            repeat' (first | refine o1 ?_ | refine o2 ?_ | refine k1 ?_ | refine k2 ?_ | refine k3 ?_ | refine k7 ?_ | refine k8 ?_ | refine And.intro ?_ ?_ | (intro h; first | exact Bool.noConfusion h | exact nz _ h | exact nl h | (simp at h; done) | (simp at h; first | (exfalso; omega) | skip) | skip) | (change retOk _ _ _ _; refine ret_pure rfl trivial ?_) | refine eqv_len_map ?_ | fail)
            rw [pB_t hP]
            unfold exV
            rw [if_pos (pB_t hP)]
            exact ⟨ALe.refl⟩
    · have hno : ¬ exP m a b := fun h => hab ⟨h.2.1, h.2.2.1, h.2.2.2.1⟩
      refine acall_of tok mixed 188 rfl (fn := Tryz.f14) (c := Tryz.f14.body.getD .skip) (by kernel_rfl) (by kernel_rfl) (by kernel_rfl) rfl 0 rfl ?_
      repeat' (first | refine o1 ?_ | refine o2 ?_ | refine k1 ?_ | refine k2 ?_ | refine k3 ?_ | refine k7 ?_ | refine And.intro ?_ ?_ | (intro h; first | exact Bool.noConfusion h | exact nz _ h | exact nl h | (simp at h; done) | (simp at h; first | (exfalso; omega) | skip) | skip) | (change retOk _ _ _ _; refine ret_pure rfl trivial ?_) | (change vcFun _ _ _ _ _; refine call_eq rfl (by repeat' (first | trivial | refine And.intro ?_ ?_ | (show 0 + _ ≤ List.length _; simp))) ALeL.refl (hv) rfl ?_) | fail)
      all_goals first
        | (exfalso; omega)
        | exact leq_ex hno
        | (exfalso; exact hab ⟨by assumption, by omega, by omega⟩)
  · have hno : ¬ exP m a b := fun h => hok h.1
    generalize modelE m = E at hv hok
    refine acall_of tok mixed 188 rfl (fn := Tryz.f14) (c := Tryz.f14.body.getD .skip) (by kernel_rfl) (by kernel_rfl) (by kernel_rfl) rfl 0 rfl ?_
    repeat' (first | refine o1 ?_ | refine o2 ?_ | refine k1 ?_ | refine k2 ?_ | refine k3 ?_ | refine k7 ?_ | refine And.intro ?_ ?_ | (intro h; first | exact Bool.noConfusion h | exact nz _ h | exact nl h | (simp at h; done) | (simp at h; first | (exfalso; omega) | skip) | skip) | (change retOk _ _ _ _; refine ret_pure rfl trivial ?_) | (change vcFun _ _ _ _ _; refine call_eq rfl (by repeat' (first | trivial | refine And.intro ?_ ?_ | (show 0 + _ ≤ List.length _; simp))) ALeL.refl (hv) rfl ?_) | fail)
    all_goals first
      | (exfalso; omega)
      | exact leq_ex hno
theorem c_rSwap (m : Model) (a b : Int) (hl : Laid m) : PCall Tryz.prog 14 [ag m.cells, vint .i64 a, vint .i64 b] (fun r => r = .tup [.pv (.sl 1 ((exV m a b).map natsRow)), vbool (pB (exP m a b))]) :=
  (c_rSwap0 m a b hl).weak fun r k => ⟨_, k.le, rfl⟩
end Go.Proofs.YtihpjcmloecaaaaGreat.Cw
/-
  Symmetry: the rooms of a model, ascending, on both sides.
-/
namespace Go.Proofs.YtihpjcmloecaaaaGreat.Cw
open Go Go.Cw Go.Proofs
set_option linter.unusedVariables false
set_option maxRecDepth 100000
set_option maxHeartbeats 8000000
def roomL (l : List Opt) : List Int := (l.map fun o => o.place.room).filter fun r => decide (0 ≤ r)
def roomsR (c : List (List Opt)) : List Int := c.flatMap roomL
def roomsV (m : Model) : List Int := compactI (sortI (roomsR m.classes))
theorem roomL_t {l : List Opt} {k : Nat} {o : Opt} (h : l[k]? = some o) (hr : 0 ≤ o.place.room) : roomL (l.take (k + 1)) = roomL (l.take k) ++ [o.place.room] := by
  unfold roomL; rw [tk_snoc h, List.map_append, List.filter_append]; simp [hr]
theorem roomL_f {l : List Opt} {k : Nat} {o : Opt} (h : l[k]? = some o) (hr : ¬ 0 ≤ o.place.room) : roomL (l.take (k + 1)) = roomL (l.take k) := by
  unfold roomL; rw [tk_snoc h, List.map_append, List.filter_append]; simp; omega
theorem roomsR_succ {c : List (List Opt)} {i : Nat} {l : List Opt} (h : c[i]? = some l) : roomsR (c.take (i + 1)) = roomsR (c.take i) ++ roomL l := by
  unfold roomsR; rw [tk_snoc h, List.flatMap_append]; simp
theorem roomL_len {l : List Opt} : (roomL l).length ≤ l.length := by
  unfold roomL
  have := List.length_filter_le (fun r => decide ((0 : Int) ≤ r)) (l.map fun o => o.place.room)
  rwa [List.length_map] at this
theorem roomsR_len {c : List (List Opt)} (h : ∀ l ∈ c, l.length ≤ 24) : (roomsR c).length ≤ c.length * 24 := by
  induction c with
  | nil => simp [roomsR]
  | cons l c ih =>
    have h1 := ih fun x hx => h x (by simp [hx])
    have h2 := h l (by simp)
    have h3 := roomL_len (l := l)
    have e : roomsR (l :: c) = roomL l ++ roomsR c := rfl
    rw [e, List.length_append, List.length_cons]
    omega
theorem sl_ne {id z : Nat} {α : Type} {f : α → List PV} {L : List α} (h : L ≠ []) {n : Nat} (hn : L.length = n) : slP id z (L.map f) = .ms id z 0 n := by
  subst hn
  cases L with
  | nil => exact absurd rfl h
  | cons a l => simp [slP]
theorem ob_ne {ty z : Nat} {α : Type} {f : α → List PV} {L : List α} (h : L ≠ []) : obP ty z (L.map f) = some ⟨ty, z, false, .p (L.map f)⟩ := by
  cases L with
  | nil => exact absurd rfl h
  | cons a l => rfl
theorem c_numbers0 (m : Model) (hz : sizedP m) : PCall Tryz.prog 41 [ag m.cells] (fun r => Leq r (.pv (.sl 1 ((roomsV m).map intRow)))) := by
  obtain ⟨z1, z2, z3, z4, z5⟩ := hz
  have hRl : ∀ i, (roomsR (m.classes.take i)).length ≤ 576 := fun i => by
    have h1 := roomsR_len (c := m.classes.take i) fun l hl => z2 l (List.mem_of_mem_take hl)
    have h2 : (m.classes.take i).length ≤ 24 := Nat.le_trans (List.length_take_le' ..) z1
    omega
  refine acall_of tok mixed 37 rfl (fn := Tryz.f41) (c := Tryz.f41.body.getD .skip) (by kernel_rfl) (by kernel_rfl) (by kernel_rfl) rfl 0 rfl ?_
  repeat' (first | refine o1 ?_ | refine o2 ?_ | refine k1 ?_ | refine k2 ?_ | refine k4 ?_ | refine eqv_len_map ?_ | fail)
  refine loop_for (fun i : Nat => [(3, slP 1 1 ((roomsR (m.classes.take i)).map intRow)), (9, .pv (.sl 1 (m.classes.map optsRow))), (10, vint .i64 m.classes.length), (11, vint .i64 i)])
    (fun i => [none, obP 3 1 ((roomsR (m.classes.take i)).map intRow)])
    (fun i => i ≤ m.classes.length) (fun i => m.classes.length - i) 0 (Nat.zero_le _) ?_ ?_
  · exact back [0, 1] rfl rfl (by repeat' (first | exact trivial)) (by repeat' (first | exact trivial | exact rfl | refine And.intro ?_ ?_))
  intro i hi
  rcases Nat.lt_or_ge i m.classes.length with hlt | hge
  · obtain ⟨l, hl⟩ := getE hlt
    have hln := z2 l (List.mem_of_getElem? hl)
    have hnx := roomsR_succ hl
    have hR := hRl i
    generalize roomsR (m.classes.take i) = RS at *
    repeat' (first | (refine fh_ob ?_) | (refine idx_sl (k := i) (at_map hl) rfl ?_) | refine o1 ?_ | refine o2 ?_ | refine k1 ?_ | refine k2 ?_ | refine k3 ?_ | refine k4 ?_ | refine k6 ?_ | refine And.intro ?_ ?_ | (intro h; first | exact Bool.noConfusion h | exact nz _ h | exact nl h | (simp at h; done) | (simp at h; first | (exfalso; omega) | skip) | skip) | refine eqv_len_map ?_ | fail)
    refine loop_for (fun k : Nat => [(3, slP 1 1 ((RS ++ roomL (l.take k)).map intRow)), (9, .pv (.sl 1 (m.classes.map optsRow))), (10, vint .i64 m.classes.length), (11, vint .i64 i), (15, .pv (.sl 6 (l.map Opt.row))), (16, vint .i64 l.length), (17, vint .i64 k)])
      (fun k => [none, obP 3 1 ((RS ++ roomL (l.take k)).map intRow)])
      (fun k => k ≤ l.length) (fun k => l.length - k) 0 (Nat.zero_le _) ?_ ?_
    · rw [show RS ++ roomL (l.take 0) = RS by simp [roomL]]
      exact back [0, 1] rfl rfl (by repeat' (first | exact trivial | refine kept_ob rfl ?_)) (by repeat' (first | exact trivial | exact rfl | exact ren_get rfl | refine And.intro ?_ ?_))
    intro k hk
    rcases Nat.lt_or_ge k l.length with hkl | hkg
    · obtain ⟨o, ho⟩ := getE hkl
      have hk2 : (RS ++ roomL (l.take k)).length ≤ 600 := by
        have := roomL_len (l := l.take k)
        have h3 : (l.take k).length ≤ 24 := Nat.le_trans (List.length_take_le' ..) hln
        rw [List.length_append]; omega
      by_cases hr : 0 ≤ o.place.room
      · have hrs : RS ++ roomL (l.take (k + 1)) = (RS ++ roomL (l.take k)) ++ [o.place.room] := by rw [roomL_t ho hr, List.append_assoc]
        generalize RS ++ roomL (l.take k) = KS at *
        repeat' (first | (refine fv_sl ?_) | (refine fh_ob ?_) | (refine idx_sl (k := k) (at_map ho) rfl ?_) | ((refine o_app rfl rfl rfl rfl rfl rfl rfl rfl rfl rfl rfl (by rw [List.length_map]; omega) (by rw [List.length_map]; omega) ?_)) | refine o1 ?_ | refine o2 ?_ | refine k1 ?_ | refine k2 ?_ | refine k3 ?_ | refine k4 ?_ | refine k6 ?_ | refine And.intro ?_ ?_ | (intro h; first | exact Bool.noConfusion h | exact nz _ h | exact nl h | (simp at h; done) | (simp at h; first | (exfalso; omega) | skip) | skip) | exact (by kernel_rfl : drawOk _ _ = true) | refine eqv_wrap (by omega) (by omega) ?_ | fail)
        all_goals first
          | (exfalso; omega)
          | (refine ⟨k + 1, by omega, by omega, ?_⟩
             rw [hrs, map_snoc, sl_app, ob_app]
             exact back [0, 4] rfl rfl (by repeat' (first | exact trivial | exact rfl | refine And.intro ?_ ?_)) (by repeat' (first | exact trivial | exact rfl | refine And.intro ?_ ?_)))
      · have hrs : RS ++ roomL (l.take (k + 1)) = RS ++ roomL (l.take k) := by rw [roomL_f ho hr]
        repeat' (first | (refine fh_ob ?_) | (refine idx_sl (k := k) (at_map ho) rfl ?_) | refine o1 ?_ | refine o2 ?_ | refine k1 ?_ | refine k2 ?_ | refine k3 ?_ | refine k4 ?_ | refine k6 ?_ | refine And.intro ?_ ?_ | (intro h; first | exact Bool.noConfusion h | exact nz _ h | exact nl h | (simp at h; done) | (simp at h; first | (exfalso; omega) | skip) | skip) | exact (by kernel_rfl : drawOk _ _ = true) | refine eqv_wrap (by omega) (by omega) ?_ | fail)
        all_goals first
          | (exfalso; omega)
          | (refine ⟨k + 1, by omega, by omega, ?_⟩
             rw [hrs]
             exact back [0, 1] rfl rfl (by repeat' (first | exact trivial | refine kept_ob rfl ?_)) (by repeat' (first | exact trivial | exact rfl | exact ren_get rfl | refine And.intro ?_ ?_)))
    · obtain rfl : k = l.length := by omega
      rw [List.take_length, ← hnx]
      repeat' (first | (refine fh_ob ?_) | refine o1 ?_ | refine o2 ?_ | refine k1 ?_ | refine k2 ?_ | refine k3 ?_ | refine k8 ?_ | refine And.intro ?_ ?_ | (intro h; first | exact Bool.noConfusion h | exact nz _ h | exact nl h | (simp at h; done) | (simp at h; first | (exfalso; omega) | skip) | skip) | refine eqv_wrap (by omega) (by omega) ?_ | fail)
      exact ⟨i + 1, by omega, by omega, back [0, 1] rfl rfl (by repeat' (first | exact trivial | refine kept_ob rfl ?_)) (by repeat' (first | exact trivial | exact rfl | exact ren_get rfl | refine And.intro ?_ ?_))⟩
  · obtain rfl : i = m.classes.length := by omega
    have hR := hRl m.classes.length
    rw [List.take_length] at hR ⊢
    by_cases hne : roomsR m.classes = []
    · have e : roomsV m = [] := by
        have h1 := compactI_len (sortI (roomsR m.classes))
        rw [sortI_len, hne] at h1
        unfold roomsV; rw [hne]; exact List.eq_nil_of_length_eq_zero (Nat.le_zero.1 h1)
      rw [hne, e]
      repeat' (first | (refine fh_ob ?_) | refine o1 ?_ | refine o2 ?_ | refine k1 ?_ | refine k2 ?_ | refine k3 ?_ | refine k7 ?_ | refine k8 ?_ | refine And.intro ?_ ?_ | (intro h; first | exact Bool.noConfusion h | exact nz _ h | exact nl h | (simp at h; done) | (simp at h; first | (exfalso; omega) | skip) | skip) | (change retOk _ _ _ _; refine ret_pure rfl trivial ?_) | (change vcFun _ _ _ _ _; refine call_eq rfl (by repeat' (first | trivial | refine And.intro ?_ ?_ | (show 0 + _ ≤ List.length _; simp))) ALeL.refl (c_sortI0) rfl ?_) | (change vcFun _ _ _ _ _; refine call_eq rfl (by repeat' (first | trivial | refine And.intro ?_ ?_ | (show 0 + _ ≤ List.length _; simp))) ALeL.refl (c_compactI0) rfl ?_) | fail)
      exact ⟨ALe.pv PLe.nil⟩
    · have hso := c_sortI (roomsR m.classes) hne (by omega)
      have hne2 : sortI (roomsR m.classes) ≠ [] := fun e => hne (List.eq_nil_of_length_eq_zero (by rw [← sortI_len, e]; rfl))
      have hco := c_compactI (sortI (roomsR m.classes)) hne2 (by rw [sortI_len]; omega)
      rw [sortI_len] at hco
      rw [sl_ne hne rfl, ob_ne hne]
      repeat' (first | ((change vcFun _ _ _ _ _; refine call_one (i := 1) rfl (fun _ _ => rfl) [.ms 0 1 0 (roomsR m.classes).length] rfl hso ?_; rintro r H' ⟨rfl, rfl⟩; refine ⟨_, rfl, fun _ _ => rfl, fun _ _ => rfl, ?_⟩)) | refine o1 ?_ | refine o2 ?_ | refine k1 ?_ | refine k2 ?_ | refine k3 ?_ | refine k8 ?_ | refine And.intro ?_ ?_ | (intro h; first | exact Bool.noConfusion h | exact nz _ h | exact nl h | (simp at h; done) | (simp at h; first | (exfalso; omega) | skip) | skip) | fail)
      change vcFun _ _ _ _ _
      refine call_obj [1] [some ⟨3, 1, false, .p ((sortI (roomsR m.classes)).map intRow)⟩] [.ms 0 1 0 (roomsR m.classes).length] rfl ⟨rfl, trivial⟩ rfl hco ?_
      rintro r H' ⟨rfl, zs, rfl⟩
      have hfin : Leq (.pv (.sl 1 ((List.map intRow (compactI (sortI (roomsR m.classes))) ++ List.map intRow zs).drop 0 |>.take (compactI (sortI (roomsR m.classes))).length))) (.pv (.sl 1 ((roomsV m).map intRow))) := by
        rw [List.drop_zero, List.take_append_of_le_length (by rw [List.length_map]; exact Nat.le_refl _), List.take_of_length_le (by rw [List.length_map]; exact Nat.le_refl _)]
        exact ⟨ALe.refl⟩
      have hle : 0 + (compactI (sortI (roomsR m.classes))).length ≤ (List.map intRow (compactI (sortI (roomsR m.classes))) ++ List.map intRow zs).length := by
        rw [List.length_append, List.length_map]; omega
      generalize (compactI (sortI (roomsR m.classes))) = C at *
      refine ⟨Nat.le_refl _, ?_⟩
      repeat' (first | refine o1 ?_ | refine o2 ?_ | refine k7 ?_ | fail)
      exact ret_pure rfl (by repeat' (first | exact hle)) hfin
theorem c_numbers (m : Model) (hz : sizedP m) : PCall Tryz.prog 41 [ag m.cells] (fun r => r = .pv (.sl 1 ((roomsV m).map intRow))) := (c_numbers0 m hz).weak fun r k => ⟨_, k.le, rfl⟩
end Go.Proofs.YtihpjcmloecaaaaGreat.Cw
/-
  Symmetry: the rooms of a model, ascending, by the reference.
-/
namespace Go.Proofs.YtihpjcmloecaaaaGreat.Cw
open Go Go.Cw Go.Proofs
set_option linter.unusedVariables false
set_option maxRecDepth 100000
set_option maxHeartbeats 8000000
def allL (l : List Opt) : List Int := l.map fun o => o.place.room
def allR (c : List (List Opt)) : List Int := c.flatMap allL
theorem roomsR_mem {c : List (List Opt)} {x : Int} : x ∈ roomsR c ↔ 0 ≤ x ∧ x ∈ allR c := by
  unfold roomsR allR roomL allL
  simp only [List.mem_flatMap, List.mem_filter, decide_eq_true_eq]
  constructor
  · rintro ⟨l, h1, h2, h3⟩; exact ⟨h3, l, h1, h2⟩
  · rintro ⟨h3, l, h1, h2⟩; exact ⟨l, h1, h2, h3⟩
theorem rooms_spec (m : Model) : (∀ x, x ∈ roomsV m ↔ 0 ≤ x ∧ x ∈ allR m.classes) ∧ (roomsV m).Pairwise fun a b => a < b := by
  obtain ⟨h1, h2⟩ := compactI_spec (sortI_asc (roomsR m.classes))
  refine ⟨fun x => ?_, h2⟩
  show x ∈ compactI _ ↔ _
  rw [h1, (sortI_perm _).mem_iff, roomsR_mem]
def NX (last : Int) (rs : List Int) (n : Int) : Prop := (n = -1 ∧ ∀ r ∈ rs, ¬ last < r) ∨ (n ∈ rs ∧ last < n ∧ ∀ r ∈ rs, last < r → n ≤ r)
theorem NX.nil {last : Int} : NX last [] (-1) := .inl ⟨rfl, by simp⟩
theorem NX.take {last n r : Int} {rs : List Int} (hl : -1 ≤ last) (h : NX last rs n) (h1 : last < r) (h2 : n < 0 ∨ r < n) : NX last (rs ++ [r]) r := by
  refine .inr ⟨by simp, h1, fun x hx hxl => ?_⟩
  rcases List.mem_append.1 hx with hx | hx
  · rcases h with ⟨rfl, h⟩ | ⟨h3, h4, h5⟩
    · exact absurd hxl (h x hx)
    · have := h5 x hx hxl; omega
  · simp at hx; omega
theorem NX.leave {last n r : Int} {rs : List Int} (hl : -1 ≤ last) (h : NX last rs n) (h1 : ¬ (last < r ∧ (n < 0 ∨ r < n))) : NX last (rs ++ [r]) n := by
  rcases h with ⟨rfl, h⟩ | ⟨h3, h4, h5⟩
  · refine .inl ⟨rfl, fun x hx hxl => ?_⟩
    rcases List.mem_append.1 hx with hx | hx
    · exact h x hx hxl
    · simp at hx; omega
  · refine .inr ⟨by simp [h3], h4, fun x hx hxl => ?_⟩
    rcases List.mem_append.1 hx with hx | hx
    · exact h5 x hx hxl
    · simp at hx; omega
def lastI (V : List Int) : Nat → Int
  | 0 => -1
  | t + 1 => (V[t]?).getD (-1)
section
variable {m : Model} {t : Nat} {n : Int}
theorem last_ge (ht : t ≤ (roomsV m).length) : -1 ≤ lastI (roomsV m) t := by
  cases t with
  | zero => exact Int.le_refl _
  | succ t =>
    obtain ⟨x, hx⟩ := getE (show t < (roomsV m).length by omega)
    have := ((rooms_spec m).1 x).1 (List.mem_of_getElem? hx)
    show -1 ≤ ((roomsV m)[t]?).getD (-1)
    rw [hx]; show -1 ≤ x; omega
theorem last_lt {j : Nat} {x : Int} (hj : (roomsV m)[j]? = some x) (htj : t ≤ j) : lastI (roomsV m) t < x := by
  cases t with
  | zero => have := ((rooms_spec m).1 x).1 (List.mem_of_getElem? hj); show (-1 : Int) < x; omega
  | succ t =>
    have hjl := (List.getElem?_eq_some_iff.1 hj)
    obtain ⟨hj1, hj2⟩ := hjl
    obtain ⟨y, hy⟩ := getE (show t < (roomsV m).length by omega)
    obtain ⟨ht1, ht2⟩ := List.getElem?_eq_some_iff.1 hy
    have := List.pairwise_iff_getElem.1 (rooms_spec m).2 t j ht1 hj1 (by omega)
    show ((roomsV m)[t]?).getD (-1) < x
    rw [hy]; show y < x
    omega
theorem last_le {j : Nat} {x : Int} (hj : (roomsV m)[j]? = some x) (h : lastI (roomsV m) t < x) (ht : t ≤ (roomsV m).length) : t ≤ j := by
  rcases Nat.lt_or_ge j t with hlt | hge
  · exfalso
    cases t with
    | zero => omega
    | succ t =>
      obtain ⟨hj1, hj2⟩ := List.getElem?_eq_some_iff.1 hj
      obtain ⟨y, hy⟩ := getE (show t < (roomsV m).length by omega)
      obtain ⟨ht1, ht2⟩ := List.getElem?_eq_some_iff.1 hy
      have h : ((roomsV m)[t]?).getD (-1) < x := h
      rw [hy] at h
      have h : y < x := h
      rcases Nat.eq_or_lt_of_le (Nat.le_of_lt_succ hlt) with e | e
      · subst e; rw [hj] at hy; injection hy with hy; omega
      · have := List.pairwise_iff_getElem.1 (rooms_spec m).2 j t hj1 ht1 e
        omega
  · exact hge
theorem nx_none (ht : t ≤ (roomsV m).length) (h : NX (lastI (roomsV m) t) (allR m.classes) n) (hn : n < 0) : (roomsV m).take t = roomsV m := by
  rcases Nat.lt_or_ge t (roomsV m).length with hlt | hge
  · exfalso
    obtain ⟨x, hx⟩ := getE hlt
    have hxm := ((rooms_spec m).1 x).1 (List.mem_of_getElem? hx)
    have h1 := last_lt hx (Nat.le_refl t)
    rcases h with ⟨-, h⟩ | ⟨-, h2, -⟩
    · exact h x hxm.2 h1
    · have := last_ge ht; omega
  · exact List.take_of_length_le hge
theorem nx_some (ht : t ≤ (roomsV m).length) (h : NX (lastI (roomsV m) t) (allR m.classes) n) (hn : ¬ n < 0) : (roomsV m)[t]? = some n := by
  rcases h with ⟨rfl, -⟩ | ⟨h1, h2, h3⟩
  · omega
  · obtain ⟨j, hj⟩ := List.getElem?_of_mem (((rooms_spec m).1 n).2 ⟨by omega, h1⟩)
    have htj := last_le hj h2 ht
    rcases Nat.eq_or_lt_of_le htj with e | e
    · rw [e]; exact hj
    · exfalso
      obtain ⟨hj1, hj2⟩ := List.getElem?_eq_some_iff.1 hj
      obtain ⟨x, hx⟩ := getE (show t < (roomsV m).length by omega)
      obtain ⟨ht1, ht2⟩ := List.getElem?_eq_some_iff.1 hx
      have h4 := h3 x (((rooms_spec m).1 x).1 (List.mem_of_getElem? hx)).2 (last_lt hx (Nat.le_refl t))
      have := List.pairwise_iff_getElem.1 (rooms_spec m).2 t j ht1 hj1 e
      omega
end
theorem allR_succ {c : List (List Opt)} {i : Nat} {l : List Opt} (h : c[i]? = some l) : allR (c.take (i + 1)) = allR (c.take i) ++ allL l := by
  unfold allR; rw [tk_snoc h, List.flatMap_append]; simp
theorem allL_succ {l : List Opt} {k : Nat} {o : Opt} (h : l[k]? = some o) : allL (l.take (k + 1)) = allL (l.take k) ++ [o.place.room] := by
  unfold allL; rw [tk_snoc h, List.map_append]; rfl
theorem rooms_len {m : Model} (hz : sizedP m) : (roomsV m).length ≤ 576 := by
  have h1 := roomsR_len hz.2.1
  have h2 := hz.1
  have h3 := compactI_len (sortI (roomsR m.classes))
  rw [sortI_len] at h3
  unfold roomsV
  omega
theorem c_used0 (m : Model) (hz : sizedP m) : PCall Tryz.prog 42 [ag m.cells] (fun r => Leq r (.pv (.sl 1 ((roomsV m).map intRow)))) := by
  have hVl := rooms_len hz
  obtain ⟨z1, z2, z3, z4, z5⟩ := hz
  refine acall_of tok mixed 57 rfl (fn := Tryz.f42) (c := Tryz.f42.body.getD .skip) (by kernel_rfl) (by kernel_rfl) (by kernel_rfl) rfl 0 rfl ?_
  repeat' (first | refine o1 ?_ | refine o2 ?_ | refine k1 ?_ | refine k2 ?_ | refine k4 ?_ | fail)
  refine loop_for (fun t : Nat => [(1, .ptr 0 4 0 0), (3, slP 1 1 (((roomsV m).take t).map intRow)), (4, vint .i64 (lastI (roomsV m) t))])
    (fun t => [some ⟨29, 4, false, .box (pvs m.cells)⟩, obP 3 1 (((roomsV m).take t).map intRow)])
    (fun t => t ≤ (roomsV m).length) (fun t => (roomsV m).length - t) 0 (Nat.zero_le _) ?_ ?_
  · exact back [0, 1] rfl rfl (by repeat' (first | exact trivial | exact rfl | refine And.intro ?_ ?_)) (by repeat' (first | exact trivial | exact rfl | refine And.intro ?_ ?_))
  intro t ht
  have hlg := last_ge ht
  have hn1 := fun n => nx_none (n := n) ht
  have hn2 := fun n => nx_some (n := n) ht
  have hnl : ∀ n, (roomsV m)[t]? = some n → lastI (roomsV m) (t + 1) = n := fun n h => by show ((roomsV m)[t]?).getD (-1) = n; rw [h]; rfl
  have htl : ((roomsV m).take t).length ≤ 576 := Nat.le_trans (List.length_take_le' ..) hVl
  have htn : ∀ n, (roomsV m)[t]? = some n → (roomsV m).take (t + 1) = (roomsV m).take t ++ [n] := fun n h => tk_snoc h
  generalize hLA : lastI (roomsV m) t = LA at *
  generalize hTK : (roomsV m).take t = TK at *
  repeat' (first | (refine fh_ob ?_) | refine o1 ?_ | refine o2 ?_ | refine k1 ?_ | refine k2 ?_ | refine k4 ?_ | fail)
  refine loop_for (fun x : Nat × Int => [(1, .ptr 0 4 0 0), (3, slP 1 1 (TK.map intRow)), (4, vint .i64 LA), (5, vint .i64 x.2), (6, vint .i64 x.1)])
    (fun x => [some ⟨29, 4, false, .box (pvs m.cells)⟩, obP 3 1 (TK.map intRow)])
    (fun x => x.1 ≤ m.classes.length ∧ NX LA (allR (m.classes.take x.1)) x.2) (fun x => m.classes.length - x.1) (0, -1) ⟨Nat.zero_le _, NX.nil⟩ ?_ ?_
  · exact back [0, 1] rfl rfl (by repeat' (first | exact trivial | exact rfl | refine kept_ob rfl ?_ | refine And.intro ?_ ?_)) (by repeat' (first | exact trivial | exact rfl | exact ren_get rfl | refine And.intro ?_ ?_))
  rintro ⟨i, n⟩ ⟨hi, hnx⟩
  dsimp only at hi hnx ⊢
  rcases Nat.lt_or_ge i m.classes.length with hlt | hge
  · obtain ⟨l, hl⟩ := getE hlt
    have hln := z2 l (List.mem_of_getElem? hl)
    have hsu := allR_succ hl
    generalize allR (m.classes.take i) = RS at *
    repeat' (first | (refine fh_ob ?_) | refine o1 ?_ | refine o2 ?_ | refine k1 ?_ | refine k2 ?_ | refine k3 ?_ | refine k4 ?_ | refine k6 ?_ | refine And.intro ?_ ?_ | (intro h; first | exact Bool.noConfusion h | exact nz _ h | exact nl h | (simp at h; done) | (simp at h; first | (exfalso; omega) | skip) | skip) | refine eqv_len_map ?_ | fail)
    refine loop_for (fun x : Nat × Int => [(1, .ptr 0 4 0 0), (3, slP 1 1 (TK.map intRow)), (4, vint .i64 LA), (5, vint .i64 x.2), (6, vint .i64 i), (7, vint .i64 x.1)])
      (fun x => [some ⟨29, 4, false, .box (pvs m.cells)⟩, obP 3 1 (TK.map intRow)])
      (fun x => x.1 ≤ l.length ∧ NX LA (RS ++ allL (l.take x.1)) x.2) (fun x => l.length - x.1) (0, n) ⟨Nat.zero_le _, by simpa [allL] using hnx⟩ ?_ ?_
    · exact back [0, 1] rfl rfl (by repeat' (first | exact trivial | exact rfl | refine kept_ob rfl ?_ | refine And.intro ?_ ?_)) (by repeat' (first | exact trivial | exact rfl | exact ren_get rfl | refine And.intro ?_ ?_))
    rintro ⟨k, n⟩ ⟨hk, hnk⟩
    dsimp only at hk hnk ⊢
    rcases Nat.lt_or_ge k l.length with hkl | hkg
    · obtain ⟨o, ho⟩ := getE hkl
      have hsk : RS ++ allL (l.take (k + 1)) = (RS ++ allL (l.take k)) ++ [o.place.room] := by rw [allL_succ ho, List.append_assoc]
      have htk := fun h1 h2 => hnk.take (r := o.place.room) hlg h1 h2
      have hlv := fun h => hnk.leave (r := o.place.room) hlg h
      rw [← hsk] at htk hlv
      repeat' (first | (refine fh_ob ?_) | (refine idx_sl (k := i) (at_map hl) rfl ?_) | (refine idx_sl (k := k) (at_map ho) rfl ?_) | refine o1 ?_ | refine o2 ?_ | refine k1 ?_ | refine k2 ?_ | refine k3 ?_ | refine k4 ?_ | refine k6 ?_ | refine And.intro ?_ ?_ | (intro h; first | exact Bool.noConfusion h | exact nz _ h | exact nl h | (simp at h; done) | (simp at h; first | (exfalso; omega) | skip) | skip) | refine eqv_len_map ?_ | refine eqv_wrap (by omega) (by omega) ?_ | fail)
      all_goals first
        | exact ⟨(k + 1, o.place.room), ⟨by dsimp only; omega, htk (by omega) (by omega)⟩, by dsimp only; omega, back [0, 1] rfl rfl (by repeat' (first | exact trivial | exact rfl | refine kept_ob rfl ?_ | refine And.intro ?_ ?_)) (by repeat' (first | exact trivial | exact rfl | exact ren_get rfl | refine And.intro ?_ ?_))⟩
        | exact ⟨(k + 1, n), ⟨by dsimp only; omega, hlv (by omega)⟩, by dsimp only; omega, back [0, 1] rfl rfl (by repeat' (first | exact trivial | exact rfl | refine kept_ob rfl ?_ | refine And.intro ?_ ?_)) (by repeat' (first | exact trivial | exact rfl | exact ren_get rfl | refine And.intro ?_ ?_))⟩
    · obtain rfl : k = l.length := by omega
      rw [List.take_length, ← hsu] at hnk
      repeat' (first | (refine fh_ob ?_) | (refine idx_sl (k := i) (at_map hl) rfl ?_) | refine o1 ?_ | refine o2 ?_ | refine k1 ?_ | refine k2 ?_ | refine k3 ?_ | refine k8 ?_ | refine And.intro ?_ ?_ | (intro h; first | exact Bool.noConfusion h | exact nz _ h | exact nl h | (simp at h; done) | (simp at h; first | (exfalso; omega) | skip) | skip) | refine eqv_len_map ?_ | refine eqv_wrap (by omega) (by omega) ?_ | fail)
      all_goals first
        | exact ⟨(i + 1, n), ⟨by dsimp only; omega, hnk⟩, by dsimp only; omega, back [0, 1] rfl rfl (by repeat' (first | exact trivial | exact rfl | refine kept_ob rfl ?_ | refine And.intro ?_ ?_)) (by repeat' (first | exact trivial | exact rfl | exact ren_get rfl | refine And.intro ?_ ?_))⟩
  · obtain rfl : i = m.classes.length := by omega
    rw [List.take_length] at hnx
    by_cases hn : n < 0
    · have h1 := hn1 n hnx hn
      rw [h1]
      repeat' (first | (refine fv_sl ?_) | (refine fh_ob ?_) | refine o1 ?_ | refine o2 ?_ | refine k1 ?_ | refine k2 ?_ | refine k3 ?_ | refine k7 ?_ | refine k8 ?_ | refine And.intro ?_ ?_ | (intro h; first | exact Bool.noConfusion h | exact nz _ h | exact nl h | (simp at h; done) | (simp at h; first | (exfalso; omega) | skip) | skip) | refine eqv_len_map ?_ | fail)
      all_goals first
        | (exfalso; omega)
        | exact ret_sl rfl ⟨ALe.refl⟩ leq_down
    · have h2 := hn2 n hnx hn
      repeat' (first | (refine fv_sl ?_) | (refine fh_ob ?_) | ((refine o_app rfl rfl rfl rfl rfl rfl rfl rfl rfl rfl rfl (by rw [List.length_map]; omega) (by rw [List.length_map]; omega) ?_)) | refine o1 ?_ | refine o2 ?_ | refine k1 ?_ | refine k2 ?_ | refine k3 ?_ | refine k6 ?_ | refine k8 ?_ | refine And.intro ?_ ?_ | (intro h; first | exact Bool.noConfusion h | exact nz _ h | exact nl h | (simp at h; done) | (simp at h; first | (exfalso; omega) | skip) | skip) | refine eqv_len_map ?_ | fail)
      all_goals first
        | (exfalso; omega)
        | (refine ⟨t + 1, (List.getElem?_eq_some_iff.1 h2).1, by have := (List.getElem?_eq_some_iff.1 h2).1; omega, ?_⟩
           rw [htn n h2, hnl n h2, map_snoc, sl_app, ob_app]
           exact back [0, 3] rfl rfl (by repeat' (first | exact trivial | exact rfl | refine And.intro ?_ ?_)) (by repeat' (first | exact trivial | exact rfl | refine And.intro ?_ ?_)))
theorem c_used (m : Model) (hz : sizedP m) : PCall Tryz.prog 42 [ag m.cells] (fun r => r = .pv (.sl 1 ((roomsV m).map intRow))) := (c_used0 m hz).weak fun r k => ⟨_, k.le, rfl⟩
end Go.Proofs.YtihpjcmloecaaaaGreat.Cw
/-
  Symmetry, plain: exchanges of rooms compose.
-/
namespace Go.Proofs.YtihpjcmloecaaaaGreat.Cw
open Go Go.Cw Go.Proofs
set_option linter.unusedVariables false
set_option maxRecDepth 100000
theorem img_comp {l : List Opt} {i j : Nat} {r s : Int} (h : imgO l i r = some j) : imgO l j s = imgO l i s := by
  obtain ⟨o, ho⟩ : ∃ o, l[i]? = some o := by
    cases e : l[i]? with
    | some o => exact ⟨o, rfl⟩
    | none => unfold imgO at h; rw [e] at h; cases h
  have hj := img_lt h
  obtain ⟨q, hq⟩ := getE hj
  unfold imgO at h ⊢
  rw [ho] at h
  rw [ho, hq]
  dsimp only at h ⊢
  obtain ⟨o1, k1, k2⟩ := placed_iff.1 (sameP_mem.1 (List.mem_of_getElem? h)).2
  rw [hq] at k1; cases k1
  have h2 := sameP_at (placed_t hq rfl) hj
  rw [k2] at h2 ⊢
  have hnd := sameP_nodup (l := l) (p := withRoom o.place r) (n := l.length)
  have hK : (sameP l (withRoom o.place r) j).length = (sameP l o.place i).length := by
    obtain ⟨b1, e1⟩ := List.getElem?_eq_some_iff.1 h
    obtain ⟨b2, e2⟩ := List.getElem?_eq_some_iff.1 h2
    rcases Nat.lt_trichotomy (sameP l o.place i).length (sameP l (withRoom o.place r) j).length with h | h | h
    · exact absurd (e1.trans e2.symm) (List.pairwise_iff_getElem.1 hnd _ _ b1 b2 h)
    · exact h.symm
    · exact absurd (e2.trans e1.symm) (List.pairwise_iff_getElem.1 hnd _ _ b2 b1 h)
  rw [hK]; rfl
theorem img_room {l : List Opt} {i j : Nat} {r : Int} {q : Opt} (h : imgO l i r = some j) (hq : l[j]? = some q) : q.place.room = r := by
  unfold imgO at h
  split at h
  · obtain ⟨o1, k1, k2⟩ := placed_iff.1 (sameP_mem.1 (List.mem_of_getElem? h)).2
    rw [hq] at k1; cases k1
    rw [k2]; rfl
  · cases h
theorem exch_comp {x a b c : Int} (h1 : a ≠ b) (h2 : a ≠ c) (h3 : b ≠ c) : exch (exch (exch x a c) b c) a c = exch x a b := by
  unfold exch
  grind
theorem ok_comp {l : List Opt} {a b c : Int} (h1 : a ≠ b) (h2 : a ≠ c) (h3 : b ≠ c) (hac : imgsP l a c) (hbc : imgsP l b c) {i : Nat} (hi : i < l.length) :
    okO l a b i ∧ imN l a b i = imN l a c (imN l b c (imN l a c i)) := by
  obtain ⟨i1, o, q1, e1, e2, e3, e4⟩ := hac i hi
  have hi1 := (List.getElem?_eq_some_iff.1 e3).1
  obtain ⟨i2, o', q2, f1, f2, f3, f4⟩ := hbc i1 hi1
  rw [e3] at f2; cases f2
  have hi2 := (List.getElem?_eq_some_iff.1 f3).1
  obtain ⟨i3, o', q3, g1, g2, g3, g4⟩ := hac i2 hi2
  rw [f3] at g2; cases g2
  have n1 : imN l a c i = i1 := by unfold imN; rw [e1]; rfl
  have n2 : imN l b c i1 = i2 := by unfold imN; rw [f1]; rfl
  have n3 : imN l a c i2 = i3 := by unfold imN; rw [g1]; rfl
  rw [swap_of e2 rfl] at e1
  rw [swap_of e3 rfl] at f1
  rw [swap_of f3 rfl] at g1
  have r1 := img_room e1 e3
  have r2 := img_room f1 f3
  rw [img_comp f1, img_comp e1, r2, r1, exch_comp h1 h2 h3] at g1
  have hs : swapO l a b i = some i3 := by rw [swap_of e2 rfl]; exact g1
  refine ⟨⟨i3, o, q3, hs, e2, g3, e4.trans (f4.trans g4)⟩, ?_⟩
  rw [n1, n2, n3]
  unfold imN; rw [hs]; rfl
section
variable {m : Model} {a b c : Int}
theorem optC_perm {g : Load → Int} {x y : Count} (h1 : x.rule = y.rule) (h2 : x.most = y.most) (h3 : x.penalty = y.penalty) (h4 : x.loads.Perm y.loads) : optC g x = optC g y := by
  unfold optC
  rw [h1, h2, h3, (srt_eq totLd).2 (h4.map (optL g))]
theorem optC_norm {g : Load → Int} (x : Count) : optC g (optC Load.opt x) = optC g x := by
  refine optC_perm rfl rfl rfl ?_
  have : (optL Load.opt) = id := rfl
  show (srt ldC (x.loads.map (optL Load.opt))).Perm _
  rw [this, List.map_id]
  exact srt_perm _
theorem imLoad_comp (h1 : a ≠ b) (h2 : a ≠ c) (h3 : b ≠ c) (hac : allImg m a c) (hbc : allImg m b c) {x : Load} (hx : optionP m x.cls x.opt) :
    optL (imLoad m a b) x = optL (imLoad m a c) (optL (imLoad m b c) (optL (imLoad m a c) x)) := by
  obtain ⟨k1, k2, l, k3, k4⟩ := hx
  have hl := List.mem_of_getElem? k3
  have e : ∀ (d f : Int) (y : Load), y.cls = x.cls → imLoad m d f y = (imN l d f y.opt.toNat : Int) := fun d f y hy => by unfold imLoad; rw [hy, k3]
  have hc := (ok_comp h1 h2 h3 (hac l hl) (hbc l hl) (i := x.opt.toNat) (by omega)).2
  show (⟨x.cls, imLoad m a b x, x.weight⟩ : Load) = ⟨x.cls, imLoad m a c (optL (imLoad m b c) (optL (imLoad m a c) x)), x.weight⟩
  have e1 := e a b x rfl
  have e2 := e a c (optL (imLoad m b c) (optL (imLoad m a c) x)) rfl
  have e3 := e b c (optL (imLoad m a c) x) rfl
  have e4 := e a c x rfl
  have o1 : (optL (imLoad m a c) x).opt = (imN l a c x.opt.toNat : Int) := e4
  have o2 : (optL (imLoad m b c) (optL (imLoad m a c) x)).opt = (imN l b c (imN l a c x.opt.toNat) : Int) := by
    show imLoad m b c (optL (imLoad m a c) x) = _
    rw [e3, o1]; rfl
  rw [e1, e2, o2, hc]; rfl
theorem optC_comp (h1 : a ≠ b) (h2 : a ≠ c) (h3 : b ≠ c) (hac : allImg m a c) (hbc : allImg m b c) {x : Count} (hx : ∀ l ∈ x.loads, optionP m l.cls l.opt) :
    optC (imLoad m a b) x = optC (imLoad m a c) (optC (imLoad m b c) (optC (imLoad m a c) x)) := by
  have e : x.loads.map (optL (imLoad m a b)) = ((x.loads.map (optL (imLoad m a c))).map (optL (imLoad m b c))).map (optL (imLoad m a c)) := by
    rw [List.map_map, List.map_map]
    exact List.map_congr_left fun y hy => imLoad_comp h1 h2 h3 hac hbc (hx y hy)
  show (⟨x.rule, _, x.most, x.penalty⟩ : Count) = ⟨x.rule, _, x.most, x.penalty⟩
  congr 1
  rw [srt_eq totLd, e]
  refine List.Perm.map _ ?_
  show (List.map (optL (imLoad m b c)) _).Perm (srt ldC (List.map (optL (imLoad m b c)) (srt ldC _)))
  exact ((srt_perm _).symm.map _).trans (srt_perm _).symm
theorem swap_trans (hz : sizedP m) (hg : goodP m) (h1 : a ≠ b) (h2 : a ≠ c) (h3 : b ≠ c) (hac : swapP m a c) (hbc : swapP m b c) : swapP m a b := by
  obtain ⟨i1, e1, c1⟩ := hac
  obtain ⟨i2, e2, c2⟩ := hbc
  refine ⟨fun l hl i hi => (ok_comp h1 h2 h3 (i1 l hl) (i2 l hl) hi).1, fun p hp x y hx hy i hi k hk => ?_, ?_⟩
  · have hxm := List.mem_of_getElem? hx
    have hym := List.mem_of_getElem? hy
    rw [(ok_comp h1 h2 h3 (i1 x hxm) (i2 x hxm) hi).2, (ok_comp h1 h2 h3 (i1 y hym) (i2 y hym) hk).2]
    have a1 := (ok_imN (i1 x hxm i hi)).2
    have a2 := (ok_imN (i1 y hym k hk)).2
    have b1 := (ok_imN (i2 x hxm _ a1)).2
    have b2 := (ok_imN (i2 y hym _ a2)).2
    exact (e1 p hp x y hx hy i hi k hk).trans ((e2 p hp x y hx hy _ a1 _ a2).trans (e1 p hp x y hx hy _ b1 _ b2))
  · rw [cnt_iff] at c1 c2 ⊢
    have hm : m.counts.map (optC (imLoad m a b)) = ((m.counts.map (optC (imLoad m a c))).map (optC (imLoad m b c))).map (optC (imLoad m a c)) := by
      rw [List.map_map, List.map_map]
      exact List.map_congr_left fun x hx => optC_comp h1 h2 h3 i1 i2 fun l hl => (good_load hg hx hl).1
    have hN : ∀ g, (m.counts.map (optC Load.opt)).map (optC g) = m.counts.map (optC g) := fun g => by
      rw [List.map_map]
      exact List.map_congr_left fun x _ => optC_norm x
    rw [hm]
    have p1 := (c1.map (optC (imLoad m b c)))
    rw [hN] at p1
    have p2 := (p1.trans c2).map (optC (imLoad m a c))
    rw [hN] at p2
    exact p2.trans c1
end
end Go.Proofs.YtihpjcmloecaaaaGreat.Cw
/-
  Symmetry: the sets of rooms that can be exchanged, by the program.
-/
namespace Go.Proofs.YtihpjcmloecaaaaGreat.Cw
open Go Go.Cw Go.Proofs
set_option linter.unusedVariables false
set_option maxRecDepth 100000
set_option maxHeartbeats 8000000
noncomputable def swB (m : Model) (x b : Int) : Bool := pB (swapP m x b)
noncomputable def setsF (m : Model) : Nat → List Int → List (List Int)
  | 0, _ => []
  | _ + 1, [] => []
  | n + 1, x :: l => (if l.filter (swB m x) = [] then [] else [x :: l.filter (swB m x)]) ++ setsF m n (l.filter fun b => !swB m x b)
noncomputable def setsV (m : Model) : List (List Int) := if modelE m = 0 then setsF m (roomsV m).length (roomsV m) else []
theorem sets_zero {m : Model} : ∀ {n : Nat}, setsF m n [] = []
  | 0 => rfl
  | _ + 1 => rfl
theorem sets_fuel {m : Model} : ∀ {n k : Nat} {l : List Int}, l.length ≤ n → l.length ≤ k → setsF m n l = setsF m k l
  | n, k, [], _, _ => by rw [sets_zero, sets_zero]
  | 0, _, x :: l, h, _ => by simp at h
  | _, 0, x :: l, _, h => by simp at h
  | n + 1, k + 1, x :: l, h1, h2 => by
    unfold setsF
    have := List.length_filter_le (fun b => !swB m x b) l
    simp only [List.length_cons] at h1 h2
    rw [sets_fuel (n := n) (k := k) (by omega) (by omega)]
theorem filt_sum {α : Type} {p : α → Bool} : ∀ {l : List α}, (l.filter p).length + (l.filter fun x => !p x).length = l.length
  | [] => rfl
  | x :: l => by
    have ih := filt_sum (p := p) (l := l)
    cases h : p x <;> simp [h] <;> omega
def lstRow (l : List Int) : List PV := [.sl 1 (l.map intRow)]
def slS (x : Int) (F : List Int) : AV := match F with
  | [] => .clip 1 [intRow x]
  | _ :: _ => .ms 2 1 0 (F.length + 1)
def obS (x : Int) (F : List Int) : Option AObj := match F with
  | [] => none
  | _ :: _ => some ⟨3, 1, false, .p ((x :: F).map intRow)⟩
theorem clip_le {z : Nat} {xs : List (List PV)} : ALe (.clip z xs) (.pv (.sl z xs)) := fun I β w v h => by
  cases h with
  | clip h => exact .pv h
theorem c_Rooms0 (m : Model) (hl : Laid m) : PCall Tryz.prog 16 [ag m.cells] (fun r => Leq r (.pv (.sl 1 ((setsV m).map lstRow)))) := by
  have hv := c_valid m hl
  by_cases hok : modelE m = 0
  · have hz := model_sized hok
    have hg := model_good hok
    have hnu := c_numbers m hz
    have hVl := rooms_len hz
    have e : setsV m = setsF m (roomsV m).length (roomsV m) := if_pos hok
    rw [e]
    rw [hok] at hv
    refine acall_of tok mixed 56 rfl (fn := Tryz.f16) (c := Tryz.f16.body.getD .skip) (by kernel_rfl) (by kernel_rfl) (by kernel_rfl) rfl 0 rfl ?_
    repeat' (first | ((change vcFun _ _ _ _ _; refine call_frz rfl (by repeat' (first | trivial | refine And.intro ?_ ?_ | (show 0 + _ ≤ List.length _; simp))) ALeL.refl hnu ?_; rintro _ rfl)) | refine o1 ?_ | refine o2 ?_ | refine k1 ?_ | refine k2 ?_ | refine k3 ?_ | refine k4 ?_ | refine k6 ?_ | refine And.intro ?_ ?_ | (intro h; first | exact Bool.noConfusion h | exact nz _ h | exact nl h | (simp at h; done) | (simp at h; first | (exfalso; omega) | skip) | skip) | (change vcFun _ _ _ _ _; refine call_eq rfl (by repeat' (first | trivial | refine And.intro ?_ ?_ | (show 0 + _ ≤ List.length _; simp))) ALeL.refl (hv) rfl ?_) | fail)
    refine loop_for (fun x : List Int × List (List Int) => [(1, .ptr 0 4 0 0), (3, slP 1 1 (x.2.map lstRow)), (4, .pv (.sl 1 (x.1.map intRow)))])
      (fun x => [some ⟨29, 4, false, .box (pvs m.cells)⟩, obP 22 1 (x.2.map lstRow)])
      (fun x => x.1.length ≤ 576 ∧ x.2.length + x.1.length ≤ 576 ∧ x.2 ++ setsF m x.1.length x.1 = setsF m (roomsV m).length (roomsV m)) (fun x => x.1.length) (roomsV m, []) ⟨hVl, by simpa using hVl, rfl⟩ ?_ ?_
    · exact back [0, 1] rfl rfl (by repeat' (first | exact trivial | exact rfl | refine And.intro ?_ ?_)) (by repeat' (first | exact trivial | exact rfl | refine And.intro ?_ ?_))
    rintro ⟨L, OUT⟩ ⟨h1, h2, h3⟩
    dsimp only at h1 h2 h3 ⊢
    rcases L with _ | ⟨x, l⟩
    · rw [sets_zero, List.append_nil] at h3
      rw [← h3]
      repeat' (first | (refine fv_sl ?_) | (refine fh_ob ?_) | refine o1 ?_ | refine o2 ?_ | refine k1 ?_ | refine k2 ?_ | refine k3 ?_ | refine k7 ?_ | refine k8 ?_ | refine And.intro ?_ ?_ | (intro h; first | exact Bool.noConfusion h | exact nz _ h | exact nl h | (simp at h; done) | (simp at h; first | (exfalso; omega) | skip) | skip) | refine eqv_len_map ?_ | fail)
      exact ret_sl rfl ⟨ALe.refl⟩ leq_down
    · have hsl : ∀ n, (l.filter fun b => !swB m x b).length ≤ n → setsF m n (l.filter fun b => !swB m x b) = setsF m (l.filter fun b => !swB m x b).length (l.filter fun b => !swB m x b) := fun n hn => sets_fuel hn (Nat.le_refl _)
      have hln : l.length ≤ 575 := by simpa using h1
      have hdr : List.drop 1 (List.take (List.map intRow (x :: l)).length (List.map intRow (x :: l))) = l.map intRow := by rw [List.take_length]; rfl
      repeat' (first | (refine fh_ob ?_) | (refine ⟨1, (by simp), rfl, rfl, ?_⟩) | (refine ⟨1, (List.map intRow (x :: l)).length, rfl, rfl, (by simp), Nat.le_refl _, ?_⟩) | (refine eqv_to (l.map intRow) hdr ?_) | refine o1 ?_ | refine o2 ?_ | refine k1 ?_ | refine k2 ?_ | refine k3 ?_ | refine k4 ?_ | refine k6 ?_ | refine And.intro ?_ ?_ | (intro h; first | exact Bool.noConfusion h | exact nz _ h | exact nl h | (simp at h; done) | (simp at h; first | (exfalso; omega) | skip) | skip) | refine eqv_len_map ?_ | fail)
      refine loop_for (fun k : Nat => [(1, .ptr 0 4 0 0), (3, slP 1 1 (OUT.map lstRow)), (4, .pv (.sl 1 ((x :: l).map intRow))), (5, slS x ((l.take k).filter (swB m x))), (6, slP 3 1 (((l.take k).filter fun b => !swB m x b).map intRow)), (22, .pv (.sl 1 (l.map intRow))), (23, vint .i64 l.length), (24, vint .i64 k)])
        (fun k => [some ⟨29, 4, false, .box (pvs m.cells)⟩, obP 22 1 (OUT.map lstRow), obS x ((l.take k).filter (swB m x)), obP 3 1 (((l.take k).filter fun b => !swB m x b).map intRow)])
        (fun k => k ≤ l.length) (fun k => l.length - k) 0 (Nat.zero_le _) ?_ ?_
      · exact back [0, 1, 2, 3] rfl rfl (by repeat' (first | exact trivial | exact rfl | refine kept_ob rfl ?_ | refine And.intro ?_ ?_)) (by repeat' (first | exact trivial | exact rfl | exact ren_get rfl | refine And.intro ?_ ?_))
      intro k hk
      rcases Nat.lt_or_ge k l.length with hkl | hkg
      · obtain ⟨b, hb⟩ := getE hkl
        have hsw := c_swapM m x b hz hg
        have hFl : ((l.take k).filter (swB m x)).length ≤ 575 := Nat.le_trans (List.length_filter_le ..) (Nat.le_trans (List.length_take_le' ..) hln)
        have hGl : ((l.take k).filter fun b => !swB m x b).length ≤ 575 := Nat.le_trans (List.length_filter_le ..) (Nat.le_trans (List.length_take_le' ..) hln)
        have hF1 : (l.take (k + 1)).filter (swB m x) = if swB m x b then (l.take k).filter (swB m x) ++ [b] else (l.take k).filter (swB m x) := by
          rw [tk_snoc hb, List.filter_append]; by_cases h : swB m x b = true <;> simp [h]
        have hG1 : ((l.take (k + 1)).filter fun b => !swB m x b) = if swB m x b then ((l.take k).filter fun b => !swB m x b) else ((l.take k).filter fun b => !swB m x b) ++ [b] := by
          rw [tk_snoc hb, List.filter_append]; by_cases h : swB m x b = true <;> simp [h]
        generalize hFF : (l.take k).filter (swB m x) = F at *
        generalize hGG : ((l.take k).filter fun b => !swB m x b) = G at *
        by_cases hP : swapP m x b
        · have hS : swB m x b = true := pB_t hP
          rw [if_pos hS] at hF1 hG1
          rw [pB_t hP] at hsw
          rcases F with _ | ⟨a, F⟩
          · repeat' (first | (refine fh_ob ?_) | (refine idx_sl (k := k) (at_map hb) rfl ?_) | (refine idx_sl (k := 0) (r := intRow x) rfl rfl ?_) | ((change vcFunD _ _ _ _ _; refine callD_eq rfl (by repeat' (first | trivial | refine And.intro ?_ ?_ | (show 0 + _ ≤ List.length _; simp))) ALeL.refl hsw rfl ?_)) | (refine eqv_to (Rows.p ([x, b].map intRow)) rfl (eqv_to 2 rfl ?_)) | refine o1 ?_ | refine o2 ?_ | refine k1 ?_ | refine k2 ?_ | refine k3 ?_ | refine k4 ?_ | refine k6 ?_ | refine And.intro ?_ ?_ | refine o3 ?_ | refine o4 ?_ | (intro h; first | exact Bool.noConfusion h | exact nz _ h | exact nl h | (simp at h; done) | (simp at h; first | (exfalso; omega) | skip) | skip) | (refine (?_ : srcLen _ = rowsLen _); rfl) | exact Nat.le_of_ble_eq_true rfl | exact (by kernel_rfl : drawOk _ _ = true) | refine eqv_wrap (by omega) (by omega) ?_ | fail)
            refine ⟨k + 1, by omega, by omega, ?_⟩
            rw [hF1, hG1]
            exact back [0, 1, 5, 3] rfl rfl (by repeat' (first | exact trivial | exact rfl | refine kept_ob rfl ?_ | refine And.intro ?_ ?_)) (by repeat' (first | exact trivial | exact rfl | exact ren_get rfl | refine And.intro ?_ ?_))
          · repeat' (first | (refine fh_ob ?_) | (refine idx_sl (k := k) (at_map hb) rfl ?_) | (refine idx_sl (k := 0) (r := intRow x) rfl rfl ?_) | ((change vcFunD _ _ _ _ _; refine callD_eq rfl (by repeat' (first | trivial | refine And.intro ?_ ?_ | (show 0 + _ ≤ List.length _; simp))) ALeL.refl hsw rfl ?_)) | ((show rowsLen _ * _ ≤ _; simp [rowsLen] at *; omega)) | ((show rowsLen _ ≤ _; simp [rowsLen] at *; omega)) | refine o1 ?_ | refine o2 ?_ | refine k1 ?_ | refine k2 ?_ | refine k3 ?_ | refine k4 ?_ | refine k6 ?_ | refine And.intro ?_ ?_ | refine o3 ?_ | refine o4 ?_ | (intro h; first | exact Bool.noConfusion h | exact nz _ h | exact nl h | (simp at h; done) | (simp at h; first | (exfalso; omega) | skip) | skip) | (refine (?_ : srcLen _ = rowsLen _); rfl) | exact (by kernel_rfl : drawOk _ _ = true) | refine eqv_wrap (by omega) (by omega) ?_ | (refine (?_ : _ = rowsLen _); simp [rowsLen] <;> omega) | refine eqv_to _ (app_row rfl) (eqv_to _ app_len ?_) | fail)
            refine ⟨k + 1, by omega, by omega, ?_⟩
            rw [hF1, hG1]
            exact back [0, 1, 5, 3] rfl rfl (by repeat' (first | exact trivial | exact rfl | refine kept_ob rfl ?_ | refine And.intro ?_ ?_)) (by repeat' (first | exact trivial | exact rfl | exact ren_get rfl | refine And.intro ?_ ?_))
        · have hS : swB m x b = false := pB_f hP
          rw [if_neg (by rw [hS]; simp)] at hF1 hG1
          rw [pB_f hP] at hsw
          rcases F with _ | ⟨a, F⟩
          · repeat' (first | (refine fv_sl ?_) | (refine fh_ob ?_) | (refine idx_sl (k := k) (at_map hb) rfl ?_) | (refine idx_sl (k := 0) (r := intRow x) rfl rfl ?_) | ((change vcFunD _ _ _ _ _; refine callD_eq rfl (by repeat' (first | trivial | refine And.intro ?_ ?_ | (show 0 + _ ≤ List.length _; simp))) ALeL.refl hsw rfl ?_)) | ((refine o_app rfl rfl rfl rfl rfl rfl rfl rfl rfl rfl rfl (by rw [List.length_map]; omega) (by rw [List.length_map]; omega) ?_)) | refine o1 ?_ | refine o2 ?_ | refine k1 ?_ | refine k2 ?_ | refine k3 ?_ | refine k4 ?_ | refine k6 ?_ | refine And.intro ?_ ?_ | refine o3 ?_ | refine o4 ?_ | (intro h; first | exact Bool.noConfusion h | exact nz _ h | exact nl h | (simp at h; done) | (simp at h; first | (exfalso; omega) | skip) | skip) | exact (by kernel_rfl : drawOk _ _ = true) | refine eqv_wrap (by omega) (by omega) ?_ | fail)
            refine ⟨k + 1, by omega, by omega, ?_⟩
            rw [hF1, hG1, map_snoc, sl_app, ob_app]
            exact back [0, 1, 2, 5] rfl rfl (by repeat' (first | exact trivial | exact rfl | refine kept_ob rfl ?_ | refine And.intro ?_ ?_)) (by repeat' (first | exact trivial | exact rfl | exact ren_get rfl | refine And.intro ?_ ?_))
          · repeat' (first | (refine fv_sl ?_) | (refine fh_ob ?_) | (refine idx_sl (k := k) (at_map hb) rfl ?_) | (refine idx_sl (k := 0) (r := intRow x) rfl rfl ?_) | ((change vcFunD _ _ _ _ _; refine callD_eq rfl (by repeat' (first | trivial | refine And.intro ?_ ?_ | (show 0 + _ ≤ List.length _; simp))) ALeL.refl hsw rfl ?_)) | ((refine o_app rfl rfl rfl rfl rfl rfl rfl rfl rfl rfl rfl (by rw [List.length_map]; omega) (by rw [List.length_map]; omega) ?_)) | refine o1 ?_ | refine o2 ?_ | refine k1 ?_ | refine k2 ?_ | refine k3 ?_ | refine k4 ?_ | refine k6 ?_ | refine And.intro ?_ ?_ | refine o3 ?_ | refine o4 ?_ | (intro h; first | exact Bool.noConfusion h | exact nz _ h | exact nl h | (simp at h; done) | (simp at h; first | (exfalso; omega) | skip) | skip) | exact (by kernel_rfl : drawOk _ _ = true) | refine eqv_wrap (by omega) (by omega) ?_ | fail)
            refine ⟨k + 1, by omega, by omega, ?_⟩
            rw [hF1, hG1, map_snoc, sl_app, ob_app]
            exact back [0, 1, 2, 5] rfl rfl (by repeat' (first | exact trivial | exact rfl | refine kept_ob rfl ?_ | refine And.intro ?_ ?_)) (by repeat' (first | exact trivial | exact rfl | exact ren_get rfl | refine And.intro ?_ ?_))
      · obtain rfl : k = l.length := by omega
        rw [List.take_length]
        have hsum := filt_sum (p := swB m x) (l := l)
        have hst : setsF m (x :: l).length (x :: l) = (if l.filter (swB m x) = [] then [] else [x :: l.filter (swB m x)]) ++ setsF m (l.filter fun b => !swB m x b).length (l.filter fun b => !swB m x b) := by
          rw [← hsl l.length (List.length_filter_le ..)]; rfl
        rw [hst] at h3
        simp only [List.length_cons] at h1 h2
        generalize hFF : l.filter (swB m x) = F at *
        generalize hGG : (l.filter fun b => !swB m x b) = G at *
        refine forceH_in ?_
        rcases F with _ | ⟨a, F⟩
        · rw [if_pos rfl, List.nil_append] at h3
          refine ghost_seq (Γ' := [(1, .ptr 0 4 0 0), (3, slP 1 1 (OUT.map lstRow)), (5, .pv (.sl 1 [intRow x])), (6, .pv (.sl 1 (G.map intRow))), (22, .pv (.sl 1 (l.map intRow))), (23, vint .i64 l.length), (24, vint .i64 l.length)]) (H' := [some ⟨29, 4, false, .box (pvs m.cells)⟩, obP 22 1 (OUT.map lstRow)]) (Ghost.trans (Ghost.weak (s := 5) rfl clip_le) (Ghost.sl (s := 6) (id := 3) rfl rfl fun H' hl hH => back [0, 1] rfl rfl (And.intro (hH 0 (by decide)) (kept_ob (hH 1 (by decide)) trivial)) (by repeat' (first | exact trivial | exact rfl | exact ren_get rfl | refine And.intro ?_ ?_)))) ?_
          repeat' (first | refine o1 ?_ | refine o2 ?_ | refine k1 ?_ | refine k2 ?_ | refine k3 ?_ | refine k6 ?_ | refine k8 ?_ | refine And.intro ?_ ?_ | (intro h; first | exact Bool.noConfusion h | exact nz _ h | exact nl h | (simp at h; done) | (simp at h; first | (exfalso; omega) | skip) | skip) | refine eqv_zero ?_ | fail)
          all_goals first
            | (exfalso; omega)
            | exact ⟨(G, OUT), ⟨by dsimp only; simp at hsum; omega, by dsimp only; simp at hsum; omega, h3⟩, by dsimp only; simp at hsum ⊢; omega, back [0, 1] rfl rfl (by repeat' (first | exact trivial | exact rfl | refine kept_ob rfl ?_ | refine And.intro ?_ ?_)) (by repeat' (first | exact trivial | exact rfl | exact ren_get rfl | refine And.intro ?_ ?_))⟩
        · rw [if_neg (by simp)] at h3
          refine ghost_seq (Γ' := [(1, .ptr 0 4 0 0), (3, slP 1 1 (OUT.map lstRow)), (5, .pv (.sl 1 ((x :: a :: F).map intRow))), (6, .pv (.sl 1 (G.map intRow))), (22, .pv (.sl 1 (l.map intRow))), (23, vint .i64 l.length), (24, vint .i64 l.length)]) (H' := [some ⟨29, 4, false, .box (pvs m.cells)⟩, obP 22 1 (OUT.map lstRow)]) (Ghost.trans (Ghost.freeze (s := 5) rfl rfl (by repeat' (first | (show 0 + _ ≤ List.length _; simp)))) (Ghost.trans (Ghost.weak (s := 5) rfl (ALe.pv (whole_le (f := intRow) (l := x :: a :: F) (Nat.le_refl _)))) (Ghost.sl (s := 6) (id := 3) rfl rfl fun H' hl hH => back [0, 1] rfl rfl (And.intro (hH 0 (by decide)) (kept_ob (hH 1 (by decide)) trivial)) (by repeat' (first | exact trivial | exact rfl | exact ren_get rfl | refine And.intro ?_ ?_))))) ?_
          have hOl : OUT.length ≤ 576 := by omega
          repeat' (first | (refine fv_sl ?_) | (refine fh_ob ?_) | ((refine o_app rfl rfl rfl rfl rfl rfl rfl rfl rfl rfl rfl (by rw [List.length_map]; omega) (by rw [List.length_map]; omega) ?_)) | refine o1 ?_ | refine o2 ?_ | refine k1 ?_ | refine k2 ?_ | refine k3 ?_ | refine k8 ?_ | refine And.intro ?_ ?_ | (intro h; first | exact Bool.noConfusion h | exact nz _ h | exact nl h | (simp at h; done) | (simp at h; first | (exfalso; omega) | skip) | skip) | refine eqv_len_map ?_ | fail)
          all_goals first
            | (exfalso; omega)
            | (refine ⟨(G, OUT ++ [x :: a :: F]), ⟨by dsimp only; simp at hsum; omega, by dsimp only; simp at hsum ⊢; omega, by dsimp only; rw [List.append_assoc]; exact h3⟩, by dsimp only; simp at hsum ⊢; omega, ?_⟩
               dsimp only
               rw [map_snoc, sl_app, ob_app]
               exact back [0, 3] rfl rfl (by repeat' (first | exact trivial | exact rfl | refine And.intro ?_ ?_)) (by repeat' (first | exact trivial | exact rfl | refine And.intro ?_ ?_)))
  · have e : setsV m = [] := if_neg hok
    rw [e]
    generalize modelE m = E at hv hok
    refine acall_of tok mixed 56 rfl (fn := Tryz.f16) (c := Tryz.f16.body.getD .skip) (by kernel_rfl) (by kernel_rfl) (by kernel_rfl) rfl 0 rfl ?_
    repeat' (first | refine o1 ?_ | refine o2 ?_ | refine k1 ?_ | refine k2 ?_ | refine k3 ?_ | refine k7 ?_ | refine And.intro ?_ ?_ | (intro h; first | exact Bool.noConfusion h | exact nz _ h | exact nl h | (simp at h; done) | (simp at h; first | (exfalso; omega) | skip) | skip) | (change retOk _ _ _ _; refine ret_pure rfl trivial ?_) | (change vcFun _ _ _ _ _; refine call_eq rfl (by repeat' (first | trivial | refine And.intro ?_ ?_ | (show 0 + _ ≤ List.length _; simp))) ALeL.refl (hv) rfl ?_) | fail)
    all_goals first
      | (exfalso; omega)
      | exact ⟨ALe.pv PLe.nil⟩
theorem c_Rooms (m : Model) (hl : Laid m) : PCall Tryz.prog 16 [ag m.cells] (fun r => r = .pv (.sl 1 ((setsV m).map lstRow))) := (c_Rooms0 m hl).weak fun r k => ⟨_, k.le, rfl⟩
end Go.Proofs.YtihpjcmloecaaaaGreat.Cw
/-
  Symmetry: the sets of rooms that can be exchanged, by the reference.
-/
namespace Go.Proofs.YtihpjcmloecaaaaGreat.Cw
open Go Go.Cw Go.Proofs
set_option linter.unusedVariables false
set_option maxRecDepth 100000
set_option maxHeartbeats 8000000
theorem sw_iff {m : Model} {x b : Int} : swB m x b = true ↔ swapP m x b := by unfold swB; simp
theorem utk_skip {κ : Type} {p : κ → Bool} : ∀ {D : List Bool} {l : List κ}, D.length = l.length → (∀ (j : Nat) y, D[j]? = some true → l[j]? = some y → p y = false) → (utk D l).filter p = l.filter p
  | [], [], _, _ => rfl
  | [], _ :: _, h, _ => by simp at h
  | _ :: _, [], h, _ => by simp at h
  | true :: D, y :: l, h, hp => by
    have h0 := hp 0 y rfl rfl
    have ih := utk_skip (p := p) (D := D) (l := l) (by simpa using h) fun j z h1 h2 => hp (j + 1) z (by simpa using h1) (by simpa using h2)
    show (utk D l).filter p = _
    rw [ih, List.filter_cons, h0]; rfl
  | false :: D, y :: l, h, hp => by
    have ih := utk_skip (p := p) (D := D) (l := l) (by simpa using h) fun j z h1 h2 => hp (j + 1) z (by simpa using h1) (by simpa using h2)
    show (y :: utk D l).filter p = _
    rw [List.filter_cons, List.filter_cons, ih]
theorem utk_more {κ : Type} {p : κ → Bool} : ∀ {D E : List Bool} {l : List κ}, D.length = l.length → E.length = l.length → (∀ (j : Nat) d y, D[j]? = some d → l[j]? = some y → E[j]? = some (d || p y)) → utk E l = (utk D l).filter fun x => !p x
  | [], [], [], _, _, _ => rfl
  | [], _, _ :: _, h, _, _ => by simp at h
  | _ :: _, _, [], h, _, _ => by simp at h
  | _, [], _ :: _, _, h, _ => by simp at h
  | _, _ :: _, [], _, h, _ => by simp at h
  | d :: D, e :: E, y :: l, h1, h2, hp => by
    have ih := utk_more (p := p) (D := D) (E := E) (l := l) (by simpa using h1) (by simpa using h2) fun j z w k1 k2 => by
      have := hp (j + 1) z w (by simpa using k1) (by simpa using k2)
      simpa using this
    have h0 := hp 0 d y rfl rfl
    simp only [List.getElem?_cons_zero, Option.some.injEq] at h0
    subst h0
    cases d <;> cases hpy : p y <;> simp [utk, ih, hpy]
noncomputable def dnL (m : Model) (V : List Int) (x : Int) (i k : Nat) (D : List Bool) : List Bool := D.mapIdx fun j d => d || (decide (i < j ∧ j < k) && swB m x (V.getD j 0))
section
variable {m : Model} {V : List Int} {x : Int} {i k : Nat} {D : List Bool}
theorem dn_len : (dnL m V x i k D).length = D.length := List.length_mapIdx
theorem dn_get {j : Nat} {d : Bool} (h : D[j]? = some d) : (dnL m V x i k D)[j]? = some (d || (decide (i < j ∧ j < k) && swB m x (V.getD j 0))) := by
  unfold dnL; rw [List.getElem?_mapIdx, h]; rfl
theorem dn_none {j : Nat} (h : D[j]? = none) : (dnL m V x i k D)[j]? = none := by
  unfold dnL; rw [List.getElem?_mapIdx, h]; rfl
theorem dn_start : dnL m V x i (i + 1) D = D := by
  apply List.ext_getElem?
  intro j
  cases h : D[j]? with
  | none => rw [dn_none h]
  | some d =>
    rw [dn_get h]
    have : decide (i < j ∧ j < i + 1) = false := decide_eq_false (by omega)
    rw [this]; simp
theorem dn_t {b : Int} (hb : V[k]? = some b) (hk : i < k) (hs : swB m x b = true) : dnL m V x i (k + 1) D = (dnL m V x i k D).set k true := by
  apply List.ext_getElem?
  intro j
  rw [List.getElem?_set]
  cases h : D[j]? with
  | none =>
    rw [dn_none h]
    split
    · rename_i e; subst e
      rw [if_neg]
      rw [dn_len]; have := List.getElem?_eq_none_iff.1 h; omega
    · rw [dn_none h]
  | some d =>
    rw [dn_get h]
    split
    · rename_i e; subst e
      rw [if_pos (by rw [dn_len]; exact (List.getElem?_eq_some_iff.1 h).1)]
      have e1 : decide (i < k ∧ k < k + 1) = true := decide_eq_true ⟨hk, by omega⟩
      have e2 : V.getD k 0 = b := by rw [List.getD_eq_getElem?_getD, hb]; rfl
      rw [e1, e2, hs]; simp
    · rename_i e
      rw [dn_get h]
      have e1 : decide (i < j ∧ j < k + 1) = decide (i < j ∧ j < k) := by
        congr 1; exact propext ⟨fun h => ⟨h.1, by omega⟩, fun h => ⟨h.1, by omega⟩⟩
      rw [e1]
theorem dn_f {b : Int} (hb : V[k]? = some b) (hs : swB m x b = false) : dnL m V x i (k + 1) D = dnL m V x i k D := by
  apply List.ext_getElem?
  intro j
  cases h : D[j]? with
  | none => rw [dn_none h, dn_none h]
  | some d =>
    rw [dn_get h, dn_get h]
    by_cases e : j = k
    · subst e
      have e2 : V.getD j 0 = b := by rw [List.getD_eq_getElem?_getD, hb]; rfl
      rw [e2, hs]; simp
    · have e1 : decide (i < j ∧ j < k + 1) = decide (i < j ∧ j < k) := by
        congr 1; exact propext ⟨fun h => ⟨h.1, by omega⟩, fun h => ⟨h.1, by omega⟩⟩
      rw [e1]
end
structure Rms (m : Model) (V : List Int) (i : Nat) (D : List Bool) (OUT : List (List Int)) : Prop where
  len : D.length = V.length
  out : OUT ++ setsF m (utk (D.drop i) (V.drop i)).length (utk (D.drop i) (V.drop i)) = setsF m V.length V
  many : OUT.length ≤ i
  done : ∀ k, i ≤ k → D[k]? = some true → ∃ (j : Nat) (y z : Int), j < i ∧ V[j]? = some y ∧ V[k]? = some z ∧ swB m y z = true ∧ ∀ (k' : Nat) (w : Int), j < k' → V[k']? = some w → swB m y w = true → D[k']? = some true
section
variable {m : Model} {V : List Int} {i : Nat} {D : List Bool} {OUT : List (List Int)}
theorem utk_all {κ : Type} : ∀ {l : List κ}, utk (List.replicate l.length false) l = l
  | [] => rfl
  | x :: l => by
    have ih := utk_all (l := l)
    show x :: utk (List.replicate l.length false) l = _
    rw [ih]
theorem Rms.start : Rms m V 0 (List.replicate V.length false) [] := by
  refine ⟨List.length_replicate, ?_, Nat.le_refl _, fun k _ h => ?_⟩
  · rw [List.drop_zero, List.drop_zero, utk_all, List.nil_append]
  · have := List.getElem?_replicate (n := V.length) (a := false) (i := k)
    rw [this] at h
    split at h <;> simp at h
theorem Rms.skip {x : Int} (h : Rms m V i D OUT) (hx : V[i]? = some x) (hd : D[i]? = some true) : Rms m V (i + 1) D OUT := by
  refine ⟨h.len, ?_, by have := h.many; omega, fun k hk hkd => ?_⟩
  · have := h.out
    rw [drop_at hx, drop_at hd] at this
    exact this
  · obtain ⟨j, y, z, h1, h2⟩ := h.done k (by omega) hkd
    exact ⟨j, y, z, by omega, h2⟩
theorem Rms.take {x : Int} (hz : sizedP m) (hg : goodP m) (hV : V.Pairwise fun a b => a < b) (h : Rms m V i D OUT) (hx : V[i]? = some x) (hd : D[i]? = some false) :
    Rms m V (i + 1) (dnL m V x i V.length D) (OUT ++ if (V.drop (i + 1)).filter (swB m x) = [] then [] else [x :: (V.drop (i + 1)).filter (swB m x)]) := by
  have hlt : ∀ {j k : Nat} {y z : Int}, j < k → V[j]? = some y → V[k]? = some z → y < z := fun {j k y z} hjk h1 h2 => by
    obtain ⟨a1, rfl⟩ := List.getElem?_eq_some_iff.1 h1
    obtain ⟨a2, rfl⟩ := List.getElem?_eq_some_iff.1 h2
    exact List.pairwise_iff_getElem.1 hV j k a1 a2 hjk
  have hlen : (D.drop (i + 1)).length = (V.drop (i + 1)).length := by rw [List.length_drop, List.length_drop, h.len]
  have e1 : (utk (D.drop (i + 1)) (V.drop (i + 1))).filter (swB m x) = (V.drop (i + 1)).filter (swB m x) := by
    refine utk_skip hlen fun j y hj hy => ?_
    rw [List.getElem?_drop] at hj hy
    obtain ⟨j', y', z', k1, k2, k3, k4, k5⟩ := h.done (i + 1 + j) (by omega) hj
    rw [hy] at k3; cases k3
    cases hs : swB m x y with
    | false => rfl
    | true =>
      exfalso
      have t1 : swapP m y' y := sw_iff.1 k4
      have t2 : swapP m x y := sw_iff.1 hs
      have l1 := hlt k1 k2 hx
      have l2 := hlt (by omega : i < i + 1 + j) hx hy
      have t3 := swap_trans hz hg (by omega) (by omega) (by omega) t1 t2
      have := k5 i x k1 hx (sw_iff.2 t3)
      rw [hd] at this; cases this
  have e2 : utk ((dnL m V x i V.length D).drop (i + 1)) (V.drop (i + 1)) = (utk (D.drop (i + 1)) (V.drop (i + 1))).filter fun b => !swB m x b := by
    refine utk_more hlen (by rw [List.length_drop, dn_len, List.length_drop, h.len]) fun j d y h1 h2 => ?_
    rw [List.getElem?_drop] at h1 h2 ⊢
    rw [dn_get h1]
    have a1 : decide (i < i + 1 + j ∧ i + 1 + j < V.length) = true := decide_eq_true ⟨by omega, (List.getElem?_eq_some_iff.1 h2).1⟩
    have a2 : V.getD (i + 1 + j) 0 = y := by rw [List.getD_eq_getElem?_getD, h2]; rfl
    rw [a1, a2]; simp
  refine ⟨by rw [dn_len, h.len], ?_, ?_, fun k hk hkd => ?_⟩
  · have ho := h.out
    rw [drop_at hx, drop_at hd] at ho
    have hu : utk (false :: D.drop (i + 1)) (x :: V.drop (i + 1)) = x :: utk (D.drop (i + 1)) (V.drop (i + 1)) := rfl
    rw [hu] at ho
    rw [e2, ← ho, ← e1]
    generalize utk (D.drop (i + 1)) (V.drop (i + 1)) = R
    rw [List.append_assoc]
    congr 1
    show _ = (if R.filter (swB m x) = [] then [] else [x :: R.filter (swB m x)]) ++ setsF m R.length (R.filter fun b => !swB m x b)
    rw [sets_fuel (n := R.length) (List.length_filter_le ..) (Nat.le_refl _)]
  · have := h.many
    split <;> simp <;> omega
  · obtain ⟨d, hdk⟩ := getE (show k < D.length by have := (List.getElem?_eq_some_iff.1 hkd).1; rw [dn_len] at this; exact this)
    obtain ⟨z, hz'⟩ := getE (show k < V.length by rw [← h.len]; exact (List.getElem?_eq_some_iff.1 hdk).1)
    rw [dn_get hdk] at hkd
    have hmono : ∀ k', D[k']? = some true → (dnL m V x i V.length D)[k']? = some true := fun k' hk' => by rw [dn_get hk']; rfl
    cases d with
    | true =>
      obtain ⟨j, y, z2, h1, h2, h3, h4, h5⟩ := h.done k (by omega) hdk
      exact ⟨j, y, z2, by omega, h2, h3, h4, fun k' w a1 a2 a3 => hmono k' (h5 k' w a1 a2 a3)⟩
    | false =>
      have a2 : V.getD k 0 = z := by rw [List.getD_eq_getElem?_getD, hz']; rfl
      rw [a2] at hkd
      simp at hkd
      refine ⟨i, x, z, by omega, hx, hz', hkd.2, fun k' w b1 b2 b3 => ?_⟩
      obtain ⟨d', hd'⟩ := getE (show k' < D.length by rw [h.len]; exact (List.getElem?_eq_some_iff.1 b2).1)
      have c2 : V.getD k' 0 = w := by rw [List.getD_eq_getElem?_getD, b2]; rfl
      have c1 : decide (i < k' ∧ k' < V.length) = true := decide_eq_true ⟨b1, (List.getElem?_eq_some_iff.1 b2).1⟩
      rw [dn_get hd', c1, c2, b3]; simp
theorem Rms.all (h : Rms m V V.length D OUT) : OUT = setsF m V.length V := by
  have := h.out
  rw [List.drop_length, List.drop_of_length_le (by rw [h.len]; exact Nat.le_refl _)] at this
  have e : utk ([] : List Bool) ([] : List Int) = [] := rfl
  rw [e, sets_zero, List.append_nil] at this
  exact this
end
end Go.Proofs.YtihpjcmloecaaaaGreat.Cw
/-
  Symmetry: Rooms by the reference.
-/
namespace Go.Proofs.YtihpjcmloecaaaaGreat.Cw
open Go Go.Cw Go.Proofs
set_option linter.unusedVariables false
set_option maxRecDepth 100000
set_option maxHeartbeats 8000000
theorem sub_next {V : List Int} {i k : Nat} {b : Int} (hb : V[k]? = some b) (hk : i < k) : (V.take (k + 1)).drop (i + 1) = (V.take k).drop (i + 1) ++ [b] := by
  have hkl := (List.getElem?_eq_some_iff.1 hb).1
  rw [tk_snoc hb, List.drop_append_of_le_length (by rw [List.length_take]; omega)]
theorem c_rRooms0 (m : Model) (hl : Laid m) : PCall Tryz.prog 17 [ag m.cells] (fun r => Leq r (.pv (.sl 1 ((setsV m).map lstRow)))) := by
  have hv := c_rvalid m hl
  by_cases hok : modelE m = 0
  · have hz := model_sized hok
    have hg := model_good hok
    have hus := c_used m hz
    have hVl := rooms_len hz
    have hVs := rooms_spec m
    have e : setsV m = setsF m (roomsV m).length (roomsV m) := if_pos hok
    have hst := Rms.start (m := m) (V := roomsV m)
    rw [e]
    rw [hok] at hv
    generalize roomsV m = V at *
    have hex : ∀ {i k : Nat} {x b : Int}, i < k → V[i]? = some x → V[k]? = some b → pB (exP m x b) = swB m x b := fun {i k x b} hik hx hb => by
      have h1 := ((hVs.1 x).1 (List.mem_of_getElem? hx)).1
      have h2 := ((hVs.1 b).1 (List.mem_of_getElem? hb)).1
      obtain ⟨a1, a2⟩ := List.getElem?_eq_some_iff.1 hx
      obtain ⟨b1, b2⟩ := List.getElem?_eq_some_iff.1 hb
      have h3 := List.pairwise_iff_getElem.1 hVs.2 i k a1 b1 hik
      rw [a2, b2] at h3
      exact pB_iff ⟨fun h => h.2.2.2.2, fun h => ⟨hok, by omega, h1, h2, h⟩⟩
    refine acall_of tok mixed 74 rfl (fn := Tryz.f17) (c := Tryz.f17.body.getD .skip) (by kernel_rfl) (by kernel_rfl) (by kernel_rfl) rfl 0 rfl ?_
    repeat' (first | ((change vcFun _ _ _ _ _; refine call_frz rfl (by repeat' (first | trivial | refine And.intro ?_ ?_ | (show 0 + _ ≤ List.length _; simp))) ALeL.refl hus ?_; rintro _ rfl)) | (refine ⟨V.length, V.length, rfl, rfl, Nat.le_refl _, (by omega), (by omega), ?_⟩) | (refine eqv_to ((List.replicate V.length false).map boolRow) (by rw [List.map_replicate]; rfl) ?_) | refine o1 ?_ | refine o2 ?_ | refine k1 ?_ | refine k2 ?_ | refine k3 ?_ | refine k4 ?_ | refine k6 ?_ | refine And.intro ?_ ?_ | (intro h; first | exact Bool.noConfusion h | exact nz _ h | exact nl h | (simp at h; done) | (simp at h; first | (exfalso; omega) | skip) | skip) | exact (by kernel_rfl : drawOk _ _ = true) | refine eqv_len_map ?_ | (change vcFun _ _ _ _ _; refine call_eq rfl (by repeat' (first | trivial | refine And.intro ?_ ?_ | (show 0 + _ ≤ List.length _; simp))) ALeL.refl (hv) rfl ?_) | fail)
    refine loop_for (fun x : Nat × List Bool × List (List Int) => [(1, .ptr 0 4 0 0), (3, .pv (.sl 1 (V.map intRow))), (4, .ms 1 1 0 V.length), (5, slP 2 1 (x.2.2.map lstRow)), (6, vint .i64 x.1)])
      (fun x => [some ⟨29, 4, false, .box (pvs m.cells)⟩, some ⟨4, 1, false, .p (x.2.1.map boolRow)⟩, obP 22 1 (x.2.2.map lstRow)])
      (fun x => x.1 ≤ V.length ∧ Rms m V x.1 x.2.1 x.2.2) (fun x => V.length - x.1) (0, List.replicate V.length false, []) ⟨Nat.zero_le _, hst⟩ ?_ ?_
    · exact back [0, 1, 2] rfl rfl (by repeat' (first | exact trivial | exact rfl | refine And.intro ?_ ?_)) (by repeat' (first | exact trivial | exact rfl | refine And.intro ?_ ?_))
    rintro ⟨i, D, OUT⟩ ⟨hi, hR⟩
    dsimp only at hi hR ⊢
    have hDl := hR.len
    have hOl : OUT.length ≤ 576 := by have := hR.many; omega
    rcases Nat.lt_or_ge i V.length with hlt | hge
    · obtain ⟨x, hx⟩ := getE hlt
      obtain ⟨d, hd⟩ := getE (show i < D.length by omega)
      have hdr : (D.map boolRow)[i]? = some (boolRow d) := at_map hd
      cases d with
      | true =>
        have hsk := hR.skip hx hd
        repeat' (first | (refine fh_ob ?_) | (refine idx_ms i rfl hlt ?_) | (refine ⟨_, hdr, ?_⟩) | refine o1 ?_ | refine o2 ?_ | refine k1 ?_ | refine k2 ?_ | refine k3 ?_ | refine k4 ?_ | refine k6 ?_ | refine k8 ?_ | refine And.intro ?_ ?_ | (intro h; first | exact Bool.noConfusion h | exact nz _ h | exact nl h | (simp at h; done) | (simp at h; first | (exfalso; omega) | skip) | skip) | refine eqv_len_map ?_ | refine eqv_zero ?_ | refine eqv_wrap (by omega) (by omega) ?_ | fail)
        all_goals first
          | exact ⟨(i + 1, D, OUT), ⟨by dsimp only; omega, hsk⟩, by dsimp only; omega, back [0, 1, 2] rfl rfl (by repeat' (first | exact trivial | exact rfl | refine kept_ob rfl ?_ | refine And.intro ?_ ?_)) (by repeat' (first | exact trivial | exact rfl | exact ren_get rfl | refine And.intro ?_ ?_))⟩
      | false =>
        have htk := hR.take hz hg hVs.2 hx hd
        repeat' (first | (refine fh_ob ?_) | (refine idx_ms i rfl hlt ?_) | (refine ⟨_, hdr, ?_⟩) | (refine idx_sl (k := i) (at_map hx) rfl ?_) | refine o1 ?_ | refine o2 ?_ | refine k1 ?_ | refine k2 ?_ | refine k3 ?_ | refine k4 ?_ | refine k6 ?_ | refine And.intro ?_ ?_ | (intro h; first | exact Bool.noConfusion h | exact nz _ h | exact nl h | (simp at h; done) | (simp at h; first | (exfalso; omega) | skip) | skip) | refine eqv_len_map ?_ | refine eqv_zero ?_ | refine eqv_wrap (by omega) (by omega) ?_ | fail)
        refine loop_for (fun k : Nat => [(1, .ptr 0 4 0 0), (3, .pv (.sl 1 (V.map intRow))), (4, .ms 1 1 0 V.length), (5, slP 2 1 (OUT.map lstRow)), (6, vint .i64 i), (7, .ms 3 1 0 ((((V.take k).drop (i + 1)).filter (swB m x)).length + 1)), (8, vint .i64 k)])
          (fun k => [some ⟨29, 4, false, .box (pvs m.cells)⟩, some ⟨4, 1, false, .p ((dnL m V x i k D).map boolRow)⟩, obP 22 1 (OUT.map lstRow), some ⟨3, 1, false, .p ((x :: ((V.take k).drop (i + 1)).filter (swB m x)).map intRow)⟩])
          (fun k => i + 1 ≤ k ∧ k ≤ V.length) (fun k => V.length - k) (i + 1) ⟨Nat.le_refl _, hlt⟩ ?_ ?_
        · rw [dn_start, show (V.take (i + 1)).drop (i + 1) = [] from List.drop_of_length_le (by rw [List.length_take]; omega)]
          exact back [0, 1, 2, 3] rfl rfl (by repeat' (first | exact trivial | exact rfl | refine kept_ob rfl ?_ | refine And.intro ?_ ?_)) (by repeat' (first | exact trivial | exact rfl | exact ren_get rfl | refine And.intro ?_ ?_))
        intro k ⟨hk1, hk2⟩
        rcases Nat.lt_or_ge k V.length with hkl | hkg
        · obtain ⟨b, hb⟩ := getE hkl
          have hsw := c_rSwap m x b hl
          rw [hex (by omega) hx hb] at hsw
          have hF := sub_next hb (by omega : i < k)
          have hFl : (((V.take k).drop (i + 1)).filter (swB m x)).length ≤ 576 := by
            have h1 := List.length_filter_le (swB m x) ((V.take k).drop (i + 1))
            rw [List.length_drop, List.length_take] at h1; omega
          have hDk : (dnL m V x i k D).length = V.length := by rw [dn_len]; exact hDl
          cases hs : swB m x b with
          | true =>
            have hdn := dn_t (D := D) hb (by omega : i < k) hs
            rw [hs] at hsw
            have hF1 : ((V.take (k + 1)).drop (i + 1)).filter (swB m x) = ((V.take k).drop (i + 1)).filter (swB m x) ++ [b] := by rw [hF, List.filter_append]; simp [hs]
            generalize ((V.take k).drop (i + 1)).filter (swB m x) = F at *
            generalize dnL m V x i k D = DK at *
            obtain ⟨t, ht⟩ := getE (show k < DK.length by omega)
            have htr : (DK.map boolRow)[k]? = some (boolRow t) := at_map ht
            have hsr : (DK.map boolRow).set k [.val (.bool true)] = (DK.set k true).map boolRow := by rw [List.map_set]; rfl
            repeat' (first | (refine fh_ob ?_) | (refine idx_sl (k := i) (at_map hx) rfl ?_) | (refine idx_sl (k := k) (at_map hb) rfl ?_) | ((change vcFunD _ _ _ _ _; refine callD_eq rfl (by repeat' (first | trivial | refine And.intro ?_ ?_ | (show 0 + _ ≤ List.length _; simp))) ALeL.refl hsw rfl ?_)) | (refine idx_ms k rfl hkl ?_) | (refine ⟨_, htr, ?_⟩) | (refine eqv_to _ hsr ?_) | ((show rowsLen _ * _ ≤ _; simp [rowsLen] at *; omega)) | ((show rowsLen _ ≤ _; simp [rowsLen] at *; omega)) | refine o1 ?_ | refine o2 ?_ | refine k1 ?_ | refine k2 ?_ | refine k3 ?_ | refine k4 ?_ | refine k6 ?_ | refine And.intro ?_ ?_ | refine o3 ?_ | refine o4 ?_ | (intro h; first | exact Bool.noConfusion h | exact nz _ h | exact nl h | (simp at h; done) | (simp at h; first | (exfalso; omega) | skip) | skip) | (refine (?_ : srcLen _ = rowsLen _); rfl) | exact Nat.le_of_ble_eq_true rfl | exact (by kernel_rfl : drawOk _ _ = true) | refine eqv_len_map ?_ | refine eqv_zero ?_ | refine eqv_wrap (by omega) (by omega) ?_ | (refine (?_ : _ = rowsLen _); simp [rowsLen] <;> omega) | refine eqv_to _ (app_row rfl) (eqv_to _ app_len ?_) | fail)
            refine ⟨k + 1, ⟨by omega, by omega⟩, by omega, ?_⟩
            rw [hdn, hF1]
            exact back [0, 1, 2, 5] rfl rfl (by repeat' (first | exact trivial | exact rfl | refine kept_ob rfl ?_ | refine And.intro ?_ ?_)) (by repeat' (first | exact trivial | exact rfl | exact ren_get rfl | refine And.intro ?_ ?_))
          | false =>
            have hdn := dn_f (D := D) (i := i) hb hs
            rw [hs] at hsw
            have hF1 : ((V.take (k + 1)).drop (i + 1)).filter (swB m x) = ((V.take k).drop (i + 1)).filter (swB m x) := by rw [hF, List.filter_append]; simp [hs]
            repeat' (first | (refine fh_ob ?_) | (refine idx_sl (k := i) (at_map hx) rfl ?_) | (refine idx_sl (k := k) (at_map hb) rfl ?_) | ((change vcFunD _ _ _ _ _; refine callD_eq rfl (by repeat' (first | trivial | refine And.intro ?_ ?_ | (show 0 + _ ≤ List.length _; simp))) ALeL.refl hsw rfl ?_)) | refine o1 ?_ | refine o2 ?_ | refine k1 ?_ | refine k2 ?_ | refine k3 ?_ | refine k4 ?_ | refine k6 ?_ | refine And.intro ?_ ?_ | refine o3 ?_ | refine o4 ?_ | (intro h; first | exact Bool.noConfusion h | exact nz _ h | exact nl h | (simp at h; done) | (simp at h; first | (exfalso; omega) | skip) | skip) | exact (by kernel_rfl : drawOk _ _ = true) | refine eqv_len_map ?_ | refine eqv_wrap (by omega) (by omega) ?_ | fail)
            all_goals first
              | (refine ⟨k + 1, ⟨by omega, by omega⟩, by omega, ?_⟩
                 rw [hdn, hF1]
                 exact back [0, 1, 2, 3] rfl rfl (by repeat' (first | exact trivial | exact rfl | refine kept_ob rfl ?_ | refine And.intro ?_ ?_)) (by repeat' (first | exact trivial | exact rfl | exact ren_get rfl | refine And.intro ?_ ?_)))
        · obtain rfl : k = V.length := by omega
          rw [List.take_length]
          generalize (V.drop (i + 1)).filter (swB m x) = F at *
          generalize dnL m V x i V.length D = DK at *
          refine forceH_in ?_
          refine ghost_seq (Γ' := [(1, .ptr 0 4 0 0), (3, .pv (.sl 1 (V.map intRow))), (4, .ms 1 1 0 V.length), (5, slP 2 1 (OUT.map lstRow)), (6, vint .i64 i), (7, .pv (.sl 1 ((x :: F).map intRow))), (8, vint .i64 V.length)]) (H' := [some ⟨29, 4, false, .box (pvs m.cells)⟩, some ⟨4, 1, false, .p (DK.map boolRow)⟩, obP 22 1 (OUT.map lstRow)]) (Ghost.trans (Ghost.freeze (s := 7) rfl rfl (by repeat' (first | (show 0 + _ ≤ List.length _; simp)))) (Ghost.trans (Ghost.weak (s := 7) rfl (ALe.pv (whole_le (f := intRow) (l := x :: F) (Nat.le_refl _)))) (back [0, 1, 2] rfl rfl (by repeat' (first | exact trivial | exact rfl | refine kept_ob rfl ?_ | refine And.intro ?_ ?_)) (by repeat' (first | exact trivial | exact rfl | exact ren_get rfl | refine And.intro ?_ ?_))))) ?_
          rcases F with _ | ⟨a, F⟩
          · repeat' (first | refine o1 ?_ | refine o2 ?_ | refine k1 ?_ | refine k2 ?_ | refine k3 ?_ | refine k6 ?_ | refine k8 ?_ | refine And.intro ?_ ?_ | (intro h; first | exact Bool.noConfusion h | exact nz _ h | exact nl h | (simp at h; done) | (simp at h; first | (exfalso; omega) | skip) | skip) | refine eqv_len_map ?_ | refine eqv_wrap (by omega) (by omega) ?_ | fail)
            all_goals first
              | (exfalso; omega)
              | exact ⟨(i + 1, DK, OUT), ⟨by dsimp only; omega, by simpa using htk⟩, by dsimp only; omega, back [0, 1, 2] rfl rfl (by repeat' (first | exact trivial | exact rfl | refine kept_ob rfl ?_ | refine And.intro ?_ ?_)) (by repeat' (first | exact trivial | exact rfl | exact ren_get rfl | refine And.intro ?_ ?_))⟩
          · repeat' (first | (refine fv_sl ?_) | (refine fh_ob ?_) | ((refine o_app rfl rfl rfl rfl rfl rfl rfl rfl rfl rfl rfl (by rw [List.length_map]; omega) (by rw [List.length_map]; omega) ?_)) | refine o1 ?_ | refine o2 ?_ | refine k1 ?_ | refine k2 ?_ | refine k3 ?_ | refine k8 ?_ | refine And.intro ?_ ?_ | (intro h; first | exact Bool.noConfusion h | exact nz _ h | exact nl h | (simp at h; done) | (simp at h; first | (exfalso; omega) | skip) | skip) | refine eqv_len_map ?_ | refine eqv_wrap (by omega) (by omega) ?_ | fail)
            all_goals first
              | (exfalso; omega)
              | (refine ⟨(i + 1, DK, OUT ++ [x :: a :: F]), ⟨by dsimp only; omega, by simpa using htk⟩, by dsimp only; omega, ?_⟩
                 dsimp only
                 rw [map_snoc, sl_app, ob_app]
                 exact back [0, 1, 4] rfl rfl (by repeat' (first | exact trivial | exact rfl | refine And.intro ?_ ?_)) (by repeat' (first | exact trivial | exact rfl | refine And.intro ?_ ?_)))
    · obtain rfl : i = V.length := by omega
      rw [← hR.all]
      repeat' (first | (refine fv_sl ?_) | (refine fh_ob ?_) | refine o1 ?_ | refine o2 ?_ | refine k1 ?_ | refine k2 ?_ | refine k3 ?_ | refine k7 ?_ | refine k8 ?_ | refine And.intro ?_ ?_ | (intro h; first | exact Bool.noConfusion h | exact nz _ h | exact nl h | (simp at h; done) | (simp at h; first | (exfalso; omega) | skip) | skip) | refine eqv_len_map ?_ | fail)
      exact ret_sl rfl ⟨ALe.refl⟩ leq_down
  · have e : setsV m = [] := if_neg hok
    rw [e]
    generalize modelE m = E at hv hok
    refine acall_of tok mixed 74 rfl (fn := Tryz.f17) (c := Tryz.f17.body.getD .skip) (by kernel_rfl) (by kernel_rfl) (by kernel_rfl) rfl 0 rfl ?_
    repeat' (first | refine o1 ?_ | refine o2 ?_ | refine k1 ?_ | refine k2 ?_ | refine k3 ?_ | refine k7 ?_ | refine And.intro ?_ ?_ | (intro h; first | exact Bool.noConfusion h | exact nz _ h | exact nl h | (simp at h; done) | (simp at h; first | (exfalso; omega) | skip) | skip) | (change retOk _ _ _ _; refine ret_pure rfl trivial ?_) | (change vcFun _ _ _ _ _; refine call_eq rfl (by repeat' (first | trivial | refine And.intro ?_ ?_ | (show 0 + _ ≤ List.length _; simp))) ALeL.refl (hv) rfl ?_) | fail)
    all_goals first
      | (exfalso; omega)
      | exact ⟨ALe.pv PLe.nil⟩
theorem c_rRooms (m : Model) (hl : Laid m) : PCall Tryz.prog 17 [ag m.cells] (fun r => r = .pv (.sl 1 ((setsV m).map lstRow))) := (c_rRooms0 m hl).weak fun r k => ⟨_, k.le, rfl⟩
end Go.Proofs.YtihpjcmloecaaaaGreat.Cw
/-
  Symmetry: equal lists of lists.
-/
namespace Go.Proofs.YtihpjcmloecaaaaGreat.Cw
open Go Go.Cw Go.Proofs
set_option linter.unusedVariables false
set_option maxRecDepth 100000
set_option maxHeartbeats 8000000
theorem c_sameIntsR (l : List Int) (hl : l.length ≤ 100000) : PCall Tryz.prog 21 [.pv (.sl 1 (l.map intRow)), .pv (.sl 1 (l.map intRow))] (fun r => r = vbool true) := c_sameInts l hl
theorem c_sameLists (V : List (List Int)) (hV : V.length ≤ 100000) (hl : ∀ l ∈ V, l.length ≤ 100000) : PCall Tryz.prog 15 [.pv (.sl 1 (V.map lstRow)), .pv (.sl 1 (V.map lstRow))] (fun r => r = vbool true) := by
  refine acall_of tok mixed 27 rfl (fn := Tryz.f15) (c := Tryz.f15.body.getD .skip) (by kernel_rfl) (by kernel_rfl) (by kernel_rfl) rfl 0 rfl ?_
  repeat' (first | refine o1 ?_ | refine o2 ?_ | refine k1 ?_ | refine k2 ?_ | refine k3 ?_ | refine k4 ?_ | refine k6 ?_ | refine And.intro ?_ ?_ | (intro h; first | exact Bool.noConfusion h | exact nz _ h | exact nl h | (simp at h; done) | (simp at h; first | (exfalso; omega) | skip) | skip) | refine eqv_len_map ?_ | fail)
  refine loop_at (fun i : Nat => [(5, vint .i64 i)]) (fun _ => []) (fun i => i ≤ V.length) (fun i => V.length - i) 0 (Nat.zero_le _) (by repeat' (first | exact trivial | exact ⟨_, rfl, ALe.refl⟩ | refine And.intro ?_ ?_)) (by repeat' (first | exact trivial)) ?_
  intro i hi
  rcases Nat.lt_or_ge i V.length with hlt | hge
  · obtain ⟨x, hx⟩ := getE hlt
    have hs := c_sameIntsR x (hl x (List.mem_of_getElem? hx))
    repeat' (first | (refine idx_sl (k := i) (at_map hx) (by omega) ?_) | refine o1 ?_ | refine o2 ?_ | refine k1 ?_ | refine k2 ?_ | refine k3 ?_ | refine k4 ?_ | refine k6 ?_ | refine And.intro ?_ ?_ | refine o3 ?_ | refine o4 ?_ | (intro h; first | exact Bool.noConfusion h | exact nz _ h | exact nl h | (simp at h; done) | (simp at h; first | (exfalso; omega) | skip) | skip) | exact (by kernel_rfl : drawOk _ _ = true) | refine eqv_len_map ?_ | refine eqv_wrap (by omega) (by omega) ?_ | (change vcFunD _ _ _ _ _; refine callD_eq rfl (by repeat' (first | trivial | refine And.intro ?_ ?_ | (show 0 + _ ≤ List.length _; simp))) ALeL.refl (hs) rfl ?_) | fail)
    exact ⟨i + 1, by omega, by omega, back [] rfl rfl trivial (by repeat' (first | exact trivial | exact rfl | refine And.intro ?_ ?_))⟩
  · repeat' (first | refine o1 ?_ | refine o2 ?_ | refine k1 ?_ | refine k2 ?_ | refine k3 ?_ | refine k7 ?_ | refine k8 ?_ | refine And.intro ?_ ?_ | (intro h; first | exact Bool.noConfusion h | exact nz _ h | exact nl h | (simp at h; done) | (simp at h; first | (exfalso; omega) | skip) | skip) | (change retOk _ _ _ _; refine ret_pure rfl trivial ?_) | refine eqv_len_map ?_ | fail)
    rfl
theorem nats_row {V : List (List Nat)} : V.map natsRow = (V.map fun v => v.map fun n : Nat => (n : Int)).map lstRow := by
  rw [List.map_map]
  refine List.map_congr_left fun v _ => ?_
  show [PV.sl 1 (v.map natRow)] = [PV.sl 1 ((v.map fun n : Nat => (n : Int)).map intRow)]
  rw [List.map_map]; rfl
theorem c_sameNats (V : List (List Nat)) (hV : V.length ≤ 100000) (hl : ∀ l ∈ V, l.length ≤ 100000) : PCall Tryz.prog 15 [.pv (.sl 1 (V.map natsRow)), .pv (.sl 1 (V.map natsRow))] (fun r => r = vbool true) := by
  rw [nats_row]
  exact c_sameLists _ (by rw [List.length_map]; exact hV) fun l hl' => by
    obtain ⟨v, hv, rfl⟩ := List.mem_map.1 hl'
    rw [List.length_map]; exact hl v hv
theorem exV_len {m : Model} {a b : Int} : (exV m a b).length ≤ 24 ∧ ∀ l ∈ exV m a b, l.length ≤ 24 := by
  unfold exV
  split
  · rename_i h
    have h : exP m a b := by simpa using h
    have hz := model_sized h.1
    refine ⟨by unfold imgsAll; rw [List.length_map]; exact hz.1, fun l hl => ?_⟩
    obtain ⟨x, hx, rfl⟩ := List.mem_map.1 hl
    have h1 := hz.2.1 x hx
    have h2 := imgs_len (l := x) (a := a) (b := b) (n := x.length)
    omega
  · exact ⟨by simp, by simp⟩
theorem setsF_len {m : Model} : ∀ {n : Nat} {l : List Int}, (setsF m n l).length ≤ l.length ∧ ∀ s ∈ setsF m n l, s.length ≤ l.length
  | 0, l => ⟨Nat.zero_le _, by simp [setsF]⟩
  | n + 1, [] => ⟨Nat.zero_le _, by simp [setsF]⟩
  | n + 1, x :: l => by
    obtain ⟨h1, h2⟩ := setsF_len (m := m) (n := n) (l := l.filter fun b => !swB m x b)
    have h3 := List.length_filter_le (fun b => !swB m x b) l
    have h4 := List.length_filter_le (swB m x) l
    unfold setsF
    split
    · rw [List.nil_append]
      refine ⟨by simp only [List.length_cons]; omega, fun s hs => ?_⟩
      have := h2 s hs
      simp only [List.length_cons]; omega
    · refine ⟨by simp only [List.length_append, List.length_cons, List.length_nil]; omega, fun s hs => ?_⟩
      rcases List.mem_append.1 hs with hs | hs
      · simp at hs; subst hs; simp only [List.length_cons]; omega
      · have := h2 s hs
        simp only [List.length_cons]; omega
theorem setsV_len {m : Model} : (setsV m).length ≤ 576 ∧ ∀ s ∈ setsV m, s.length ≤ 576 := by
  unfold setsV
  split
  · rename_i h
    have h1 := rooms_len (model_sized h)
    obtain ⟨h2, h3⟩ := setsF_len (m := m) (n := (roomsV m).length) (l := roomsV m)
    exact ⟨by omega, fun s hs => by have := h3 s hs; omega⟩
  · exact ⟨by simp, by simp⟩
end Go.Proofs.YtihpjcmloecaaaaGreat.Cw
/-
  Symmetry: the law on exchanges.
-/
namespace Go.Proofs.YtihpjcmloecaaaaGreat.Cw
open Go Go.Cw Go.Proofs
set_option linter.unusedVariables false
set_option maxRecDepth 100000
set_option maxHeartbeats 8000000
theorem call_model {t : List Int} {k : Nat} {H : Heap} {K : AV → Heap → Prop} (i : Nat) (hi : H[i]? = some (dice t k)) (ht : t.length ≤ 400) (hk : k ≤ t.length)
    (hK : ∀ (m : Model) kc, kc ≤ t.length → Laid m → K (ag m.cells) (H.set i (dice t kc))) : vcFun Tryz.prog 11 [.ptr i 2 0 0] H K := by
  refine call_one (i := i) hi (fun _ _ => rfl) [.ptr 0 2 0 0] rfl (c_model t k ht hk) ?_
  rintro r H' ⟨m, k', h1, h2, rfl, rfl⟩
  exact ⟨_, rfl, fun _ _ => rfl, fun _ _ => rfl, hK m k' h1 h2⟩
def abRow (p : Int × Int) : List PV := [ei p.1, ei p.2]
theorem c_swaps (hA : PCall Tryz.prog 10 [] (fun r => r = vbool true)) (t : List Int) (a b : Int) : PCall Tryz.prog 3 [.pv (encInts t), vint .i64 a, vint .i64 b] (fun r => r = vbool true) := by
  refine acall_of tok mixed 72 rfl (fn := Tryz.f3) (c := Tryz.f3.body.getD .skip) (by kernel_rfl) (by kernel_rfl) (by kernel_rfl) rfl 0 rfl ?_
  repeat' (first | ((change vcFun _ _ _ _ _; refine call_new [.pv (encInts t)] rfl (c_roll t) (fun _ _ => rfl) ?_)) | ((change vcFun _ _ _ _ _; refine call_model 1 rfl (by assumption) (Nat.zero_le _) ?_; intro m kc hkc hm)) | (refine eqv_to (bits BinOp.and IntKind.i64 a 3) rfl ?_) | (refine eqv_to (bits BinOp.and IntKind.i64 b 3) rfl ?_) | refine o1 ?_ | refine o2 ?_ | refine k1 ?_ | refine k2 ?_ | refine k3 ?_ | refine k4 ?_ | refine k6 ?_ | refine k7 ?_ | refine And.intro ?_ ?_ | (intro h; first | exact Bool.noConfusion h | exact nz _ h | exact nl h | (simp at h; done) | (simp at h; first | (exfalso; omega) | skip) | skip) | (change retOk _ _ _ _; refine ret_pure rfl trivial ?_) | exact (by kernel_rfl : drawOk _ _ = true) | (change vcFun _ _ _ _ _; refine call_eq rfl (by repeat' (first | trivial | refine And.intro ?_ ?_ | (show 0 + _ ≤ List.length _; simp))) ALeL.refl (c_light t) rfl ?_) | (change vcFun _ _ _ _ _; refine call_eq rfl (by repeat' (first | trivial | refine And.intro ?_ ?_ | (show 0 + _ ≤ List.length _; simp))) ALeL.refl (hA) rfl ?_) | fail)
  · rfl
  generalize bits BinOp.and IntKind.i64 a 3 = a3
  generalize bits BinOp.and IntKind.i64 b 3 = b3
  obtain ⟨XS, hXl, hXS⟩ : ∃ XS : List (Int × Int), XS.length = 3 ∧ XS.map abRow = [[ei a, ei b], [ei a3, ei b3], [ei 0, ei 1]] := ⟨[(a, b), (a3, b3), (0, 1)], rfl, rfl⟩
  refine loop_for (fun k : Nat => [(7, .ptr 0 4 0 0), (30, .ms 2 2 0 3), (31, vint .i64 3), (32, vint .i64 k)]) (fun k => [some ⟨29, 4, false, .box [.pv (.sl 1 (m.classes.map optsRow)), .pv (.sl 4 (m.pairs.map Pair.row)), .pv (.sl 4 (m.counts.map Count.row)), .pv (ei m.rules)]⟩, none, some ⟨33, 2, false, .p (XS.map abRow)⟩])
    (fun k => k ≤ 3) (fun k => 3 - k) 0 (Nat.zero_le _) ?_ ?_
  · rw [hXS]
    exact back [0, 1, 2] rfl rfl (by repeat' (first | exact trivial | exact rfl | refine And.intro ?_ ?_)) (by repeat' (first | exact trivial | exact rfl | refine And.intro ?_ ?_))
  intro k hk
  rcases Nat.lt_or_ge k 3 with hlt | hge
  · obtain ⟨p, hp⟩ := getE (l := XS) (i := k) (by omega)
    have hS := c_Swap m p.1 p.2 hm
    have hR := c_rSwap m p.1 p.2 hm
    have hL := c_sameNats (exV m p.1 p.2) (by have := (exV_len (m := m) (a := p.1) (b := p.2)).1; omega) (fun l hl => by have := (exV_len (m := m) (a := p.1) (b := p.2)).2 l hl; omega)
    generalize pB (exP m p.1 p.2) = bb at *
    generalize exV m p.1 p.2 = EV at *
    repeat' (first | ((change vcFun _ _ _ _ _; refine call_frz rfl (by repeat' (first | trivial | refine And.intro ?_ ?_ | (show 0 + _ ≤ List.length _; simp))) ALeL.refl hS ?_; rintro _ rfl)) | ((change vcFun _ _ _ _ _; refine call_frz rfl (by repeat' (first | trivial | refine And.intro ?_ ?_ | (show 0 + _ ≤ List.length _; simp))) ALeL.refl hR ?_; rintro _ rfl)) | (refine ⟨0, rfl, (by decide), ?_⟩) | (refine ⟨1, rfl, (by decide), ?_⟩) | refine o1 ?_ | refine o2 ?_ | refine k1 ?_ | refine k2 ?_ | refine k3 ?_ | refine k4 ?_ | refine k6 ?_ | refine And.intro ?_ ?_ | (intro h; first | exact Bool.noConfusion h | exact nz _ h | exact nl h | (simp at h; done) | (simp at h; first | (exfalso; omega) | skip) | skip) | exact (by kernel_rfl : drawOk _ _ = true) | refine eqv_zero ?_ | refine eqv_wrap (by omega) (by omega) ?_ | refine ⟨_, at_map (by assumption), ?_⟩ | refine idx_ms _ (by first | rfl | assumption) (by first | assumption | omega) ?_ | (change vcFun _ _ _ _ _; refine call_eq rfl (by repeat' (first | trivial | refine And.intro ?_ ?_ | (show 0 + _ ≤ List.length _; simp))) ALeL.refl (hL) rfl ?_) | fail)
    exact ⟨k + 1, by omega, by omega, back [0, 1, 2] rfl rfl (by repeat' (first | exact trivial | exact rfl | refine And.intro ?_ ?_)) (by repeat' (first | exact trivial | exact rfl | refine And.intro ?_ ?_))⟩
  · obtain rfl : k = 3 := by omega
    have hM := c_Rooms m hm
    have hR := c_rRooms m hm
    have hL := c_sameLists (setsV m) (by have := (setsV_len (m := m)).1; omega) (fun l hl => by have := (setsV_len (m := m)).2 l hl; omega)
    repeat' (first | refine o1 ?_ | refine o2 ?_ | refine k1 ?_ | refine k2 ?_ | refine k3 ?_ | refine k7 ?_ | refine k8 ?_ | refine And.intro ?_ ?_ | refine o3 ?_ | refine o4 ?_ | (intro h; first | exact Bool.noConfusion h | exact nz _ h | exact nl h | (simp at h; done) | (simp at h; first | (exfalso; omega) | skip) | skip) | (change retOk _ _ _ _; refine ret_pure rfl trivial ?_) | exact (by kernel_rfl : drawOk _ _ = true) | (change vcFunD _ _ _ _ _; refine callD_eq rfl (by repeat' (first | trivial | refine And.intro ?_ ?_ | (show 0 + _ ≤ List.length _; simp))) ALeL.refl (hA) rfl ?_) | (change vcFunD _ _ _ _ _; refine callD_eq rfl (by repeat' (first | trivial | refine And.intro ?_ ?_ | (show 0 + _ ≤ List.length _; simp))) ALeL.refl (hM) rfl ?_) | (change vcFunD _ _ _ _ _; refine callD_eq rfl (by repeat' (first | trivial | refine And.intro ?_ ?_ | (show 0 + _ ≤ List.length _; simp))) ALeL.refl (hR) rfl ?_) | (change vcFunD _ _ _ _ _; refine callD_eq rfl (by repeat' (first | trivial | refine And.intro ?_ ?_ | (show 0 + _ ≤ List.length _; simp))) ALeL.refl (hL) rfl ?_) | fail)
    rfl
end Go.Proofs.YtihpjcmloecaaaaGreat.Cw
/-
  Symmetry: sets of rooms, and plans (program's side).
-/
namespace Go.Proofs.YtihpjcmloecaaaaGreat.Cw
open Go Go.Cw Go.Proofs
set_option linter.unusedVariables false
set_option maxRecDepth 100000
set_option maxHeartbeats 8000000
noncomputable def setF (S : List (List Int)) (r : Int) : List Int := (S.find? fun s => pB (r ∈ s)).getD []
theorem find_take_none {α : Type} {f : α → Bool} {l : List α} {i : Nat} {x : α} (h : ∀ j, j < i → ∀ y, l[j]? = some y → f y = false) (hx : l[i]? = some x) (hf : f x = true) : l.find? f = some x := by
  induction l generalizing i with
  | nil => simp at hx
  | cons a l ih =>
    cases i with
    | zero => simp at hx; subst hx; rw [List.find?_cons, hf]
    | succ i =>
      rw [List.find?_cons, h 0 (by omega) a rfl]
      exact ih (i := i) (fun j hj y hy => h (j + 1) (Nat.succ_lt_succ hj) y (by simpa using hy)) (by simpa using hx)
theorem find_all_none {α : Type} {f : α → Bool} {l : List α} (h : ∀ j, j < l.length → ∀ y, l[j]? = some y → f y = false) : l.find? f = none := by
  rw [List.find?_eq_none]
  intro x hx
  obtain ⟨j, hj⟩ := List.getElem?_of_mem hx
  rw [h j (List.getElem?_eq_some_iff.1 hj).1 x hj]; decide
theorem c_setOf0 (S : List (List Int)) (r : Int) (hS : S.length ≤ 100000) (hs : ∀ s ∈ S, s.length ≤ 100000) : PCall Tryz.prog 47 [.pv (.sl 1 (S.map lstRow)), vint .i64 r] (fun x => Leq x (.pv (.sl 1 ((setF S r).map intRow)))) := by
  refine acall_of tok mixed 18 rfl (fn := Tryz.f47) (c := Tryz.f47.body.getD .skip) (by kernel_rfl) (by kernel_rfl) (by kernel_rfl) rfl 0 rfl ?_
  repeat' (first | refine o1 ?_ | refine o2 ?_ | refine k1 ?_ | refine k2 ?_ | refine k4 ?_ | refine eqv_len_map ?_ | fail)
  refine loop_for (fun i : Nat => [(1, vint .i64 r), (7, .pv (.sl 1 (S.map lstRow))), (8, vint .i64 S.length), (9, vint .i64 i)]) (fun _ => [])
    (fun i => i ≤ S.length ∧ ∀ j, j < i → ∀ y, S[j]? = some y → pB (r ∈ y) = false) (fun i => S.length - i) 0 ⟨Nat.zero_le _, fun j hj => absurd hj (Nat.not_lt_zero _)⟩ ?_ ?_
  · exact back [] rfl rfl trivial (by repeat' (first | exact trivial | exact rfl | refine And.intro ?_ ?_))
  rintro i ⟨hi, hn⟩
  rcases Nat.lt_or_ge i S.length with hlt | hge
  · obtain ⟨s, hs1⟩ := getE hlt
    have hc := c_containsN s r (hs s (List.mem_of_getElem? hs1))
    cases hb : pB (r ∈ s)
    · rw [hb] at hc
      repeat' (first | (refine idx_sl (k := i) (at_map hs1) (by omega) ?_) | refine o1 ?_ | refine o2 ?_ | refine k1 ?_ | refine k2 ?_ | refine k3 ?_ | refine k4 ?_ | refine k6 ?_ | refine And.intro ?_ ?_ | (intro h; first | exact Bool.noConfusion h | exact nz _ h | exact nl h | (simp at h; done) | (simp at h; first | (exfalso; omega) | skip) | skip) | refine eqv_wrap (by omega) (by omega) ?_ | (change vcFun _ _ _ _ _; refine call_eq rfl (by repeat' (first | trivial | refine And.intro ?_ ?_ | (show 0 + _ ≤ List.length _; simp))) ALeL.refl (hc) rfl ?_) | fail)
      all_goals first
        | (exfalso; omega)
        | exact ⟨i + 1, ⟨by omega, fun j hj y hy => by
            rcases Nat.lt_or_ge j i with h1 | h1
            · exact hn j h1 y hy
            · obtain rfl : j = i := by omega
              rw [hs1] at hy; cases hy; exact hb⟩, by omega, back [] rfl rfl trivial (by repeat' (first | exact trivial | exact rfl | refine And.intro ?_ ?_))⟩
    · rw [hb] at hc
      have e : setF S r = s := by unfold setF; rw [find_take_none hn hs1 hb]; rfl
      rw [e]
      repeat' (first | (refine idx_sl (k := i) (at_map hs1) (by omega) ?_) | refine o1 ?_ | refine o2 ?_ | refine k1 ?_ | refine k2 ?_ | refine k3 ?_ | refine k4 ?_ | refine k6 ?_ | refine k7 ?_ | refine And.intro ?_ ?_ | (intro h; first | exact Bool.noConfusion h | exact nz _ h | exact nl h | (simp at h; done) | (simp at h; first | (exfalso; omega) | skip) | skip) | (change retOk _ _ _ _; refine ret_pure rfl trivial ?_) | (change vcFun _ _ _ _ _; refine call_eq rfl (by repeat' (first | trivial | refine And.intro ?_ ?_ | (show 0 + _ ≤ List.length _; simp))) ALeL.refl (hc) rfl ?_) | fail)
      all_goals first
        | (exfalso; omega)
        | exact ⟨ALe.refl⟩
  · have e : setF S r = [] := by unfold setF; rw [find_all_none fun j hj => hn j (by omega)]; rfl
    rw [e]
    repeat' (first | refine o1 ?_ | refine o2 ?_ | refine k1 ?_ | refine k2 ?_ | refine k3 ?_ | refine k7 ?_ | refine k8 ?_ | refine And.intro ?_ ?_ | (intro h; first | exact Bool.noConfusion h | exact nz _ h | exact nl h | (simp at h; done) | (simp at h; first | (exfalso; omega) | skip) | skip) | (change retOk _ _ _ _; refine ret_pure rfl trivial ?_) | fail)
    all_goals first
      | (exfalso; omega)
      | exact ⟨ALe.pv PLe.nil⟩
theorem c_setOf (S : List (List Int)) (r : Int) (hS : S.length ≤ 100000) (hs : ∀ s ∈ S, s.length ≤ 100000) : PCall Tryz.prog 47 [.pv (.sl 1 (S.map lstRow)), vint .i64 r] (fun x => x = .pv (.sl 1 ((setF S r).map intRow))) := (c_setOf0 S r hS hs).weak fun r k => ⟨_, k.le, rfl⟩
def isPlanP (m : Model) (plan : List Int) : Prop := plan.length = m.classes.length ∧ ∀ j : Nat, j < plan.length → ∀ o l, plan[j]? = some o → m.classes[j]? = some l → -1 ≤ o ∧ o < l.length
theorem c_isPlan (m : Model) (plan : List Int) (hz : sizedP m) : PCall Tryz.prog 43 [ag m.cells, .pv (encInts plan)] (fun r => r = vbool (pB (isPlanP m plan))) := by
  refine acall_of tok mixed 33 rfl (fn := Tryz.f43) (c := Tryz.f43.body.getD .skip) (by kernel_rfl) (by kernel_rfl) (by kernel_rfl) rfl 0 rfl ?_
  have hcn := hz.1
  repeat' (first | refine o1 ?_ | refine o2 ?_ | refine k1 ?_ | refine k2 ?_ | refine k3 ?_ | refine k4 ?_ | refine k6 ?_ | refine k7 ?_ | refine And.intro ?_ ?_ | (intro h; first | exact Bool.noConfusion h | exact nz _ h | exact nl h | (simp at h; done) | (simp at h; first | (exfalso; omega) | skip) | skip) | (change retOk _ _ _ _; refine ret_pure rfl trivial ?_) | refine eqv_len_map ?_ | fail)
  all_goals first
    | exact congrArg vbool (pB_f fun h => by have := h.1; omega).symm
    | skip
  have hpl : plan.length = m.classes.length := by omega
  refine loop_for (fun i : Nat => [(2, .ptr 0 4 0 0), (13, .pv (encInts plan)), (14, vint .i64 plan.length), (15, vint .i64 i)]) (fun _ => [some ⟨29, 4, false, .box [.pv (.sl 1 (m.classes.map optsRow)), .pv (.sl 4 (m.pairs.map Pair.row)), .pv (.sl 4 (m.counts.map Count.row)), .pv (ei m.rules)]⟩])
    (fun i => i ≤ plan.length ∧ ∀ j : Nat, j < i → ∀ o l, plan[j]? = some o → m.classes[j]? = some l → -1 ≤ o ∧ o < l.length) (fun i => plan.length - i) 0 ⟨Nat.zero_le _, fun j hj => absurd hj (Nat.not_lt_zero _)⟩ ?_ ?_
  · exact back [0] rfl rfl (by repeat' (first | exact trivial | exact rfl | refine And.intro ?_ ?_)) (by repeat' (first | exact trivial | exact rfl | refine And.intro ?_ ?_))
  rintro i ⟨hi, hall⟩
  rcases Nat.lt_or_ge i plan.length with hlt | hge
  · obtain ⟨o, ho⟩ := getE hlt
    obtain ⟨l, hl⟩ := getE (l := m.classes) (i := i) (by omega)
    have hln := hz.2.1 l (List.mem_of_getElem? hl)
    have hstep : -1 ≤ o → o < l.length → ∀ j : Nat, j < i + 1 → ∀ o l, plan[j]? = some o → m.classes[j]? = some l → -1 ≤ o ∧ o < l.length := fun h1 h2 j hj o' l' ho' hl' => by
      rcases Nat.lt_or_ge j i with h3 | h3
      · exact hall j h3 o' l' ho' hl'
      · obtain rfl : j = i := by omega
        rw [ho] at ho'; rw [hl] at hl'; cases ho'; cases hl'; exact ⟨h1, h2⟩
    repeat' (first | (refine idx_sl (k := i) (at_map ho) (by omega) ?_) | (refine idx_sl (k := i) (at_map hl) (by omega) ?_) | refine o1 ?_ | refine o2 ?_ | refine k1 ?_ | refine k2 ?_ | refine k3 ?_ | refine k4 ?_ | refine k6 ?_ | refine k7 ?_ | refine And.intro ?_ ?_ | (intro h; first | exact Bool.noConfusion h | exact nz _ h | exact nl h | (simp at h; done) | (simp at h; first | (exfalso; omega) | skip) | skip) | (change retOk _ _ _ _; refine ret_pure rfl trivial ?_) | refine eqv_len_map ?_ | refine eqv_wrap (by omega) (by omega) ?_ | fail)
    all_goals first
      | (refine congrArg vbool (pB_f fun h => ?_).symm; have := h.2 i hlt o l ho hl; omega)
      | exact ⟨i + 1, ⟨by omega, hstep (by omega) (by omega)⟩, by omega, back [0] rfl rfl (by repeat' (first | exact trivial | exact rfl | refine And.intro ?_ ?_)) (by repeat' (first | exact trivial | exact rfl | refine And.intro ?_ ?_))⟩
  · repeat' (first | refine o1 ?_ | refine o2 ?_ | refine k1 ?_ | refine k2 ?_ | refine k3 ?_ | refine k7 ?_ | refine k8 ?_ | refine And.intro ?_ ?_ | (intro h; first | exact Bool.noConfusion h | exact nz _ h | exact nl h | (simp at h; done) | (simp at h; first | (exfalso; omega) | skip) | skip) | (change retOk _ _ _ _; refine ret_pure rfl trivial ?_) | fail)
    all_goals first
      | exact congrArg vbool (pB_t ⟨hpl, fun j hj => hall j (by omega)⟩).symm
end Go.Proofs.YtihpjcmloecaaaaGreat.Cw
/-
  Symmetry: the least plan that arises from a plan (program's side).
-/
namespace Go.Proofs.YtihpjcmloecaaaaGreat.Cw
open Go Go.Cw Go.Proofs
set_option linter.unusedVariables false
set_option maxRecDepth 100000
set_option maxHeartbeats 8000000
def numM (f : Int × Int → Int × PV) : Nat → List (Int × Int) → List (Value × Nat × AV)
  | _, [] => []
  | b, e :: E => (.int .i64 (f e).1, b, .pv (f e).2) :: numM f (b + 1) E
section
variable {f : Int × Int → Int × PV} {k : Int}
theorem numM_get : ∀ {E : List (Int × Int)} {b : Nat}, getM (.int .i64 k) (numM f b E) = (E.find? fun e => k == (f e).1).map fun e => .pv (f e).2
  | [], b => rfl
  | e :: E, b => by
    simp only [numM, getM, List.find?_cons]
    show (bif k == (f e).1 then _ else _) = _
    cases k == (f e).1
    · exact numM_get
    · rfl
theorem numM_put {v : AV} {ck : Nat} : ∀ {E : List (Int × Int)} {b : Nat}, (E.find? fun e => k == (f e).1) = none → putM (.int .i64 k) v ck (numM f b E) = numM f b E ++ [(.int .i64 k, ck, v)]
  | [], b, _ => rfl
  | e :: E, b, h => by
    simp only [numM, putM, List.find?_cons] at *
    cases hk : k == (f e).1
    · rw [hk] at h
      show (bif k == (f e).1 then _ else _) = _
      rw [hk]
      show _ :: _ = _ :: _
      rw [numM_put h]; rfl
    · rw [hk] at h; cases h
theorem numM_app {e : Int × Int} : ∀ {E : List (Int × Int)} {b : Nat}, numM f b (E ++ [e]) = numM f b E ++ [(.int .i64 (f e).1, b + E.length, .pv (f e).2)]
  | [], b => rfl
  | a :: E, b => by
    simp only [numM, List.cons_append, List.length_cons]
    rw [numM_app, show b + 1 + E.length = b + (E.length + 1) by omega]
theorem numM_pure : ∀ {E : List (Int × Int)} {b : Nat}, pureM (numM f b E)
  | [], b => fun e h => absurd h List.not_mem_nil
  | a :: E, b => fun e h => by
    simp only [numM, List.mem_cons] at h
    rcases h with rfl | h
    · exact ⟨_, rfl⟩
    · exact numM_pure e h
end
def fTo (e : Int × Int) : Int × PV := (e.1, .val (.int .i64 e.2))
def fTk (e : Int × Int) : Int × PV := (e.2, .val (.bool true))
def mapN (ty : Nat) (f : Int × Int → Int × PV) (E : List (Int × Int)) : Option AObj := some ⟨ty, 1, false, .mp .num .i64 (numM f 0 E) E.length⟩
theorem kept_mpN {ty d i : Nat} {H Hc : Heap} {rn l : List Nat} {f : Int × Int → Int × PV} {E : List (Int × Int)} (h : H[i]? = some (mapN ty f E)) (hk : kept H d rn l Hc) : kept H d rn (i :: l) (mapN ty f E :: Hc) :=
  ⟨(by show _ = some (some (renO _ _ _)); rw [ren_mp numM_pure]; exact h), hk⟩
def toF (E : List (Int × Int)) (r : Int) : Option Int := (E.find? fun e => r == e.1).map (·.2)
def takenB (E : List (Int × Int)) (t : Int) : Bool := (E.find? fun e => t == e.2).isSome
def imgI (o : Option Nat) : Int := ((o.getD 0 : Nat) : Int)
def pickS (E : List (Int × Int)) (g : Int → Int) (st : Int × Int) (t : Int) : Int × Int := if takenB E t then st else if st.1 < 0 ∨ g t < st.2 then (t, g t) else st
noncomputable def canStep (S : List (List Int)) (l : List Opt) (o : Nat) (r : Int) (c : Nat) (st : List Int × List (Int × Int)) : List Int × List (Int × Int) :=
  match toF st.2 r with
  | some t => (st.1.set c (imgI (imgO l o t)), st.2)
  | none => (st.1.set c ((setF S r).foldl (pickS st.2 fun t => imgI (imgO l o t)) (-1, (o : Int))).2, if 0 ≤ ((setF S r).foldl (pickS st.2 fun t => imgI (imgO l o t)) (-1, (o : Int))).1 then st.2 ++ [(r, ((setF S r).foldl (pickS st.2 fun t => imgI (imgO l o t)) (-1, (o : Int))).1)] else st.2)
noncomputable def canS (m : Model) (plan : List Int) (S : List (List Int)) : Nat → List Int × List (Int × Int)
  | 0 => (plan, [])
  | k + 1 => match plan[k]?, m.classes[k]? with
    | some o, some l => if o < 0 then canS m plan S k else match l[o.toNat]? with
      | some q => canStep S l o.toNat q.place.room k (canS m plan S k)
      | none => canS m plan S k
    | _, _ => canS m plan S k
noncomputable def canV (m : Model) (plan : List Int) : List Int := (canS m plan (setsV m) plan.length).1
noncomputable def canE (m : Model) (plan : List Int) : Int := if modelE m = 0 then (if pB (isPlanP m plan) then 0 else 17) else modelE m
noncomputable def canR (m : Model) (plan : List Int) : List Int := if canE m plan = 0 then canV m plan else []
theorem call_cloneI {l : List Int} {H : Heap} {K : AV → Heap → Prop} (hl : 0 < l.length ∧ l.length ≤ 100000) (hK : K (.ms H.length 1 0 l.length) (H ++ [some ⟨3, 1, false, .p (l.map intRow)⟩])) : vcFun Tryz.prog 44 [.pv (.sl 1 (l.map intRow))] H K := by
  refine call_obj [] [] [.pv (.sl 1 (l.map intRow))] rfl trivial rfl (c_cloneI l hl) fun r Hc' hp => ?_
  obtain ⟨rfl, rfl⟩ := hp
  exact ⟨Nat.zero_le _, hK⟩
def mdlO (m : Model) : Option AObj := some ⟨29, 4, false, .box [.pv (.sl 1 (m.classes.map optsRow)), .pv (.sl 4 (m.pairs.map Pair.row)), .pv (.sl 4 (m.counts.map Count.row)), .pv (ei m.rules)]⟩
theorem imgA_eq {o : Option Nat} : imgA o = .tup [vint .i64 (imgI o), vbool o.isSome] := by cases o <;> rfl
theorem set_same {α : Type} {l : List α} {c : Nat} {x : α} (h : l[c]? = some x) : l.set c x = l := by
  obtain ⟨hl, rfl⟩ := List.getElem?_eq_some_iff.1 h
  exact List.set_getElem_self hl
theorem get_to {E : List (Int × Int)} {r : Int} : getM (.int .i64 r) (numM fTo 0 E) = (toF E r).map fun t => vint .i64 t := by
  rw [numM_get]; unfold toF; rw [Option.map_map]; rfl
theorem get_tk {E : List (Int × Int)} {t : Int} : getM (.int .i64 t) (numM fTk 0 E) = if takenB E t then some (vbool true) else none := by
  rw [numM_get]; unfold takenB
  show (E.find? fun e => t == e.2).map _ = _
  cases (E.find? fun e => t == e.2) <;> rfl
theorem put_to {E : List (Int × Int)} {r b : Int} (h : toF E r = none) : putM (.int .i64 r) (vint .i64 b) E.length (numM fTo 0 E) = numM fTo 0 (E ++ [(r, b)]) := by
  have h : (E.find? fun e => r == (fTo e).1) = none := by
    show (E.find? fun e => r == e.1) = none
    unfold toF at h
    cases hf : (E.find? fun e => r == e.1) with
    | none => rfl
    | some e => rw [hf] at h; cases h
  rw [numM_put h, numM_app, Nat.zero_add]; rfl
theorem put_tk {E : List (Int × Int)} {r b : Int} (h : takenB E b = false) : putM (.int .i64 b) (vbool true) E.length (numM fTk 0 E) = numM fTk 0 (E ++ [(r, b)]) := by
  have h : (E.find? fun e => b == (fTk e).1) = none := by
    show (E.find? fun e => b == e.2) = none
    unfold takenB at h
    cases hf : (E.find? fun e => b == e.2) with
    | none => rfl
    | some e => rw [hf] at h; cases h
  rw [numM_put h, numM_app, Nat.zero_add]; rfl
theorem ck_to {E : List (Int × Int)} {r b : Int} (h : toF E r = none) : ckM (.int .i64 r) E.length (numM fTo 0 E) = (E ++ [(r, b)]).length := by
  unfold ckM; rw [get_to, h, List.length_append]; rfl
theorem ck_tk {E : List (Int × Int)} {r b : Int} (h : takenB E b = false) : ckM (.int .i64 b) E.length (numM fTk 0 E) = (E ++ [(r, b)]).length := by
  unfold ckM; rw [get_tk, h, List.length_append]; rfl
theorem pickS_taken {E : List (Int × Int)} {g : Int → Int} {st : Int × Int} {t : Int} (h : takenB E t = true) : pickS E g st t = st := by unfold pickS; rw [if_pos h]
theorem pickS_put {E : List (Int × Int)} {g : Int → Int} {st : Int × Int} {t : Int} (h : takenB E t = false) (h2 : st.1 < 0 ∨ g t < st.2) : pickS E g st t = (t, g t) := by unfold pickS; rw [if_neg (by rw [h]; decide), if_pos h2]
theorem pickS_skip {E : List (Int × Int)} {g : Int → Int} {st : Int × Int} {t : Int} (h : takenB E t = false) (h2 : ¬ (st.1 < 0 ∨ g t < st.2)) : pickS E g st t = st := by unfold pickS; rw [if_neg (by rw [h]; decide), if_neg h2]
theorem pick_free {E : List (Int × Int)} {g : Int → Int} : ∀ {l : List Int} {st : Int × Int}, st.1 < 0 ∨ takenB E st.1 = false → (l.foldl (pickS E g) st).1 < 0 ∨ takenB E (l.foldl (pickS E g) st).1 = false
  | [], st, h => h
  | t :: l, st, h => by
    refine pick_free (l := l) ?_
    unfold pickS
    cases ht : takenB E t
    · simp only [Bool.false_eq_true, if_false]
      split
      · exact .inr ht
      · exact h
    · simpa using h
theorem canS_next {m : Model} {plan : List Int} {S : List (List Int)} {c : Nat} {o : Int} {l : List Opt} (ho : plan[c]? = some o) (hl : m.classes[c]? = some l) : canS m plan S (c + 1) = if o < 0 then canS m plan S c else match l[o.toNat]? with
      | some q => canStep S l o.toNat q.place.room c (canS m plan S c)
      | none => canS m plan S c := by
  rw [canS, ho, hl]
theorem canStep_inv {S : List (List Int)} {l : List Opt} {o : Nat} {r : Int} {c : Nat} {st : List Int × List (Int × Int)} : (canStep S l o r c st).1.length = st.1.length ∧ ∀ j : Nat, c < j → (canStep S l o r c st).1[j]? = st.1[j]? := by
  unfold canStep
  split
  · exact ⟨List.length_set .., fun j hj => List.getElem?_set_ne (by omega)⟩
  · exact ⟨List.length_set .., fun j hj => List.getElem?_set_ne (by omega)⟩
theorem canS_inv {m : Model} {plan : List Int} {S : List (List Int)} (hp : isPlanP m plan) : ∀ {c : Nat}, c ≤ plan.length → (canS m plan S c).1.length = plan.length ∧ ∀ j : Nat, c ≤ j → (canS m plan S c).1[j]? = plan[j]?
  | 0, _ => ⟨rfl, fun _ _ => rfl⟩
  | c + 1, hc => by
    obtain ⟨h1, h2⟩ := canS_inv hp (c := c) (S := S) (by omega)
    obtain ⟨o, ho⟩ := getE (l := plan) (i := c) (by omega)
    obtain ⟨l, hl⟩ := getE (l := m.classes) (i := c) (by have := hp.1; omega)
    rw [canS_next ho hl]
    split
    · exact ⟨h1, fun j hj => h2 j (by omega)⟩
    · split
      · obtain ⟨g1, g2⟩ := canStep_inv (S := S) (l := l) (o := o.toNat) (r := (‹Opt›).place.room) (c := c) (st := canS m plan S c)
        exact ⟨by rw [g1, h1], fun j hj => by rw [g2 j (by omega), h2 j (by omega)]⟩
      · exact ⟨h1, fun j hj => h2 j (by omega)⟩
theorem setF_len {S : List (List Int)} {r : Int} {n : Nat} (h : ∀ s ∈ S, s.length ≤ n) : (setF S r).length ≤ n := by
  unfold setF
  cases hf : S.find? fun s => pB (r ∈ s) with
  | none => exact Nat.zero_le _
  | some s => exact h s (List.mem_of_find?_eq_some hf)
theorem c_canon0 (m : Model) (plan : List Int) (hl : Laid m) : PCall Tryz.prog 19 [ag m.cells, .pv (encInts plan)] (fun r => Leq r (.tup [.pv (.sl 1 ((canR m plan).map intRow)), vint .i64 (canE m plan)])) := by
  have hv := c_valid m hl
  by_cases hok : modelE m = 0
  · have hz := model_sized hok
    have hp := c_isPlan m plan hz
    rw [hok] at hv
    by_cases hpl : isPlanP m plan
    · rw [pB_t hpl] at hp
      have hR := c_Rooms m hl
      rcases plan with _ | ⟨p0, plan⟩
      · have e1 : canE m [] = 0 := by unfold canE; rw [if_pos hok, pB_t hpl]; rfl
        have e2 : canR m [] = [] := by unfold canR; rw [if_pos e1]; rfl
        rw [e1, e2]
        have hce := c_cloneIE 0
        refine acall_of tok mixed 122 rfl (fn := Tryz.f19) (c := Tryz.f19.body.getD .skip) (by kernel_rfl) (by kernel_rfl) (by kernel_rfl) rfl 0 rfl ?_
        repeat' (first | ((change vcFun _ _ _ _ _; refine call_frz rfl (by repeat' (first | trivial | refine And.intro ?_ ?_ | (show 0 + _ ≤ List.length _; simp))) ALeL.refl hR ?_; rintro _ rfl)) | ((change vcFun _ _ _ _ _; refine call_frz rfl (by repeat' (first | trivial | refine And.intro ?_ ?_ | (show 0 + _ ≤ List.length _; simp))) ALeL.refl hce ?_; rintro _ rfl)) | refine o1 ?_ | refine o2 ?_ | refine k1 ?_ | refine k2 ?_ | refine k3 ?_ | refine k4 ?_ | refine k6 ?_ | refine And.intro ?_ ?_ | (intro h; first | exact Bool.noConfusion h | exact nz _ h | exact nl h | (simp at h; done) | (simp at h; first | (exfalso; omega) | skip) | skip) | refine eqv_len_map ?_ | (change vcFun _ _ _ _ _; refine call_eq rfl (by repeat' (first | trivial | refine And.intro ?_ ?_ | (show 0 + _ ≤ List.length _; simp))) ALeL.refl (hv) rfl ?_) | (change vcFun _ _ _ _ _; refine call_eq rfl (by repeat' (first | trivial | refine And.intro ?_ ?_ | (show 0 + _ ≤ List.length _; simp))) ALeL.refl (hp) rfl ?_) | fail)
        refine loop_for (fun _ : Unit => [(8, .pv (.sl 1 [])), (39, vint .i64 (0 : Nat)), (40, vint .i64 (0 : Nat))]) (fun _ => []) (fun _ => True) (fun _ => 0) () trivial ?_ ?_
        · exact back [] rfl rfl trivial (by repeat' (first | exact trivial | exact rfl | refine And.intro ?_ ?_))
        intro _ _
        repeat' (first | refine o1 ?_ | refine o2 ?_ | refine k1 ?_ | refine k2 ?_ | refine k3 ?_ | refine k7 ?_ | refine k8 ?_ | refine And.intro ?_ ?_ | (intro h; first | exact Bool.noConfusion h | exact nz _ h | exact nl h | (simp at h; done) | (simp at h; first | (exfalso; omega) | skip) | skip) | (change retOk _ _ _ _; refine ret_pure rfl trivial ?_) | fail)
        exact ⟨ALe.refl⟩
      have hcl : 0 < (p0 :: plan).length ∧ (p0 :: plan).length ≤ 100000 := ⟨by simp, by have := hpl.1; have := hz.1; omega⟩
      have e1 : canE m (p0 :: plan) = 0 := by unfold canE; rw [if_pos hok, pB_t hpl]; rfl
      have e2 : canR m (p0 :: plan) = (canS m (p0 :: plan) (setsV m) (p0 :: plan).length).1 := by unfold canR; rw [if_pos e1]; rfl
      rw [e1, e2]
      have hSl := setsV_len (m := m)
      generalize setsV m = S at *
      generalize hpn : p0 :: plan = pl at *
      refine acall_of tok mixed 122 rfl (fn := Tryz.f19) (c := Tryz.f19.body.getD .skip) (by kernel_rfl) (by kernel_rfl) (by kernel_rfl) rfl 0 rfl ?_
      repeat' (first | ((change vcFun _ _ _ _ _; refine call_frz rfl (by repeat' (first | trivial | refine And.intro ?_ ?_ | (show 0 + _ ≤ List.length _; simp))) ALeL.refl hR ?_; rintro _ rfl)) | ((change vcFun _ _ _ _ _; refine call_cloneI hcl ?_)) | refine o1 ?_ | refine o2 ?_ | refine k1 ?_ | refine k2 ?_ | refine k3 ?_ | refine k4 ?_ | refine k6 ?_ | refine And.intro ?_ ?_ | (intro h; first | exact Bool.noConfusion h | exact nz _ h | exact nl h | (simp at h; done) | (simp at h; first | (exfalso; omega) | skip) | skip) | refine eqv_len_map ?_ | (change vcFun _ _ _ _ _; refine call_eq rfl (by repeat' (first | trivial | refine And.intro ?_ ?_ | (show 0 + _ ≤ List.length _; simp))) ALeL.refl (hv) rfl ?_) | (change vcFun _ _ _ _ _; refine call_eq rfl (by repeat' (first | trivial | refine And.intro ?_ ?_ | (show 0 + _ ≤ List.length _; simp))) ALeL.refl (hp) rfl ?_) | fail)
      refine loop_for (fun c : Nat => [(2, .ptr 0 4 0 0), (7, .pv (.sl 1 (S.map lstRow))), (8, .ms 1 1 0 pl.length), (9, .mp 2), (10, .mp 3), (38, .pv (encInts pl)), (39, vint .i64 pl.length), (40, vint .i64 c)])
        (fun c => [mdlO m, some ⟨3, 1, false, .p ((canS m pl S c).1.map intRow)⟩, mapN 82 fTo (canS m pl S c).2, mapN 83 fTk (canS m pl S c).2])
        (fun c => c ≤ pl.length) (fun c => pl.length - c) 0 (Nat.zero_le _) ?_ ?_
      · exact back [0, 1, 2, 3] rfl rfl ⟨rfl, rfl, rfl, rfl, trivial⟩ (by repeat' (first | exact trivial | exact rfl | refine And.intro ?_ ?_))
      intro c hc
      have hinv := canS_inv (m := m) (plan := pl) (S := S) hpl hc
      rcases Nat.lt_or_ge c pl.length with hcl2 | hcg
      · obtain ⟨o, ho⟩ := getE hcl2
        obtain ⟨l, hll⟩ := getE (l := m.classes) (i := c) (by have := hpl.1; omega)
        have hop := hpl.2 c hcl2 o l ho hll
        have hln := hz.2.1 l (List.mem_of_getElem? hll)
        have hcn := canS_next (S := S) ho hll
        generalize canS m pl S c = st0 at *
        obtain ⟨out, E⟩ := st0
        dsimp only at hinv hcn ⊢
        by_cases ho0 : o < 0
        · rw [if_pos ho0] at hcn
          repeat' (first | (refine idx_sl (k := c) (at_map ho) (by omega) ?_) | refine o1 ?_ | refine o2 ?_ | refine k1 ?_ | refine k2 ?_ | refine k3 ?_ | refine k4 ?_ | refine k6 ?_ | refine k8 ?_ | refine And.intro ?_ ?_ | (intro h; first | exact Bool.noConfusion h | exact nz _ h | exact nl h | (simp at h; done) | (simp at h; first | (exfalso; omega) | skip) | skip) | refine eqv_wrap (by omega) (by omega) ?_ | fail)
          exact ⟨c + 1, by omega, by omega, (by rw [hcn]; exact back [0, 1, 2, 3] rfl rfl ⟨rfl, rfl, kept_mpN rfl (kept_mpN rfl trivial)⟩ (by repeat' (first | exact trivial | exact rfl | refine And.intro ?_ ?_)))⟩
        obtain ⟨q, rfl⟩ : ∃ q : Nat, o = q := ⟨o.toNat, by omega⟩
        obtain ⟨op, hop2⟩ := getE (l := l) (i := q) (by omega)
        rw [if_neg ho0] at hcn
        dsimp only [mdlO]
        repeat' (first | (refine idx_sl (k := c) (at_map ho) (by omega) ?_) | (refine idx_sl (k := c) (at_map hll) (by omega) ?_) | (refine idx_sl (k := q) (at_map hop2) (by omega) ?_) | (refine join_in (a := .region 14 _ _) (fun _ => [(14, vint .i64 op.place.room), (15, .mp 4)]) (fun _ : Unit => [mdlO m, some ⟨3, 1, false, .p (out.map intRow)⟩, mapN 82 fTo E, mapN 83 fTk E, mapP 85 (grpE l l.length)]) (fun _ => True) ?_) | ((show xCode _ _ _ _ (.region 14 _ _) _ _ _; refine code_region_any ?_)) | ((change vcFun _ _ _ _ _; refine call_index (by omega) ?_)) | ((change ∃ x : Unit, _ ∧ _; exact ⟨(), trivial, back [0, 1, 2, 3, 4] rfl rfl ⟨rfl, rfl, kept_mpN rfl (kept_mpN rfl (kept_mp rfl trivial))⟩ (by repeat' (first | exact trivial | exact rfl | exact ⟨_, rfl, ALe.refl⟩ | refine And.intro ?_ ?_))⟩)) | refine o1 ?_ | refine o2 ?_ | refine k1 ?_ | refine k2 ?_ | refine k3 ?_ | refine k4 ?_ | refine k6 ?_ | refine And.intro ?_ ?_ | exact trivial | refine o5 ?_ | refine o6 ?_ | (intro h; first | exact Bool.noConfusion h | exact nz _ h | exact nl h | (simp at h; done) | (simp at h; first | (exfalso; omega) | skip) | skip) | fail)
        refine ⟨?_⟩
        intro _ _
        have hcn : canS m pl S (c + 1) = canStep S l q op.place.room c (out, E) := by rw [hcn, Int.toNat_natCast, hop2]
        have hoc : out[c]? = some (q : Int) := by rw [hinv.2 c (Nat.le_refl _), ho]
        have hol : out.length = pl.length := hinv.1
        generalize op.place.room = r at *
        generalize hEg : grpE l l.length = G at *
        have hgt := get_to (E := E) (r := r)
        rcases hto : toF E r with _ | t
        · rw [hto] at hgt
          have hso := c_setOf S r (by omega) fun s hs => by have := hSl.2 s hs; omega
          have hcn1 : canS m pl S (c + 1) = (out.set c ((setF S r).foldl (pickS E fun t => imgI (imgO l q t)) (-1, (q : Int))).2, if 0 ≤ ((setF S r).foldl (pickS E fun t => imgI (imgO l q t)) (-1, (q : Int))).1 then E ++ [(r, ((setF S r).foldl (pickS E fun t => imgI (imgO l q t)) (-1, (q : Int))).1)] else E) := by rw [hcn]; unfold canStep; dsimp only; rw [hto]
          have hql : (setF S r).length ≤ 576 := setF_len hSl.2
          have hfree := pick_free (E := E) (g := fun t => imgI (imgO l q t)) (l := setF S r) (st := (-1, (q : Int))) (.inl (by show (-1 : Int) < 0; decide))
          generalize setF S r = sq at *
          repeat' (first | (refine eqv_to none hgt ?_) | ((change vcFun _ _ _ _ _; refine call_frz rfl (by repeat' (first | trivial | refine And.intro ?_ ?_ | (show 0 + _ ≤ List.length _; simp))) ALeL.refl hso ?_; rintro _ rfl)) | refine o1 ?_ | refine o2 ?_ | refine k1 ?_ | refine k2 ?_ | refine k3 ?_ | refine k4 ?_ | refine k6 ?_ | refine And.intro ?_ ?_ | (intro h; first | exact Bool.noConfusion h | exact nz _ h | exact nl h | (simp at h; done) | (simp at h; first | (exfalso; omega) | skip) | skip) | refine eqv_len_map ?_ | fail)
          refine loop_for (fun k : Nat => [(2, .ptr 0 4 0 0), (7, .pv (.sl 1 (S.map lstRow))), (8, .ms 1 1 0 pl.length), (9, .mp 2), (10, .mp 3), (38, .pv (encInts pl)), (39, vint .i64 pl.length), (40, vint .i64 c), (11, vint .i64 c), (12, vint .i64 q), (13, .pv (.sl 6 (l.map Opt.row))), (14, vint .i64 r), (15, .mp 4), (18, vint .i64 ((sq.take k).foldl (pickS E fun t => imgI (imgO l q t)) (-1, (q : Int))).1), (80, .pv (.sl 1 (sq.map intRow))), (81, vint .i64 sq.length), (82, vint .i64 k)])
            (fun k => [mdlO m, some ⟨3, 1, false, .p ((out.set c ((sq.take k).foldl (pickS E fun t => imgI (imgO l q t)) (-1, (q : Int))).2).map intRow)⟩, mapN 82 fTo E, mapN 83 fTk E, mapP 85 G])
            (fun k => k ≤ sq.length) (fun k => sq.length - k) 0 (Nat.zero_le _) ?_ ?_
          · have h0 : out.set c ((sq.take 0).foldl (pickS E fun t => imgI (imgO l q t)) (-1, (q : Int))).2 = out := set_same hoc
            rw [h0]
            exact back [0, 1, 2, 3, 4] rfl rfl ⟨rfl, rfl, kept_mpN rfl (kept_mpN rfl (kept_mp rfl trivial))⟩ (by repeat' (first | exact trivial | exact rfl | refine And.intro ?_ ?_))
          intro k hk
          rcases Nat.lt_or_ge k sq.length with hkl | hkg
          · obtain ⟨t, ht⟩ := getE hkl
            have hst : (sq.take (k + 1)).foldl (pickS E fun t => imgI (imgO l q t)) (-1, (q : Int)) = pickS E (fun t => imgI (imgO l q t)) ((sq.take k).foldl (pickS E fun t => imgI (imgO l q t)) (-1, (q : Int))) t := by rw [tk_snoc ht, List.foldl_append]; rfl
            generalize (sq.take k).foldl (pickS E fun t => imgI (imgO l q t)) (-1, (q : Int)) = st0 at *
            obtain ⟨b, x⟩ := st0
            dsimp only at hst ⊢
            have hgk := get_tk (E := E) (t := t)
            have hcx : (out.set c x)[c]? = some x := by rw [List.getElem?_set_self (by omega)]
            cases htk : takenB E t
            · rw [htk] at hgk
              have hgk : getM (.int .i64 t) (numM fTk 0 E) = none := hgk
              repeat' (first | (refine idx_sl (k := k) (at_map ht) (by omega) ?_) | (refine eqv_to none hgk ?_) | ((change vcFun _ _ _ _ _; refine call_image 4 hEg.symm rfl (by omega) (by omega) ?_; rw [imgA_eq])) | (refine ⟨_, at_map hcx, ?_⟩) | refine o1 ?_ | refine o2 ?_ | refine k1 ?_ | refine k2 ?_ | refine k3 ?_ | refine k4 ?_ | refine k6 ?_ | refine And.intro ?_ ?_ | (intro h; first | exact Bool.noConfusion h | exact nz _ h | exact nl h | (simp at h; done) | (simp at h; first | (exfalso; omega) | skip) | skip) | exact Nat.le_of_ble_eq_true rfl | refine eqv_zero ?_ | refine eqv_wrap (by omega) (by omega) ?_ | refine eqv_to _ (set_map rfl rfl) ?_ | refine idx_ms _ (by first | rfl | assumption) (by first | assumption | omega) ?_ | fail)
              all_goals first
                | (exfalso; omega)
                | (refine ⟨k + 1, by omega, by omega, ?_⟩
                   rw [hst, pickS_put htk (by show b < 0 ∨ imgI (imgO l q t) < x; omega), List.set_set]
                   exact back [0, 1, 2, 3, 4] rfl rfl ⟨rfl, rfl, kept_mpN rfl (kept_mpN rfl (kept_mp rfl trivial))⟩ (by repeat' (first | exact trivial | exact rfl | refine And.intro ?_ ?_)))
                | (refine ⟨k + 1, by omega, by omega, ?_⟩
                   rw [hst, pickS_skip htk (by show ¬ (b < 0 ∨ imgI (imgO l q t) < x); omega)]
                   exact back [0, 1, 2, 3, 4] rfl rfl ⟨rfl, rfl, kept_mpN rfl (kept_mpN rfl (kept_mp rfl trivial))⟩ (by repeat' (first | exact trivial | exact rfl | refine And.intro ?_ ?_)))
            · rw [htk] at hgk
              have hgk : getM (.int .i64 t) (numM fTk 0 E) = some (vbool true) := hgk
              rw [pickS_taken htk] at hst
              repeat' (first | (refine idx_sl (k := k) (at_map ht) (by omega) ?_) | (refine eqv_to _ hgk ?_) | refine o1 ?_ | refine o2 ?_ | refine k1 ?_ | refine k2 ?_ | refine k3 ?_ | refine k4 ?_ | refine k6 ?_ | refine k8 ?_ | refine And.intro ?_ ?_ | (intro h; first | exact Bool.noConfusion h | exact nz _ h | exact nl h | (simp at h; done) | (simp at h; first | (exfalso; omega) | skip) | skip) | refine eqv_wrap (by omega) (by omega) ?_ | fail)
              all_goals first
                | (exfalso; omega)
                | exact ⟨k + 1, by omega, by omega, (by rw [hst]; exact back [0, 1, 2, 3, 4] rfl rfl ⟨rfl, rfl, kept_mpN rfl (kept_mpN rfl (kept_mp rfl trivial))⟩ (by repeat' (first | exact trivial | exact rfl | refine And.intro ?_ ?_)))⟩
          · obtain rfl : k = sq.length := by omega
            rw [List.take_length]
            generalize sq.foldl (pickS E fun t => imgI (imgO l q t)) (-1, (q : Int)) = st0 at *
            obtain ⟨b, x⟩ := st0
            dsimp only at hcn1 hfree ⊢
            by_cases hb0 : 0 ≤ b
            · rw [if_pos hb0] at hcn1
              have htk : takenB E b = false := hfree.elim (fun h => by omega) id
              have hp1 := put_to (b := b) hto
              have hp2 := put_tk (r := r) htk
              have hc1 := ck_to (b := b) hto
              have hc2 := ck_tk (r := r) htk
              repeat' (first | (refine eqv_to _ hp1 ?_) | (refine eqv_to _ hp2 ?_) | (refine eqv_to _ hc1 ?_) | (refine eqv_to _ hc2 ?_) | refine o1 ?_ | refine o2 ?_ | refine k1 ?_ | refine k2 ?_ | refine k3 ?_ | refine k8 ?_ | refine And.intro ?_ ?_ | (intro h; first | exact Bool.noConfusion h | exact nz _ h | exact nl h | (simp at h; done) | (simp at h; first | (exfalso; omega) | skip) | skip) | refine eqv_wrap (by omega) (by omega) ?_ | fail)
              all_goals first
                | (exfalso; omega)
                | exact ⟨c + 1, by omega, by omega, (by rw [hcn1]; exact back [0, 1, 2, 3] rfl rfl ⟨rfl, rfl, kept_mpN rfl (kept_mpN rfl trivial)⟩ (by repeat' (first | exact trivial | exact rfl | refine And.intro ?_ ?_)))⟩
            · rw [if_neg hb0] at hcn1
              repeat' (first | refine o1 ?_ | refine o2 ?_ | refine k1 ?_ | refine k2 ?_ | refine k3 ?_ | refine k6 ?_ | refine k8 ?_ | refine And.intro ?_ ?_ | (intro h; first | exact Bool.noConfusion h | exact nz _ h | exact nl h | (simp at h; done) | (simp at h; first | (exfalso; omega) | skip) | skip) | refine eqv_wrap (by omega) (by omega) ?_ | fail)
              all_goals first
                | (exfalso; omega)
                | exact ⟨c + 1, by omega, by omega, (by rw [hcn1]; exact back [0, 1, 2, 3] rfl rfl ⟨rfl, rfl, kept_mpN rfl (kept_mpN rfl trivial)⟩ (by repeat' (first | exact trivial | exact rfl | refine And.intro ?_ ?_)))⟩
        · rw [hto] at hgt
          have hcn1 : canS m pl S (c + 1) = (out.set c (imgI (imgO l q t)), E) := by rw [hcn]; unfold canStep; dsimp only; rw [hto]
          repeat' (first | (refine eqv_to _ hgt ?_) | ((change vcFun _ _ _ _ _; refine call_image 4 hEg.symm rfl (by omega) (by omega) ?_; rw [imgA_eq])) | refine o1 ?_ | refine o2 ?_ | refine k1 ?_ | refine k2 ?_ | refine k3 ?_ | refine k8 ?_ | refine And.intro ?_ ?_ | (intro h; first | exact Bool.noConfusion h | exact nz _ h | exact nl h | (simp at h; done) | (simp at h; first | (exfalso; omega) | skip) | skip) | exact Nat.le_of_ble_eq_true rfl | refine eqv_zero ?_ | refine eqv_wrap (by omega) (by omega) ?_ | refine eqv_to _ (set_map rfl rfl) ?_ | refine ⟨_, at_map (by assumption), ?_⟩ | refine idx_ms _ (by first | rfl | assumption) (by first | assumption | omega) ?_ | fail)
          all_goals first
            | exact ⟨c + 1, by omega, by omega, (by rw [hcn1]; exact back [0, 1, 2, 3] rfl rfl ⟨rfl, rfl, kept_mpN rfl (kept_mpN rfl trivial)⟩ (by repeat' (first | exact trivial | exact rfl | refine And.intro ?_ ?_)))⟩
      · obtain rfl : c = pl.length := by omega
        obtain ⟨hol, _⟩ := hinv
        generalize (canS m pl S pl.length) = st0 at *
        obtain ⟨out, E⟩ := st0
        dsimp only at hol ⊢
        dsimp only [mdlO]
        repeat' (first | refine o1 ?_ | refine o2 ?_ | refine k1 ?_ | refine k2 ?_ | refine k3 ?_ | refine k7 ?_ | refine k8 ?_ | refine And.intro ?_ ?_ | (intro h; first | exact Bool.noConfusion h | exact nz _ h | exact nl h | (simp at h; done) | (simp at h; first | (exfalso; omega) | skip) | skip) | fail)
        refine ret_pure (r0 := .tup [.pv (.sl 1 (((out.map intRow).drop 0).take pl.length)), vint .i64 0]) rfl ?_ ?_
        · refine ⟨?_, trivial⟩
          show 0 + pl.length ≤ _
          rw [List.length_map]; omega
        · rw [List.drop_zero, List.take_of_length_le (by rw [List.length_map]; omega)]
          exact ⟨ALe.refl⟩
    · rw [pB_f hpl] at hp
      have e1 : canE m plan = 17 := by unfold canE; rw [if_pos hok, pB_f hpl]; rfl
      have e2 : canR m plan = [] := by unfold canR; rw [if_neg (by rw [e1]; decide)]
      rw [e1, e2]
      refine acall_of tok mixed 122 rfl (fn := Tryz.f19) (c := Tryz.f19.body.getD .skip) (by kernel_rfl) (by kernel_rfl) (by kernel_rfl) rfl 0 rfl ?_
      repeat' (first | refine o1 ?_ | refine o2 ?_ | refine k1 ?_ | refine k2 ?_ | refine k3 ?_ | refine k6 ?_ | refine k7 ?_ | refine And.intro ?_ ?_ | (intro h; first | exact Bool.noConfusion h | exact nz _ h | exact nl h | (simp at h; done) | (simp at h; first | (exfalso; omega) | skip) | skip) | (change retOk _ _ _ _; refine ret_pure rfl trivial ?_) | (change vcFun _ _ _ _ _; refine call_eq rfl (by repeat' (first | trivial | refine And.intro ?_ ?_ | (show 0 + _ ≤ List.length _; simp))) ALeL.refl (hv) rfl ?_) | (change vcFun _ _ _ _ _; refine call_eq rfl (by repeat' (first | trivial | refine And.intro ?_ ?_ | (show 0 + _ ≤ List.length _; simp))) ALeL.refl (hp) rfl ?_) | fail)
      exact ⟨ALe.tup ⟨ALe.pv PLe.nil, ALe.refl, trivial⟩⟩
  · have e1 : canE m plan = modelE m := by unfold canE; rw [if_neg hok]
    have e2 : canR m plan = [] := by unfold canR; rw [if_neg (by rw [e1]; exact hok)]
    rw [e1, e2]
    refine acall_of tok mixed 122 rfl (fn := Tryz.f19) (c := Tryz.f19.body.getD .skip) (by kernel_rfl) (by kernel_rfl) (by kernel_rfl) rfl 0 rfl ?_
    repeat' (first | refine o1 ?_ | refine o2 ?_ | refine k1 ?_ | refine k2 ?_ | refine k3 ?_ | refine k7 ?_ | refine And.intro ?_ ?_ | (intro h; first | exact Bool.noConfusion h | exact nz _ h | exact nl h | (simp at h; done) | (simp at h; first | (exfalso; omega) | skip) | skip) | (change retOk _ _ _ _; refine ret_pure rfl trivial ?_) | (change vcFun _ _ _ _ _; refine call_eq rfl (by repeat' (first | trivial | refine And.intro ?_ ?_ | (show 0 + _ ≤ List.length _; simp))) ALeL.refl (hv) rfl ?_) | fail)
    all_goals first
      | (exfalso; omega)
      | exact ⟨ALe.tup ⟨ALe.pv PLe.nil, ALe.refl, trivial⟩⟩
theorem c_canon (m : Model) (plan : List Int) (hl : Laid m) : PCall Tryz.prog 19 [ag m.cells, .pv (encInts plan)] (fun r => r = .tup [.pv (.sl 1 ((canR m plan).map intRow)), vint .i64 (canE m plan)]) := (c_canon0 m plan hl).weak fun r k => ⟨_, k.le, rfl⟩
end Go.Proofs.YtihpjcmloecaaaaGreat.Cw
/-
  Symmetry: the example with which each law begins: two equal rooms can be exchanged.
-/
namespace Go.Proofs.YtihpjcmloecaaaaGreat.Cw
open Go Go.Cw Go.Proofs
set_option linter.unusedVariables false
set_option maxRecDepth 100000
set_option maxHeartbeats 8000000
def awO (r : Int) : Opt := ⟨⟨⟨0, 0, 0, 0⟩, r⟩, []⟩
def awL : List Opt := [awO 0, awO 1]
def awM : Model := ⟨[awL], [], [], 0⟩
theorem aw_pl (r s : Int) (h : r ≠ s) : ¬ (awO r).place = (awO s).place := fun e => h (congrArg Placed.room e)
theorem aw_at00 : placedAt awL (awO 0).place 0 = true := placed_t rfl rfl
theorem aw_at01 : placedAt awL (awO 0).place 1 = false := placed_f rfl (aw_pl 1 0 (by decide))
theorem aw_at10 : placedAt awL (awO 1).place 0 = false := placed_f rfl (aw_pl 0 1 (by decide))
theorem aw_at11 : placedAt awL (awO 1).place 1 = true := placed_t rfl rfl
theorem aw_s0 : sameP awL (awO 0).place 2 = [0] := by
  unfold sameP; rw [show List.range 2 = [0, 1] from rfl, List.filter_cons, aw_at00, if_pos rfl, List.filter_cons, aw_at01]; rfl
theorem aw_s1 : sameP awL (awO 1).place 2 = [1] := by
  unfold sameP; rw [show List.range 2 = [0, 1] from rfl, List.filter_cons, aw_at10, List.filter_cons, aw_at11]; rfl
theorem aw_s11 : sameP awL (awO 1).place 1 = [] := by
  unfold sameP; rw [show List.range 1 = [0] from rfl, List.filter_cons, aw_at10]; rfl
theorem aw_i01 : imgO awL 0 1 = some 1 := by
  show (sameP awL (awO 1).place 2)[(sameP awL (awO 0).place 0).length]? = _
  rw [aw_s1]; rfl
theorem aw_i10 : imgO awL 1 0 = some 0 := by
  show (sameP awL (awO 0).place 2)[(sameP awL (awO 1).place 1).length]? = _
  rw [aw_s0, aw_s11]; rfl
theorem aw_i11 : imgO awL 1 1 = some 1 := by
  show (sameP awL (awO 1).place 2)[(sameP awL (awO 1).place 1).length]? = _
  rw [aw_s1, aw_s11]; rfl
theorem aw_w0 : swapO awL 0 1 0 = some 1 := aw_i01
theorem aw_w1 : swapO awL 0 1 1 = some 0 := aw_i10
theorem aw_imgs : imgsL awL 0 1 2 = [1, 0] := by
  unfold imgsL; rw [show List.range 2 = [0, 1] from rfl, List.filterMap_cons_some aw_w0, List.filterMap_cons_some aw_w1]; rfl
theorem aw_ok : modelE awM = 0 := by
  refine mE0 ⟨by decide, fun l h => ?_, by decide, by decide, by decide, by decide⟩ ⟨fun l h o ho => ?_, fun i h => absurd h (Nat.not_lt_zero _), fun c h => absurd h List.not_mem_nil⟩
  · obtain rfl := List.mem_singleton.1 h; decide
  · obtain rfl := List.mem_singleton.1 h
    simp only [awL, List.mem_cons, List.not_mem_nil, or_false] at ho
    rcases ho with rfl | rfl <;> exact fun i h => absurd h (Nat.not_lt_zero _)
theorem aw_laid : Laid awM := ⟨by decide, by decide, fun l h o ho => by
    obtain rfl := List.mem_singleton.1 h
    simp only [awL, List.mem_cons, List.not_mem_nil, or_false] at ho
    rcases ho with rfl | rfl <;> decide, fun c h => absurd h List.not_mem_nil⟩
theorem aw_sw : swapP awM 0 1 := by
  refine ⟨fun l h i hi => ?_, fun p h => absurd h List.not_mem_nil, rfl⟩
  obtain rfl := List.mem_singleton.1 h
  match i, hi with
  | 0, _ => exact ⟨1, awO 0, awO 1, aw_w0, rfl, rfl, rfl⟩
  | 1, _ => exact ⟨0, awO 1, awO 0, aw_w1, rfl, rfl, rfl⟩
theorem aw_ex : exP awM 0 1 := ⟨aw_ok, by decide, by decide, by decide, aw_sw⟩
theorem aw_exV : exV awM 0 1 = [[1, 0]] := by
  unfold exV
  rw [if_pos (pB_t aw_ex)]
  show [imgsL awL 0 1 2] = _
  rw [aw_imgs]
theorem aw_rooms : roomsV awM = [0, 1] := by
  show compactI (sortI [0, 1]) = [0, 1]
  rw [show sortI [0, 1] = [0, 1] from List.mergeSort_of_pairwise (by decide)]
  decide
theorem aw_sets : setsV awM = [[0, 1]] := by
  unfold setsV
  rw [if_pos aw_ok, aw_rooms]
  show (if [(1 : Int)].filter (swB awM 0) = [] then [] else [(0 : Int) :: [1].filter (swB awM 0)]) ++ setsF awM 1 ([1].filter fun b => !swB awM 0 b) = _
  have h : swB awM 0 1 = true := pB_t aw_sw
  rw [List.filter_cons, h, if_pos rfl, List.filter_cons, h]
  rfl
theorem aw_plan : isPlanP awM [1] := ⟨rfl, fun j hj o l ho hl => by
  have hj : j < 1 := hj
  obtain rfl : j = 0 := by omega
  cases ho; cases hl; decide⟩
theorem aw_canE : canE awM [1] = 0 := by unfold canE; rw [if_pos aw_ok, pB_t aw_plan]; rfl
theorem aw_setF : setF [[0, 1]] 1 = [0, 1] := by
  unfold setF
  rw [List.find?_cons, show pB ((1 : Int) ∈ [(0 : Int), 1]) = true from pB_t (by decide)]; rfl
theorem aw_canR : canR awM [1] = [0] := by
  unfold canR
  rw [if_pos aw_canE]
  unfold canV
  rw [aw_sets]
  show (canS awM [1] [[0, 1]] (0 + 1)).1 = _
  rw [canS_next (o := 1) (l := awL) rfl rfl, if_neg (by decide)]
  show (canStep [[0, 1]] awL 1 1 0 ([1], [])).1 = _
  unfold canStep
  show ([1].set 0 ((setF [[0, 1]] 1).foldl (pickS [] fun t => imgI (imgO awL 1 t)) (-1, 1)).2) = [0]
  rw [aw_setF]
  have e1 : pickS [] (fun t => imgI (imgO awL 1 t)) (-1, 1) 0 = (0, 0) := by
    rw [pickS_put rfl (.inl (by decide))]; show (0, imgI (imgO awL 1 0)) = _; rw [aw_i10]; rfl
  have e2 : pickS [] (fun t => imgI (imgO awL 1 t)) (0, 0) 1 = (0, 0) := by
    rw [pickS_skip rfl]
    show ¬ ((0 : Int) < 0 ∨ imgI (imgO awL 1 1) < 0)
    rw [aw_i11]; decide
  rw [List.foldl_cons, e1, List.foldl_cons, e2]; rfl
theorem awake_ok : PCall Tryz.prog 10 [] (fun r => r = vbool true) := by
  have hS := c_Swap awM 0 1 aw_laid
  have hR := c_Rooms awM aw_laid
  have hC := c_canon awM [1] aw_laid
  rw [aw_exV, pB_t aw_ex] at hS
  rw [aw_sets] at hR
  rw [aw_canE, aw_canR] at hC
  refine acall_of tok mixed 66 rfl (fn := Tryz.f10) (c := Tryz.f10.body.getD .skip) (by kernel_rfl) (by kernel_rfl) (by kernel_rfl) rfl 0 rfl ?_
  repeat' (first | (refine join_in (a := .region 1 _ _) (fun _ => [(1, .ptr 0 4 0 0)]) (fun _ : Unit => [mdlO awM]) (fun _ => True) ?_) | refine o1 ?_ | refine o2 ?_ | refine k1 ?_ | refine k2 ?_ | refine And.intro ?_ ?_ | exact (by kernel_rfl : drawOk _ _ = true) | fail)
  · refine ⟨(), trivial, Ghost.trans (Ghost.pure0 (i := 1) (xs := []) (r0 := [.ms 0 6 0 2]) rfl rfl rfl ?_ rfl rfl rfl) (Ghost.trans (Ghost.shut (i := 2) (c := 0) (x := .ms 1 1 0 1) (y' := .pv (.sl 1 (awM.classes.map optsRow))) rfl rfl rfl ?_ (show ¬ (2 ∈ ([1] : List Nat)) by decide) (ALe.pv ?_)) (Ghost.trans (Ghost.shut (i := 2) (c := 1) (x := .pv (.val (.slice none 0 0))) rfl rfl rfl (by repeat' (first | trivial)) (show ¬ (2 ∈ ([] : List Nat)) by decide) (ALe.pv (PLe.nil (z := 4)))) (Ghost.trans (Ghost.shut (i := 2) (c := 2) (x := .pv (.val (.slice none 0 0))) rfl rfl rfl (by repeat' (first | trivial)) (show ¬ (2 ∈ ([] : List Nat)) by decide) (ALe.pv (PLe.nil (z := 4)))) (back [2] rfl rfl ⟨rfl, trivial⟩ (by repeat' (first | exact trivial | exact rfl | refine And.intro ?_ ?_))))))⟩
    · repeat' (first | exact True.intro | refine And.intro ?_ ?_ | (show 0 + _ ≤ List.length _; decide))
    · exact Nat.le_refl _
    · exact PLe.sl ⟨⟨PLe.sl ⟨⟨PLe.refl, PLe.refl, PLe.refl, PLe.refl, PLe.refl, PLe.nil, trivial⟩, ⟨PLe.refl, PLe.refl, PLe.refl, PLe.refl, PLe.refl, PLe.nil, trivial⟩, trivial⟩, trivial⟩, trivial⟩
  refine ⟨?_⟩
  intro _ _
  dsimp only [mdlO]
  repeat' (first | ((change vcFun _ _ _ _ _; refine call_frz rfl (by repeat' (first | trivial | refine And.intro ?_ ?_ | (show 0 + _ ≤ List.length _; simp))) ALeL.refl hS ?_; rintro _ rfl)) | ((change vcFun _ _ _ _ _; refine call_frz rfl (by repeat' (first | trivial | refine And.intro ?_ ?_ | (show 0 + _ ≤ List.length _; simp))) ALeL.refl hC ?_; rintro _ rfl)) | ((change vcFun _ _ _ _ _; refine call_frz rfl (by repeat' (first | trivial | refine And.intro ?_ ?_ | (show 0 + _ ≤ List.length _; simp))) ALeL.refl hR ?_; rintro _ rfl)) | (refine ⟨0, _, rfl, rfl, ?_⟩) | refine o1 ?_ | refine o2 ?_ | refine k1 ?_ | refine k2 ?_ | refine k7 ?_ | refine And.intro ?_ ?_ | (intro h; first | exact Bool.noConfusion h | exact nz _ h | exact nl h | (simp at h; done) | (simp at h; first | (exfalso; omega) | skip) | skip) | (change retOk _ _ _ _; refine ret_pure rfl trivial ?_) | refine eqv_len_map ?_ | fail)
  all_goals exact rfl
end Go.Proofs.YtihpjcmloecaaaaGreat.Cw
/-
  What the laws of chapter 22 are handed: lists of numbers, and numbers.
-/
namespace Go.Proofs.YtihpjcmloecaaaaGreat.Cw
open Go.Cw Go.Proofs
set_option linter.unusedVariables false
set_option maxRecDepth 100000
theorem in_int {qs : List PV} (h : PTy T 3 qs) : ∃ n : Int, qs = [ei n] ∧ -9223372036854775808 ≤ n ∧ n ≤ 9223372036854775807 := kd_int (by kernel_rfl) h
theorem in_ints {qs : List PV} (h : PTy T 22 qs) : ∃ l : List Int, qs = [encInts l] := by
  obtain ⟨l, h, _⟩ := kd_slice (fun s => [ei s]) (fun _ => True) (e := 3) (z := 1) (by kernel_rfl) (fun r hr => by obtain ⟨s, h, _⟩ := in_int hr; exact ⟨s, h, trivial⟩) h
  exact ⟨l, h⟩
theorem args_ints {ts : List TypeId} {al : List AV} (h : ArgsOk T (22 :: ts) al) : ∃ (l : List Int) (al' : _), al = .pv (encInts l) :: al' ∧ ArgsOk T ts al' := by
  obtain ⟨q, al', rfl, h1, h2⟩ := args_one (by kernel_rfl) h
  obtain ⟨l, h⟩ := in_ints h1
  injection h with h; subst h
  exact ⟨l, al', rfl, h2⟩
theorem args_int {ts : List TypeId} {al : List AV} (h : ArgsOk T (3 :: ts) al) : ∃ (n : Int) (al' : _), al = vint .i64 n :: al' ∧ -9223372036854775808 ≤ n ∧ n ≤ 9223372036854775807 ∧ ArgsOk T ts al' := by
  obtain ⟨q, al', rfl, h1, h2⟩ := args_one (by kernel_rfl) h
  obtain ⟨n, h, a, b⟩ := in_int h1
  injection h with h; subst h
  exact ⟨n, al', rfl, a, b, h2⟩
end Go.Proofs.YtihpjcmloecaaaaGreat.Cw
