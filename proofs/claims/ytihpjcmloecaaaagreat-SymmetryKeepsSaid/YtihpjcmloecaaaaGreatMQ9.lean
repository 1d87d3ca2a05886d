/-
  Part 9 of the proof (SBA, SA1, SW4): what later parts use. No conditions.
-/
import Derived.Test.YtihpjcmloecaaaaGreatMQ8
/-
  symmetry.Break.
-/
namespace Go.Proofs.YtihpjcmloecaaaaGreat.Cw
open Go Go.Cw Go.Proofs
set_option linter.unusedVariables false
set_option maxRecDepth 100000
set_option maxHeartbeats 30000000
def emptyM : Model := ⟨[], [], [], 0⟩
noncomputable def breakV (m : Model) : Model × Int := if modelE m = 0 then (if 56 ≤ m.rules then (emptyM, 2) else (brkM m, 0)) else (emptyM, modelE m)
theorem call_twin {H : Heap} {P : Program} {f : FuncId} {args : List AV} {K : AV → Heap → Prop} {N ty : Nat} {L : List (List Opt)} {p c : PV} {r : Int} (as0 : List AV) (hN : H.length = N) (ha : args = renL H.length [] as0)
    (hc : ACall P f as0 [] (fun x H' => x = .agg [slC 0 1 (clsF (shF 1) 0 L), .pv p, .pv c, .pv (ei r)] ∧ H' = obM ty 1 (clsF (shF 1) 0 L) :: tailF (shF 1) 0 L))
    (hK : K (.agg [slC N 1 (clsF (shF (N + 1)) 0 L), .pv p, .pv c, .pv (ei r)]) (H ++ obM ty 1 (clsF (shF (N + 1)) 0 L) :: tailF (shF (N + 1)) 0 L)) : vcFun P f args H K := by
  refine call_obj [] [] as0 rfl trivial ha hc fun x Hc' hp => ?_
  obtain ⟨rfl, rfl⟩ := hp
  subst hN
  refine ⟨Nat.zero_le _, ?_⟩
  have tg : ∀ (a n q : Nat), q < n → (tabl a n)[q]? = some (a + q) := fun a n => by
    induction n generalizing a with
    | zero => intro q h; omega
    | succ n ih =>
      intro q h
      cases q with
      | zero => rfl
      | succ q => simp only [tabl, List.getElem?_cons_succ]; rw [ih (a + 1) q (by omega)]; congr 1; omega
  have hlen : (obM ty 1 (clsF (shF 1) 0 L) :: tailF (shF 1) 0 L).length = nT L + 1 := by rw [List.length_cons, tailF_len]
  have hg : ∀ q, q < nT L → (tabl H.length (nT L + 1)).getD (shF 1 q) 0 = shF (H.length + 1) q := fun q hq => by
    rw [List.getD_eq_getElem?_getD, show shF 1 q = q + 1 from rfl, tg _ _ _ (by omega)]
    show H.length + (q + 1) = q + (H.length + 1)
    omega
  have h0 : (tabl H.length (nT L + 1)).getD 0 0 = H.length := by rw [List.getD_eq_getElem?_getD, tg _ _ _ (by omega)]; rfl
  have e1 : (clsF (shF 1) 0 L).map (renL 0 (tabl H.length (nT L + 1))) = clsF (shF (H.length + 1)) 0 L := by
    rw [clsF_ren]
    exact clsF_congr fun q _ h => hg q (by omega)
  have e2 : (tailF (shF 1) 0 L).map (renOpt 0 (tabl H.length (nT L + 1))) = tailF (shF (H.length + 1)) 0 L := by
    rw [tailF_ren]
    exact tailF_congr fun q _ h => hg q (by omega)
  have hres : renC 0 (tabl H.length (nT L + 1)) (.agg [slC 0 1 (clsF (shF 1) 0 L), .pv p, .pv c, .pv (ei r)]) = .agg [slC H.length 1 (clsF (shF (H.length + 1)) 0 L), .pv p, .pv c, .pv (ei r)] := by
    simp only [renC, renL, slC_ren, h0]
    rw [e1]
  have htk : taken 0 (tabl H.length (nT L + 1)) [] (obM ty 1 (clsF (shF 1) 0 L) :: tailF (shF 1) 0 L) H = H ++ obM ty 1 (clsF (shF (H.length + 1)) 0 L) :: tailF (shF (H.length + 1)) 0 L := by
    simp only [taken, List.map_cons, obM_ren]
    rw [e1, e2]
  simp only [List.length_nil, List.nil_append, Nat.sub_zero, hlen]
  rw [hres, htk]
  exact hK
theorem table_len {m : Model} (hz : sizedP m) (hg : goodP m) {p : Pair} (hp : p ∈ m.pairs) : p.table.length ≤ 576 := by
  obtain ⟨i, hi⟩ := List.getElem?_of_mem hp
  obtain ⟨_, _, _, ⟨a, b, ha, hb, he⟩, _⟩ := (hg.2.1 i (List.getElem?_eq_some_iff.1 hi).1 p hi).1
  rw [he]
  exact Nat.mul_le_mul (hz.2.1 a (List.mem_of_getElem? ha)) (hz.2.1 b (List.mem_of_getElem? hb))
theorem leq_empty {e : Int} : Leq (.tup [.agg [nilA, nilA, nilA, .pv (ei 0)], vint .i64 e]) (.tup [ag emptyM.cells, vint .i64 e]) := ⟨ALe.tup ⟨ALe.agg ⟨ALe.pv PLe.nil, ALe.pv PLe.nil, ALe.pv PLe.nil, ALe.refl, trivial⟩, ALe.refl, trivial⟩⟩
theorem c_break0 (m : Model) (hl : Laid m) : PCall Tryz.prog 22 [ag m.cells] (fun r => Leq r (.tup [ag (breakV m).1.cells, vint .i64 (breakV m).2])) := by
  have hv := c_valid m hl
  have hR := c_Rooms m hl
  by_cases hok : modelE m = 0
  · by_cases h56 : 56 ≤ m.rules
    · have hbv : breakV m = (emptyM, 2) := by unfold breakV; rw [if_pos hok, if_pos h56]
      rw [hbv]
      rw [hok] at hv
      refine acall_of tok mixed 87 rfl (fn := Tryz.f22) (c := Tryz.f22.body.getD .skip) (by kernel_rfl) (by kernel_rfl) (by kernel_rfl) rfl 0 rfl ?_
      repeat' (first | refine o1 ?_ | refine o2 ?_ | refine k1 ?_ | refine k2 ?_ | refine k3 ?_ | refine k6 ?_ | refine k7 ?_ | refine And.intro ?_ ?_ | (intro h; first | exact Bool.noConfusion h | exact nz _ h | exact nl h | (simp at h; done) | (simp at h; first | (exfalso; omega) | skip) | skip) | exact (by kernel_rfl : drawOk _ _ = true) | (change vcFun _ _ _ _ _; refine call_eq rfl (by repeat' (first | trivial | refine And.intro ?_ ?_ | (show 0 + _ ≤ List.length _; simp))) ALeL.refl (hv) rfl ?_) | fail)
      all_goals first
        | (exfalso; omega)
        | (change retOk _ _ _ _; refine ret_pure rfl (by repeat' (first | exact True.intro | refine And.intro ?_ ?_)) ?_; exact leq_empty)
    · have hbv : breakV m = (brkM m, 0) := by unfold breakV; rw [if_pos hok, if_neg h56]
      rw [hbv]
      rw [hok] at hv
      have hz := model_sized hok
      have hg := model_good hok
      have hch : ∀ l ∈ m.classes, ∀ o ∈ l, o.charges.length ≤ 56 := fun l h o ho => charges_len (hg.1 l h o ho) hz.2.2.2.2.2
      have ht := c_twin m (by have := hz.1; omega) (fun l h => by have := hz.2.1 l h; omega) (fun l h o ho => by have := hch l h o ho; omega) (by have := hz.2.2.1; omega) (fun p hp => by have := table_len hz hg hp; omega) (by have := hz.2.2.2.1; omega) (fun c hc => by have := loads_len hz (hg.2.2 c hc).2.2.2.2; omega)
      have hS : (setsV m).length ≤ 100000 := by
        have h1 : (setsV m).length ≤ (roomsV m).length := by unfold setsV; rw [if_pos hok]; exact sets_few
        have h2 := rooms_len hz
        omega
      have hSs : ∀ s ∈ setsV m, s.length ≤ 100000 := fun s h => sets_len hz hok s h
      obtain ⟨MC, MP, CC, MR⟩ := m
      have hbM : brkM ⟨MC, MP, CC, MR⟩ = ⟨brkL MR (setsV ⟨MC, MP, CC, MR⟩) MC, MP, CC, MR + 1⟩ := rfl
      have hcls := fun {s L} => @cls_of ⟨MC, MP, CC, MR⟩ s L hok
      have hne := fun s => @setsV_ne ⟨MC, MP, CC, MR⟩ s
      have hr0 : 0 ≤ MR := hz.2.2.2.2.1
      have hMC : ∀ l ∈ MC, l.length ≤ 24 := hz.2.1
      have hML : MC.length ≤ 24 := hz.1
      have h56 : MR < 56 := by dsimp only at h56; omega
      generalize setsV ⟨MC, MP, CC, MR⟩ = S at *
      rw [hbM]
      clear hbM hbv hz hg hl hok
      refine acall_of tok mixed 87 rfl (fn := Tryz.f22) (c := Tryz.f22.body.getD .skip) (by kernel_rfl) (by kernel_rfl) (by kernel_rfl) rfl 0 rfl ?_
      repeat' (first | ((show xCode _ _ _ _ (.seq (.region 6 _ _) _) _ _ _; refine join_S [(1, .ptr 0 4 0 0), (2, .ptr 1 4 0 0), (5, .ptr 2 4 0 0)] (hS0 ⟨MC, MP, CC, MR⟩ (.sl 4 (MP.map Pair.row)) (.sl 4 (CC.map Count.row)) MR none none MC) (stop_at ?_) (stop_at ?_))) | refine o1 ?_ | refine o2 ?_ | refine k1 ?_ | refine k2 ?_ | refine k3 ?_ | refine k6 ?_ | refine And.intro ?_ ?_ | (intro h; first | exact Bool.noConfusion h | exact nz _ h | exact nl h | (simp at h; done) | (simp at h; first | (exfalso; omega) | skip) | skip) | exact (by kernel_rfl : drawOk _ _ = true) | (change vcFun _ _ _ _ _; refine call_eq rfl (by repeat' (first | trivial | refine And.intro ?_ ?_ | (show 0 + _ ≤ List.length _; simp))) ALeL.refl (hv) rfl ?_) | fail)
      all_goals try (exfalso; omega)
      · refine ⟨?_⟩
        have hsh := fun (Γ : Slots) (G : Slots) hG => ghost_shift (n := 87) (Γ := Γ) (G := G) (m := ⟨MC, MP, CC, MR⟩) (P := .sl 4 (MP.map Pair.row)) (C := .sl 4 (CC.map Count.row)) (R := MR) (L := MC) hG
        rcases MC with _ | ⟨l0, L0⟩
        all_goals
          repeat' (first | ((change vcFun _ _ _ _ _; refine call_twin (N := 3) [_] rfl rfl ht ?_)) | ((change forceH (tailF _ _ _) _; refine forceH_in ?_)) | ((show Ghost _ _ _ _ _ _; refine stop_at ?_)) | refine o1 ?_ | refine o2 ?_ | refine k2 ?_ | refine And.intro ?_ ?_ | exact (by kernel_rfl : drawOk _ _ = true) | fail)
          refine ⟨?_⟩
          refine hsh _ _ fun d rest => ?_
          repeat' (first | exact trivial | exact rfl | refine And.intro ?_ ?_)
      · refine ⟨?_⟩
        repeat' (first | (refine fh_obM ?_) | ((change forceH (tailF _ _ _) _; refine forceH_in ?_)) | ((change vcFun _ _ _ _ _; refine call_frz rfl (by repeat' (first | trivial | refine And.intro ?_ ?_ | (show 0 + _ ≤ List.length _; simp))) ALeL.refl hR ?_; rintro _ rfl)) | refine o1 ?_ | refine o2 ?_ | refine k1 ?_ | refine k2 ?_ | refine k4 ?_ | refine eqv_len_map ?_ | refine eqv_wrap (by omega) (by omega) ?_ | fail)
        refine loop_for (fun k : Nat => [(1, .ptr 0 4 0 0), (2, .ptr 1 4 0 0), (5, .ptr 2 4 0 0), (29, .pv (.sl 1 (S.map lstRow))), (30, vint .i64 S.length), (31, vint .i64 k)]) (fun k => hS0 ⟨MC, MP, CC, MR⟩ (.sl 4 (MP.map Pair.row)) (.sl 4 (CC.map Count.row)) (MR + 1) none none (brkL MR (S.take k) MC)) (fun k => k ≤ S.length) (fun k => S.length - k) 0 (Nat.zero_le _) ?_ ?_
        · exact back_same (by repeat (first | exact keep_nil | refine keep_cons rfl ?_))
        intro k hk
        rcases Nat.lt_or_ge k S.length with hlt | hge
        · obtain ⟨s, hs⟩ := getE hlt
          have hsS := List.mem_of_getElem? hs
          obtain ⟨x0, st0, hs0⟩ := hne s hsS
          have hsl := hSs s hsS
          have hto : S.take (k + 1) = S.take k ++ [s] := by rw [List.take_add_one, hs]; rfl
          have hL1 : (brkL MR (S.take k) MC).map plcO = MC.map plcO := brkL_plc
          have hL2 := plc_len hL1 hMC
          have hL3 := brkL_ch (R := MR) (S := S.take k) hch
          have hL4 : (brkL MR (S.take k) MC).length ≤ 24 := by rw [brkL_len]; exact hML
          have hnx : brkL MR (S.take (k + 1)) MC = brkC MR s (brkL MR (S.take k) MC) := by rw [hto, brkL_snoc]
          generalize brkL MR (S.take k) MC = L at *
          obtain ⟨A, l, B, rfl, hA, hl⟩ := hcls hsS hL1
          have hic := c_inClass s (A ++ l :: B) hsl (fun l h => by have := hL2 l h; omega) (by omega)
          rw [idx_cls hA hl] at hic
          rw [brkC_at hA hl] at hnx
          have hlp : 0 < l.length := by
            cases l with
            | nil => simp at hl
            | cons a t => simp
          have hcv := fun a0 a1 a2 a4 a5 a6 a7 a8 a9 ty => @conv_S0p A B l a0 a1 a2 a4 a5 a6 a7 a8 a9 ty hlp
          have hAn : A.length < nCls A B := by unfold nCls; omega
          have hfa := far_a (m := ⟨MC, MP, CC, MR⟩) (P := .sl 4 (MP.map Pair.row)) (C := .sl 4 (CC.map Count.row)) (R := MR + 1) (A := A) (l := l) (B := B)
          have hfb := fun ty z fz p => far_b (ty := ty) (z := z) (fz := fz) (p := p) (m := ⟨MC, MP, CC, MR⟩) (P := .sl 4 (MP.map Pair.row)) (C := .sl 4 (CC.map Count.row)) (R := MR + 1) (A := A) (l := l) (B := B)
          rw [hS0_pos hlp]
          dsimp only [hS0p] at hfa hfb ⊢
          generalize hT : tailF (shF 10) 0 (A ++ l :: B) = T at *
          refine forceH_in ?_
          repeat' (first | ((change forceH T _; refine forceH_in ?_)) | (refine idx_sl (k := k) (at_map hs) (by omega) ?_) | (refine ⟨_, row_at, ?_⟩) | ((show xCode _ _ _ _ (.region 10 _ _) _ _ _; refine code_region_at (k := 4) (GhostF.room (Nat.zero_le _) (Nat.le_of_ble_eq_true rfl) (fun _ _ h => h) (show farS 4 1 _ = true by simp [farS, farL, far, vint, vbool]) hfa) ?_)) | ((show xCode _ _ _ _ (.region 11 _ _) _ _ _; refine code_region_at (k := 5) (GhostF.room (Nat.zero_le _) (Nat.le_of_ble_eq_true rfl) (fun _ _ h => h) (show farS 5 1 _ = true by simp [farS, farL, far, vint, vbool]) (hfb _ _ _ _)) ?_)) | ((change vcFun _ _ _ _ _; refine call_eq (conv_two (hcv _ _ _ _ _ _ _ _ _ _).1 rfl) (ok_two (hcv _ _ _ _ _ _ _ _ _ _).2 (by repeat' (first | exact True.intro | refine And.intro ?_ ?_))) ALeL.refl hic rfl ?_)) | refine o1 ?_ | refine o2 ?_ | refine k1 ?_ | refine k2 ?_ | refine k3 ?_ | refine k4 ?_ | refine k6 ?_ | refine And.intro ?_ ?_ | (intro h; first | exact Bool.noConfusion h | exact nz _ h | exact nl h | (simp at h; done) | (simp at h; first | (exfalso; omega) | skip) | skip) | exact (by kernel_rfl : drawOk _ _ = true) | refine eqv_zero ?_ | refine idx_ms _ (by first | rfl | assumption) (by first | assumption | omega) ?_ | fail)
          refine loop_for (fun i : Nat => [(1, .ptr 0 4 0 0), (2, .ptr 1 4 0 0), (5, .ptr 2 4 0 0), (29, .pv (.sl 1 (S.map lstRow))), (30, vint .i64 S.length), (31, vint .i64 k), (7, .ptr 4 1 0 0), (8, .ptr 5 1 0 0), (9, vint .i64 A.length), (45, vint .i64 l.length), (46, vint .i64 i)]) (fun i => hS1 ⟨MC, MP, CC, MR⟩ (.sl 4 (MP.map Pair.row)) (.sl 4 (CC.map Count.row)) (MR + 1) (bxS s) bxK A (lI (brkO MR s) l i) B) (fun i => i ≤ l.length) (fun i => l.length - i) 0 (Nat.zero_le _) ?_ ?_
          · subst hT
            exact ghost_01p (x4 := bxS s) (x5 := bxK) inv_bxS inv_bxK hlp (fun d rest => by repeat' (first | exact trivial | exact rfl | refine And.intro ?_ ?_))
          intro i hi
          rcases Nat.lt_or_ge i l.length with hlt2 | hge2
          · obtain ⟨o, ho⟩ := getE hlt2
            have hoi := lI_at (f := brkO MR s) ho
            have hsu := lI_succ (f := brkO MR s) ho
            have hll := lI_len (f := brkO MR s) (l := l) (i := i) hi
            have hoc := hL3 l (by simp) o (List.mem_of_getElem? ho)
            have hl24 := hL2 l (by simp)
            have hSk : (S.take k).length ≤ 100000 := by rw [List.length_take]; omega
            generalize lI (brkO MR s) l i = li at *
            have hfar := far_S2 (m := ⟨MC, MP, CC, MR⟩) (P := .sl 4 (MP.map Pair.row)) (C := .sl 4 (CC.map Count.row)) (R := MR + 1) (x4 := bxS s) (x5 := bxK) (A := A) (l := li) (B := B) (i := i) (o := o) (q := nT A + i) (s := s) (.inr rfl) (.inr rfl)
            have hrow := rowsF_at (g := gX (nT A + i) 7) (j := nT A) hoi
            rw [gX_at] at hrow
            have hrx := gX_rows (A := A) (x := 7) hoi
            refine forceH_in ?_
            repeat' (first | ((show xCode _ _ _ _ (.seq (.region 15 _ _) _) _ _ _; refine stop_at ?_)) | refine o1 ?_ | refine o2 ?_ | refine k1 ?_ | refine k2 ?_ | refine k3 ?_ | refine k4 ?_ | refine k6 ?_ | refine And.intro ?_ ?_ | (intro h; first | exact Bool.noConfusion h | exact nz _ h | exact nl h | (simp at h; done) | (simp at h; first | (exfalso; omega) | skip) | skip) | fail)
            all_goals try (exfalso; omega)
            refine ⟨?_⟩
            refine ghost_seq (ghost_12 (G := [(1, .ptr 0 4 0 0), (2, .ptr 1 4 0 0), (5, .ptr 2 4 0 0), (29, .pv (.sl 1 (S.map lstRow))), (30, vint .i64 S.length), (31, vint .i64 k), (7, .ptr 4 1 0 0), (8, .ptr 5 1 0 0), (9, vint .i64 A.length), (45, vint .i64 l.length), (46, vint .i64 i)]) inv_bxS inv_bxK hoi (fun d rest => by repeat' (first | exact trivial | exact rfl | refine And.intro ?_ ?_))) ?_
            dsimp only [hS2] at hfar ⊢
            have hcal := fun (H : Heap) => @conv_in o H s
            obtain ⟨pl, cs⟩ := o
            generalize rowsF (gX (nT A + i) 7) (nT A) li = rows at *
            generalize hM : mid A ((chsO li).set i none) none B li.length = T2 at *
            have hs00 : (s.map intRow)[0]? = some (intRow x0) := by rw [hs0]; rfl
            have hin := c_in s ⟨pl, cs⟩ hsl
            have hh : inS s ⟨pl, cs⟩ = true → ¬ pl.room = x0 → brkO MR s ⟨pl, cs⟩ = ⟨pl, cs ++ [⟨MR, forbI⟩]⟩ := fun h1 h2 => brkO_hit hs0 h1 h2
            have hn1 : pl.room = x0 → brkO MR s ⟨pl, cs⟩ = ⟨pl, cs⟩ := fun h2 => brkO_head hs0 h2
            have hn2 : inS s ⟨pl, cs⟩ = false → brkO MR s ⟨pl, cs⟩ = ⟨pl, cs⟩ := brkO_out
            have hcl : cs.length ≤ 200000 := by have : cs.length ≤ 56 + _ := hoc; omega
            rcases cs with _ | ⟨c0, C0⟩
            · repeat' (first | ((change forceH T2 _; refine forceH_in ?_)) | (refine idx_sl hs00 rfl ?_) | (refine ⟨_, row_at, ?_⟩) | (refine ⟨_, hrow, ?_⟩) | ((show xCode _ _ _ _ (.region 18 _ _) _ _ _; refine code_region_atD (k := 8) (GhostF.room (Nat.zero_le _) (Nat.le_of_ble_eq_true rfl) (fun _ _ h => h) (show farS 8 2 _ = true by simp [farS, farL, far, vint, vbool, chC]) hfar) ?_)) | (refine eqv_to (rows.set i (oRow (.ms 9 2 0 1) pl)) rfl ?_) | ((change vcFunD _ _ _ _ _; refine callD_eq (hcal _ rfl rfl).1 (hcal _ rfl rfl).2 ALeL.refl hin rfl ?_)) | refine o1 ?_ | refine o2 ?_ | refine k1 ?_ | refine k2 ?_ | refine k3 ?_ | refine k6 ?_ | refine And.intro ?_ ?_ | refine o3 ?_ | refine o4 ?_ | (intro h; first | exact Bool.noConfusion h | exact nz _ h | exact nl h | (simp at h; done) | (simp at h; first | (exfalso; omega) | skip) | skip) | (refine (?_ : srcLen _ = rowsLen _); rfl) | exact Nat.le_of_ble_eq_true rfl | exact (by kernel_rfl : drawOk _ _ = true) | refine eqv_zero ?_ | refine eqv_wrap (by omega) (by omega) ?_ | refine eqv_to _ (app_first rfl) (eqv_to 1 rfl ?_) | refine idx_ms _ (by first | rfl | assumption) (by first | assumption | omega) ?_ | fail)
              all_goals try (focus
                   have hb : brkO MR s _ = _ := (by first | exact hn2 (by assumption) | exact hn1 (by assumption))
                   rw [hb] at hsu
                   subst hM
                   refine ⟨i + 1, hlt2, by omega, ?_⟩
                   refine ghost_21 (x := 7) ⟨by decide, by decide⟩ inv_bxS inv_bxK hoi rfl hrx (by first | exact .inl rfl | exact .inr rfl) hsu (fun d rest => ?_)
                   repeat' (first | exact trivial | exact rfl | refine And.intro ?_ ?_))
              have hb := hh (by assumption) (by assumption)
              rw [hb] at hsu
              subst hM
              refine ⟨i + 1, hlt2, by omega, ?_⟩
              refine ghost_21 (x := 9) (o' := ⟨pl, ([] : List Charge) ++ [⟨MR, forbI⟩]⟩) ⟨by decide, by decide⟩ inv_bxS inv_bxK hoi rfl ?_ (.inr rfl) hsu (fun d rest => ?_)
              · rw [hrx, List.set_set]; simp [chC]
              · repeat' (first | exact trivial | exact rfl | refine And.intro ?_ ?_)
            · simp only [List.length_cons] at hcl
              repeat' (first | ((change forceH T2 _; refine forceH_in ?_)) | (refine idx_sl hs00 rfl ?_) | (refine ⟨_, row_at, ?_⟩) | (refine ⟨_, hrow, ?_⟩) | ((show xCode _ _ _ _ (.region 18 _ _) _ _ _; refine code_region_atD (k := 8) (GhostF.room (Nat.zero_le _) (Nat.le_of_ble_eq_true rfl) (fun _ _ h => h) (show farS 8 2 _ = true by simp [farS, farL, far, vint, vbool, chC]) hfar) ?_)) | (refine eqv_to (rows.set i (oRow (.ms 9 2 0 (C0.length + 2)) pl)) rfl ?_) | (refine eqv_to _ (app_row (f := Charge.row) (l := c0 :: C0) (y := ⟨MR, forbI⟩) rfl) (eqv_to (C0.length + 2) (by simp [rowsLen]) ?_)) | ((show rowsLen _ * _ ≤ _; simp [rowsLen]; omega)) | ((show rowsLen _ ≤ _; simp [rowsLen]; omega)) | ((change vcFunD _ _ _ _ _; refine callD_eq (hcal _ rfl rfl).1 (hcal _ rfl rfl).2 ALeL.refl hin rfl ?_)) | refine o1 ?_ | refine o2 ?_ | refine k1 ?_ | refine k2 ?_ | refine k3 ?_ | refine k6 ?_ | refine And.intro ?_ ?_ | refine o3 ?_ | refine o4 ?_ | (intro h; first | exact Bool.noConfusion h | exact nz _ h | exact nl h | (simp at h; done) | (simp at h; first | (exfalso; omega) | skip) | skip) | (refine (?_ : srcLen _ = rowsLen _); rfl) | exact Nat.le_of_ble_eq_true rfl | exact (by kernel_rfl : drawOk _ _ = true) | refine eqv_zero ?_ | refine eqv_wrap (by omega) (by omega) ?_ | (refine (?_ : _ = rowsLen _); simp [rowsLen] <;> omega) | refine idx_ms _ (by first | rfl | assumption) (by first | assumption | omega) ?_ | fail)
              all_goals try (focus
                   have hb : brkO MR s _ = _ := (by first | exact hn2 (by assumption) | exact hn1 (by assumption))
                   rw [hb] at hsu
                   subst hM
                   refine ⟨i + 1, hlt2, by omega, ?_⟩
                   refine ghost_21 (x := 7) ⟨by decide, by decide⟩ inv_bxS inv_bxK hoi rfl hrx (by first | exact .inl rfl | exact .inr rfl) hsu (fun d rest => ?_)
                   repeat' (first | exact trivial | exact rfl | refine And.intro ?_ ?_))
              have hb := hh (by assumption) (by assumption)
              rw [hb] at hsu
              subst hM
              refine ⟨i + 1, hlt2, by omega, ?_⟩
              refine ghost_21 (x := 9) (o' := ⟨pl, c0 :: C0 ++ [⟨MR, forbI⟩]⟩) ⟨by decide, by decide⟩ inv_bxS inv_bxK hoi rfl ?_ (.inr rfl) hsu (fun d rest => ?_)
              · rw [hrx, List.set_set]; simp [chC]
              · repeat' (first | exact trivial | exact rfl | refine And.intro ?_ ?_)
          · obtain rfl : i = l.length := by omega
            rw [lI_all]
            have hll : (l.map (brkO MR s)).length = l.length := List.length_map _
            refine forceH_in ?_
            repeat' (first | refine o1 ?_ | refine o2 ?_ | refine k1 ?_ | refine k2 ?_ | refine k3 ?_ | refine k8 ?_ | refine And.intro ?_ ?_ | (intro h; first | exact Bool.noConfusion h | exact nz _ h | exact nl h | (simp at h; done) | (simp at h; first | (exfalso; omega) | skip) | skip) | refine eqv_wrap (by omega) (by omega) ?_ | fail)
            all_goals try (exfalso; omega)
            refine ⟨k + 1, hlt, by omega, ?_⟩
            rw [hnx]
            refine ghost_10 (x4 := bxS s) (x5 := bxK) (by omega) (fun d rest => ?_)
            repeat' (first | exact trivial | exact rfl | refine And.intro ?_ ?_)
        · obtain rfl : k = S.length := by omega
          have hlt' : S.take S.length = S := List.take_length
          rw [hlt']
          generalize brkL MR S MC = L
          have hcv := fun a0 a1 a2 a4 a5 a6 a7 a8 a9 ty => @conv_S0 L a0 a1 a2 a4 a5 a6 a7 a8 a9 ty
          have hfin : ∀ (x1 : Option AObj) (y : AV), y = slC 3 1 (clsF (shF 10) 0 L) → retOk 0 (.tup [.agg [y, .pv (.sl 4 (MP.map Pair.row)), .pv (.sl 4 (CC.map Count.row)), .pv (ei (MR + 1))], vint .i64 0]) (boxA ⟨MC, MP, CC, MR⟩ :: x1 :: boxM y (.pv (.sl 4 (MP.map Pair.row))) (.pv (.sl 4 (CC.map Count.row))) (MR + 1) :: obM 51 1 (clsF (shF 10) 0 L) :: none :: none :: none :: none :: none :: none :: tailF (shF 10) 0 L) (fun r H' => H' = [] ∧ Leq r (.tup [ag (⟨L, MP, CC, MR + 1⟩ : Model).cells, vint .i64 0])) := fun x1 y hy => by
            subst hy
            have h1 := (hcv (boxA ⟨MC, MP, CC, MR⟩) x1 (boxM (slC 3 1 (clsF (shF 10) 0 L)) (.pv (.sl 4 (MP.map Pair.row))) (.pv (.sl 4 (CC.map Count.row))) (MR + 1)) none none none none none none 51)
            refine ret_pure (r0 := .tup [ag (⟨L, MP, CC, MR + 1⟩ : Model).cells, vint .i64 0]) ?_ ?_ ⟨ALe.refl⟩
            · simp only [conv, conv1, mapO, h1.1, convC]
              rfl
            · refine ⟨?_, trivial⟩
              show andL (okC _ 5) [slC 3 1 (clsF (shF 10) 0 L), _, _, _]
              rw [andL_cons fun p => trivial]
              exact ⟨h1.2, trivial⟩
          clear hcv
          rcases L with _ | ⟨l0, L0⟩
          all_goals
            refine forceH_in ?_
            repeat' (first | (refine fh_obM ?_) | ((change forceH (tailF _ _ _) _; refine forceH_in ?_)) | ((change retOk _ _ _ _; refine hfin _ _ rfl)) | refine o1 ?_ | refine o2 ?_ | refine k1 ?_ | refine k2 ?_ | refine k3 ?_ | refine k7 ?_ | refine k8 ?_ | refine And.intro ?_ ?_ | (intro h; first | exact Bool.noConfusion h | exact nz _ h | exact nl h | (simp at h; done) | (simp at h; first | (exfalso; omega) | skip) | skip) | fail)
            all_goals first
              | (exfalso; omega)
  · have hbv : breakV m = (emptyM, modelE m) := by unfold breakV; rw [if_neg hok]
    rw [hbv]
    refine acall_of tok mixed 87 rfl (fn := Tryz.f22) (c := Tryz.f22.body.getD .skip) (by kernel_rfl) (by kernel_rfl) (by kernel_rfl) rfl 0 rfl ?_
    repeat' (first | refine o1 ?_ | refine o2 ?_ | refine k1 ?_ | refine k2 ?_ | refine k3 ?_ | refine k7 ?_ | refine And.intro ?_ ?_ | (intro h; first | exact Bool.noConfusion h | exact nz _ h | exact nl h | (simp at h; done) | (simp at h; first | (exfalso; omega) | skip) | skip) | exact (by kernel_rfl : drawOk _ _ = true) | (change vcFun _ _ _ _ _; refine call_eq rfl (by repeat' (first | trivial | refine And.intro ?_ ?_ | (show 0 + _ ≤ List.length _; simp))) ALeL.refl (hv) rfl ?_) | fail)
    all_goals first
      | (exfalso; omega)
      | (change retOk _ _ _ _; refine ret_pure rfl (by repeat' (first | exact True.intro | refine And.intro ?_ ?_)) ?_; exact leq_empty)
theorem c_break (m : Model) (hl : Laid m) : PCall Tryz.prog 22 [ag m.cells] (fun r => r = .tup [ag (breakV m).1.cells, vint .i64 (breakV m).2]) := (c_break0 m hl).weak fun r k => ⟨_, k.le, rfl⟩
end Go.Proofs.YtihpjcmloecaaaaGreat.Cw
/-
  What the laws of chapter 22 are handed: lists of numbers, and numbers.
-/
namespace Go.Proofs.YtihpjcmloecaaaaGreat.Cw
open Go.Cw Go.Proofs
set_option linter.unusedVariables false
set_option maxRecDepth 100000
theorem in_int {qs : List PV} (h : PTy T 3 qs) : ∃ n : Int, qs = [ei n] ∧ -9223372036854775808 ≤ n ∧ n ≤ 9223372036854775807 := kd_int (by kernel_rfl) h
theorem in_ints {qs : List PV} (h : PTy T 22 qs) : ∃ l : List Int, qs = [encInts l] := by
  obtain ⟨l, h, _⟩ := kd_slice (fun s => [ei s]) (fun _ => True) (e := 3) (z := 1) (by kernel_rfl) (fun r hr => by obtain ⟨s, h, _⟩ := in_int hr; exact ⟨s, h, trivial⟩) h
  exact ⟨l, h⟩
theorem args_ints {ts : List TypeId} {al : List AV} (h : ArgsOk T (22 :: ts) al) : ∃ (l : List Int) (al' : _), al = .pv (encInts l) :: al' ∧ ArgsOk T ts al' := by
  obtain ⟨q, al', rfl, h1, h2⟩ := args_one (by kernel_rfl) h
  obtain ⟨l, h⟩ := in_ints h1
  injection h with h; subst h
  exact ⟨l, al', rfl, h2⟩
end Go.Proofs.YtihpjcmloecaaaaGreat.Cw
/-
  Symmetry: the example with which each law begins: two equal rooms can be exchanged.
-/
namespace Go.Proofs.YtihpjcmloecaaaaGreat.Cw
open Go Go.Cw Go.Proofs
set_option linter.unusedVariables false
set_option maxRecDepth 100000
set_option maxHeartbeats 8000000
def awO (r : Int) : Opt := ⟨⟨⟨0, 0, 0, 0⟩, r⟩, []⟩
def awL : List Opt := [awO 0, awO 1]
def awM : Model := ⟨[awL], [], [], 0⟩
theorem aw_pl (r s : Int) (h : r ≠ s) : ¬ (awO r).place = (awO s).place := fun e => h (congrArg Placed.room e)
theorem aw_at00 : placedAt awL (awO 0).place 0 = true := placed_t rfl rfl
theorem aw_at01 : placedAt awL (awO 0).place 1 = false := placed_f rfl (aw_pl 1 0 (by decide))
theorem aw_at10 : placedAt awL (awO 1).place 0 = false := placed_f rfl (aw_pl 0 1 (by decide))
theorem aw_at11 : placedAt awL (awO 1).place 1 = true := placed_t rfl rfl
theorem aw_s0 : sameP awL (awO 0).place 2 = [0] := by
  unfold sameP; rw [show List.range 2 = [0, 1] from rfl, List.filter_cons, aw_at00, if_pos rfl, List.filter_cons, aw_at01]; rfl
theorem aw_s1 : sameP awL (awO 1).place 2 = [1] := by
  unfold sameP; rw [show List.range 2 = [0, 1] from rfl, List.filter_cons, aw_at10, List.filter_cons, aw_at11]; rfl
theorem aw_s11 : sameP awL (awO 1).place 1 = [] := by
  unfold sameP; rw [show List.range 1 = [0] from rfl, List.filter_cons, aw_at10]; rfl
theorem aw_i01 : imgO awL 0 1 = some 1 := by
  show (sameP awL (awO 1).place 2)[(sameP awL (awO 0).place 0).length]? = _
  rw [aw_s1]; rfl
theorem aw_i10 : imgO awL 1 0 = some 0 := by
  show (sameP awL (awO 0).place 2)[(sameP awL (awO 1).place 1).length]? = _
  rw [aw_s0, aw_s11]; rfl
theorem aw_i11 : imgO awL 1 1 = some 1 := by
  show (sameP awL (awO 1).place 2)[(sameP awL (awO 1).place 1).length]? = _
  rw [aw_s1, aw_s11]; rfl
theorem aw_w0 : swapO awL 0 1 0 = some 1 := aw_i01
theorem aw_w1 : swapO awL 0 1 1 = some 0 := aw_i10
theorem aw_imgs : imgsL awL 0 1 2 = [1, 0] := by
  unfold imgsL; rw [show List.range 2 = [0, 1] from rfl, List.filterMap_cons_some aw_w0, List.filterMap_cons_some aw_w1]; rfl
theorem aw_ok : modelE awM = 0 := by
  refine mE0 ⟨by decide, fun l h => ?_, by decide, by decide, by decide, by decide⟩ ⟨fun l h o ho => ?_, fun i h => absurd h (Nat.not_lt_zero _), fun c h => absurd h List.not_mem_nil⟩
  · obtain rfl := List.mem_singleton.1 h; decide
  · obtain rfl := List.mem_singleton.1 h
    simp only [awL, List.mem_cons, List.not_mem_nil, or_false] at ho
    rcases ho with rfl | rfl <;> exact fun i h => absurd h (Nat.not_lt_zero _)
theorem aw_laid : Laid awM := ⟨by decide, by decide, fun l h o ho => by
    obtain rfl := List.mem_singleton.1 h
    simp only [awL, List.mem_cons, List.not_mem_nil, or_false] at ho
    rcases ho with rfl | rfl <;> decide, fun c h => absurd h List.not_mem_nil⟩
theorem aw_sw : swapP awM 0 1 := by
  refine ⟨fun l h i hi => ?_, fun p h => absurd h List.not_mem_nil, rfl⟩
  obtain rfl := List.mem_singleton.1 h
  match i, hi with
  | 0, _ => exact ⟨1, awO 0, awO 1, aw_w0, rfl, rfl, rfl⟩
  | 1, _ => exact ⟨0, awO 1, awO 0, aw_w1, rfl, rfl, rfl⟩
theorem aw_ex : exP awM 0 1 := ⟨aw_ok, by decide, by decide, by decide, aw_sw⟩
theorem aw_exV : exV awM 0 1 = [[1, 0]] := by
  unfold exV
  rw [if_pos (pB_t aw_ex)]
  show [imgsL awL 0 1 2] = _
  rw [aw_imgs]
theorem aw_rooms : roomsV awM = [0, 1] := by
  show compactI (sortI [0, 1]) = [0, 1]
  rw [show sortI [0, 1] = [0, 1] from List.mergeSort_of_pairwise (by decide)]
  decide
theorem aw_sets : setsV awM = [[0, 1]] := by
  unfold setsV
  rw [if_pos aw_ok, aw_rooms]
  show (if [(1 : Int)].filter (swB awM 0) = [] then [] else [(0 : Int) :: [1].filter (swB awM 0)]) ++ setsF awM 1 ([1].filter fun b => !swB awM 0 b) = _
  have h : swB awM 0 1 = true := pB_t aw_sw
  rw [List.filter_cons, h, if_pos rfl, List.filter_cons, h]
  rfl
theorem aw_plan : isPlanP awM [1] := ⟨rfl, fun j hj o l ho hl => by
  have hj : j < 1 := hj
  obtain rfl : j = 0 := by omega
  cases ho; cases hl; decide⟩
theorem aw_canE : canE awM [1] = 0 := by unfold canE; rw [if_pos aw_ok, pB_t aw_plan]; rfl
theorem aw_setF : setF [[0, 1]] 1 = [0, 1] := by
  unfold setF
  rw [List.find?_cons, show pB ((1 : Int) ∈ [(0 : Int), 1]) = true from pB_t (by decide)]; rfl
theorem aw_canR : canR awM [1] = [0] := by
  unfold canR
  rw [if_pos aw_canE]
  unfold canV
  rw [aw_sets]
  show (canS awM [1] [[0, 1]] (0 + 1)).1 = _
  rw [canS_next (o := 1) (l := awL) rfl rfl, if_neg (by decide)]
  show (canStep [[0, 1]] awL 1 1 0 ([1], [])).1 = _
  unfold canStep
  show ([1].set 0 ((setF [[0, 1]] 1).foldl (pickS [] fun t => imgI (imgO awL 1 t)) (-1, 1)).2) = [0]
  rw [aw_setF]
  have e1 : pickS [] (fun t => imgI (imgO awL 1 t)) (-1, 1) 0 = (0, 0) := by
    rw [pickS_put rfl (.inl (by decide))]; show (0, imgI (imgO awL 1 0)) = _; rw [aw_i10]; rfl
  have e2 : pickS [] (fun t => imgI (imgO awL 1 t)) (0, 0) 1 = (0, 0) := by
    rw [pickS_skip rfl]
    show ¬ ((0 : Int) < 0 ∨ imgI (imgO awL 1 1) < 0)
    rw [aw_i11]; decide
  rw [List.foldl_cons, e1, List.foldl_cons, e2]; rfl
theorem awake_ok : PCall Tryz.prog 10 [] (fun r => r = vbool true) := by
  have hS := c_Swap awM 0 1 aw_laid
  have hR := c_Rooms awM aw_laid
  have hC := c_canon awM [1] aw_laid
  rw [aw_exV, pB_t aw_ex] at hS
  rw [aw_sets] at hR
  rw [aw_canE, aw_canR] at hC
  refine acall_of tok mixed 66 rfl (fn := Tryz.f10) (c := Tryz.f10.body.getD .skip) (by kernel_rfl) (by kernel_rfl) (by kernel_rfl) rfl 0 rfl ?_
  repeat' (first | (refine join_in (a := .region 1 _ _) (fun _ => [(1, .ptr 0 4 0 0)]) (fun _ : Unit => [mdlO awM]) (fun _ => True) ?_) | refine o1 ?_ | refine o2 ?_ | refine k1 ?_ | refine k2 ?_ | refine And.intro ?_ ?_ | exact (by kernel_rfl : drawOk _ _ = true) | fail)
  · refine ⟨(), trivial, Ghost.trans (Ghost.pure0 (i := 1) (xs := []) (r0 := [.ms 0 6 0 2]) rfl rfl rfl ?_ rfl rfl rfl) (Ghost.trans (Ghost.shut (i := 2) (c := 0) (x := .ms 1 1 0 1) (y' := .pv (.sl 1 (awM.classes.map optsRow))) rfl rfl rfl ?_ (show ¬ (2 ∈ ([1] : List Nat)) by decide) (ALe.pv ?_)) (Ghost.trans (Ghost.shut (i := 2) (c := 1) (x := .pv (.val (.slice none 0 0))) rfl rfl rfl (by repeat' (first | trivial)) (show ¬ (2 ∈ ([] : List Nat)) by decide) (ALe.pv (PLe.nil (z := 4)))) (Ghost.trans (Ghost.shut (i := 2) (c := 2) (x := .pv (.val (.slice none 0 0))) rfl rfl rfl (by repeat' (first | trivial)) (show ¬ (2 ∈ ([] : List Nat)) by decide) (ALe.pv (PLe.nil (z := 4)))) (back [2] rfl rfl ⟨rfl, trivial⟩ (by repeat' (first | exact trivial | exact rfl | refine And.intro ?_ ?_))))))⟩
    · repeat' (first | exact True.intro | refine And.intro ?_ ?_ | (show 0 + _ ≤ List.length _; decide))
    · exact Nat.le_refl _
    · exact PLe.sl ⟨⟨PLe.sl ⟨⟨PLe.refl, PLe.refl, PLe.refl, PLe.refl, PLe.refl, PLe.nil, trivial⟩, ⟨PLe.refl, PLe.refl, PLe.refl, PLe.refl, PLe.refl, PLe.nil, trivial⟩, trivial⟩, trivial⟩, trivial⟩
  refine ⟨?_⟩
  intro _ _
  dsimp only [mdlO]
  repeat' (first | ((change vcFun _ _ _ _ _; refine call_frz rfl (by repeat' (first | trivial | refine And.intro ?_ ?_ | (show 0 + _ ≤ List.length _; simp))) ALeL.refl hS ?_; rintro _ rfl)) | ((change vcFun _ _ _ _ _; refine call_frz rfl (by repeat' (first | trivial | refine And.intro ?_ ?_ | (show 0 + _ ≤ List.length _; simp))) ALeL.refl hC ?_; rintro _ rfl)) | ((change vcFun _ _ _ _ _; refine call_frz rfl (by repeat' (first | trivial | refine And.intro ?_ ?_ | (show 0 + _ ≤ List.length _; simp))) ALeL.refl hR ?_; rintro _ rfl)) | (refine ⟨0, _, rfl, rfl, ?_⟩) | refine o1 ?_ | refine o2 ?_ | refine k1 ?_ | refine k2 ?_ | refine k7 ?_ | refine And.intro ?_ ?_ | (intro h; first | exact Bool.noConfusion h | exact nz _ h | exact nl h | (simp at h; done) | (simp at h; first | (exfalso; omega) | skip) | skip) | (change retOk _ _ _ _; refine ret_pure rfl trivial ?_) | refine eqv_len_map ?_ | fail)
  all_goals exact rfl
end Go.Proofs.YtihpjcmloecaaaaGreat.Cw
