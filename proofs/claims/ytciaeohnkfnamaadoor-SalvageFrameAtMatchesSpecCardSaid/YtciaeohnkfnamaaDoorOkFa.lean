/- A text of the proof: a verified executor of the program form, or the contracts of the functions that the law reaches. -/
import Derived.Test.YtciaeohnkfnamaaDoorOkFac
set_option linter.all false
namespace Go.Proofs.YtciaeohnkfnamaaDoor
open Go Go.Vx
set_option maxRecDepth 10000
set_option maxHeartbeats 1000000
set_option linter.unusedVariables false
theorem ok_salvage_grouped {l : List api_Rest} {r : (List api_Rest)} (h : salvage_grouped l = some r) :
  CSpec Tryd.prog gl0 60 [.sl 81 (List.map R81 l)] (.sl 81 (List.map R81 r)) := by
 unfold salvage_grouped at h
 replace h := bnd0 h
 refine spec_of (by kernel_rfl) Tryd.func60 rfl rfl ?_
 intro w0 A
 refine T_seq (T_reg ?_)
 refine R_q _ rfl (v_assign (ov rfl)) ?_
 refine R_nil ?_
 refine T_keep (kc 0 rfl <| kn) rfl ?_
 refine T_seq (T_reg ?_)
 refine R_w _ _ rfl (w_makeMap 0 rfl tMp146) ?_
 refine R_q _ rfl (v_assign (ov rfl)) ?_
 refine R_nil ?_
 refine T_keep (kc 0 rfl <| kc 3 rfl <| kn) rfl ?_
 refine T_seq (T_reg ?_)
 refine R_q _ rfl (v_assign (ov rfl)) ?_
 refine R_nil ?_
 refine T_joinG id (t2 fun groups numbers => ⟨[(3, .mref 0 1), (4, .own 1 numbers.length)], [some ⟨146, [[.mcon (List.map (mrow FK3 (osF 81 R81)) groups)]]⟩, some ⟨3, List.map R3 numbers⟩]⟩) h (fun h => ?_) (fun j h => ?_)
 ·
  refine T_seq (T_reg ?_)
  refine R_q _ rfl (v_move (ov rfl)) ?_
  refine R_q _ rfl (v_len (slv_sl (ov rfl) tZ_81) tL75 (len_map _ _)) ?_
  refine R_q _ rfl (v_move (ov rfl)) ?_
  refine R_nil ?_
  refine T_block ?_
  obtain ⟨r1, hl1, ho1⟩ := bndL h
  refine T_loopG _ (t3 fun groups2 numbers2 i => ⟨[(3, .mref 0 1), (4, .own 1 numbers2.length), (11, .sl 81 (List.map R81 l)), (12, .int .i64 (l.length : Int)), (13, .int .i64 i)], [some ⟨146, [[.mcon (List.map (mrow FK3 (osF 81 R81)) groups2)]]⟩, some ⟨3, List.map R3 numbers2⟩]⟩) _ hl1 (Ent.sel [some 0, none] (sr 3 rfl (.mref _ rfl) <| sr 4 rfl (.row rfl) <| sd 11 rfl rfl <| sd 12 rfl rfl <| sd 13 rfl rfl <| sn) (.cons rfl (roMap (fk := FK3) (fv := (osF 81 R81)) (m := ([] : List (Int × (List api_Rest)))) tZ_146 (fun _ => .dat rfl) (fun _ => (rcOs D81))) <| .row 3 <| .nil) rfl rfl) (fun n1 s1 h => ?_)
  obtain ⟨groups2, numbers2, i⟩ := s1
  replace h := t3i h
  refine t3T ?_
  unfold salvage_grouped_L1 at h
  refine T_seq (T_reg ?_)
  refine R_q _ rfl (v_lss (ov rfl) (ov rfl)) ?_
  refine R_nil ?_
  refine T_seq ?_
  refine T_if h rfl (fun b14 h => ?_) (fun b14 h => ?_)
  ·
   refine T_skip ?_
   refine T_joinG id (t2 fun groups3 numbers3 => ⟨[(3, .mref 0 1), (4, .own 1 numbers3.length), (11, .sl 81 (List.map R81 l)), (12, .int .i64 (l.length : Int)), (13, .int .i64 i)], [some ⟨146, [[.mcon (List.map (mrow FK3 (osF 81 R81)) groups3)]]⟩, some ⟨3, List.map R3 numbers3⟩]⟩) h (fun h => ?_) (fun j h => ?_)
   ·
    refine T_block ?_
    refine T_keep (kc 3 rfl <| kc 4 rfl <| kc 11 rfl <| kc 12 rfl <| kc 13 rfl <| kn) rfl ?_
    refine T_seq (T_reg ?_)
    obtain ⟨x, h_x, h⟩ := bnd h
    refine R_q _ rfl (v_ixSG (ov rfl) (ov rfl) tL75 h_x) ?_
    refine R_q _ rfl (v_loadA_r (ov rfl) tA81 (at_sub (at_all (lnC (n := 131) (lnA (m := 64) (n := 67) arL (lnA (m := 64) (n := 3) arL (lnC (n := 2) (lnC (n := 1) (lnC (n := 0) (lnN))))))))) (lnC (n := 131) (lnA (m := 64) (n := 67) arL (lnA (m := 64) (n := 3) arL (lnC (n := 2) (lnC (n := 1) (lnC (n := 0) (lnN)))))))) ?_
    refine R_w _ _ rfl (w_alloc (row := (.int .i64 0) :: ((List.map C36 (Vector.replicate 64 0).toList) ++ (((List.map C3 (Vector.replicate 64 0).toList) ++ ((.bool false) :: (.int .i64 0) :: (.bool false) :: []))))) 2 rfl tZ81 (by kernel_rfl) (by exact Eq.symm (Eq.trans (b := 132) (lnC (n := 131) (lnA (m := 64) (n := 67) arL (lnA (m := 64) (n := 3) arL (lnC (n := 2) (lnC (n := 1) (lnC (n := 0) (lnN))))))) tZ_81.symm))) ?_
    refine R_w _ _ rfl (w_store (ov rfl) (ov rfl) (cells_agg tA81 (lnC (n := 131) (lnA (m := 64) (n := 67) arL (lnA (m := 64) (n := 3) arL (lnC (n := 2) (lnC (n := 1) (lnC (n := 0) (lnN)))))))) rfl rfl rfl (put_le (at_all (lnC (n := 131) (lnA (m := 64) (n := 67) arL (lnA (m := 64) (n := 3) arL (lnC (n := 2) (lnC (n := 1) (lnC (n := 0) (lnN)))))))) (lnC (n := 131) (lnA (m := 64) (n := 67) arL (lnA (m := 64) (n := 3) arL (lnC (n := 2) (lnC (n := 1) (lnC (n := 0) (lnN)))))))) (cell1_all (alC rfl (alA (arC fun _ => rfl) (alA (arC fun _ => rfl) (alC rfl (alC rfl (alC rfl (alN)))))))) (put_all (Eq.trans (lnC (n := 131) (lnA (m := 64) (n := 67) arL (lnA (m := 64) (n := 3) arL (lnC (n := 2) (lnC (n := 1) (lnC (n := 0) (lnN))))))) (Eq.symm (lnC (n := 131) (lnA (m := 64) (n := 67) arL (lnA (m := 64) (n := 3) arL (lnC (n := 2) (lnC (n := 1) (lnC (n := 0) (lnN))))))))))) ?_
    refine R_nil ?_
    refine T_joinG id (t1 fun numbers4 => ⟨[(3, .mref 0 1), (4, .own 1 numbers4.length), (6, .ptr 2 1 0 0), (11, .sl 81 (List.map R81 l)), (12, .int .i64 (l.length : Int)), (13, .int .i64 i)], [some ⟨146, [[.mcon (List.map (mrow FK3 (osF 81 R81)) groups2)]]⟩, some ⟨3, List.map R3 numbers4⟩, some ⟨81, [(.int .i64 x.Number) :: ((List.map C36 x.Frame.toList) ++ (((List.map C3 x.States.toList) ++ ((.bool x.Sound) :: (.int .i64 x.Copies) :: (.bool x.Conflict) :: []))))]⟩]⟩) h (fun h => ?_) (fun j h => ?_)
    ·
     refine T_keep (kc 3 rfl <| kc 4 rfl <| kc 6 rfl <| kc 11 rfl <| kc 12 rfl <| kc 13 rfl <| kn) rfl ?_
     refine T_seq (T_reg ?_)
     refine R_q _ rfl (v_move (ov rfl)) ?_
     refine R_q _ rfl (v_fieldP (ov rfl) rfl rfl tF81_0) ?_
     refine R_q _ rfl (v_loadS (ov rfl) rfl rfl rfl tS3 (at_get (at0 (hdc (n := 0) hd0)))) ?_
     obtain ⟨z, h_z, h⟩ := bnd h
     rcases z with z | z
     ·
      replace h := ell h
      refine R_q _ rfl (v_lkN (e1 := 81) (R := R81) (m := groups2) (k := x.Number) (msel_l h_z) (ov rfl) (ov rfl) tMp146 tKO3 rfl (fun _ => .b rfl) (zero_scal tZV75 rfl)) ?_
      refine R_q _ rfl (v_nilN (ng := false) (ov rfl) tIsl75) ?_
      refine R_nil ?_
      refine T_keep (kc 3 rfl <| kc 4 rfl <| kc 6 rfl <| kc 11 rfl <| kc 12 rfl <| kc 13 rfl <| kc 21 rfl <| kn) rfl ?_
      refine T_if h rfl (fun b21 h => ?_) (fun b21 h => ?_)
      ·
       refine T_keep (kc 3 rfl <| kc 4 rfl <| kc 6 rfl <| kc 11 rfl <| kc 12 rfl <| kc 13 rfl <| kn) rfl ?_
       refine T_reg ?_
       refine R_q _ rfl (v_move (ov rfl)) ?_
       refine R_q _ rfl (v_fieldP (ov rfl) rfl rfl tF81_0) ?_
       refine R_q _ rfl (v_loadS (ov rfl) rfl rfl rfl tS3 (at_get (at0 (hdc (n := 0) hd0)))) ?_
       refine R_q (.sl 3 (List.map R3 ([x.Number] : List Int))) rfl (v_lit tL26 (.cons (cvs (ov rfl) (cell1_b rfl)) rfl (.cons (.b rfl) .nil) <| .nil) rfl rfl) ?_
       obtain ⟨l2, h_l2, h⟩ := bnd h
       refine R_w _ _ rfl (w_appendG (ov rfl) (slv_sl (ov rfl) tZ_3) tL26 rfl rfl rfl (fun _ => cell1_all rfl) rfl h_l2) ?_
       refine R_q _ rfl (v_assign (ov rfl)) ?_
       refine R_nil ?_
       exact ⟨l2, h, Ent.sel [some 0, some 1, some 2] (sr 3 rfl (.mref _ rfl) <| sr 4 rfl (.own _ rfl) <| sr 6 rfl (.ptr _ _ _ rfl) <| sd 11 rfl rfl <| sd 12 rfl rfl <| sd 13 rfl rfl <| sn) (.cons rfl (roMap (fk := FK3) (fv := (osF 81 R81)) (m := groups2) tZ_146 (fun _ => .dat rfl) (fun _ => (rcOs D81))) <| .cons rfl (roM D3) <| .cons rfl (ro1 (by exact Eq.trans (b := 132) (lnC (n := 131) (lnA (m := 64) (n := 67) arL (lnA (m := 64) (n := 3) arL (lnC (n := 2) (lnC (n := 1) (lnC (n := 0) (lnN))))))) tZ_81.symm) (rld (alC rfl (alA (arD fun _ => rfl) (alA (arD fun _ => rfl) (alC rfl (alC rfl (alC rfl (alN))))))))) <| .nil) rfl rfl⟩
      ·
       exact Bool.noConfusion b21
     ·
      replace h := elr h
      refine R_ent (Ent.focusMk1 (e := 81) (R := R81) (m := groups2) (k := x.Number) (r := 0) rfl tZ_146 (msel_r h_z) D81) ?_
      refine R_q _ rfl (v_lkF (e1 := 81) (R := R81) (m := groups2) (k := x.Number) (ov rfl) (ov rfl) tMp146 tKO3 rfl (fun _ => .b rfl) (zero_scal tZV75 rfl)) ?_
      obtain ⟨u, h_u, h⟩ := bnd h
      refine R_q _ rfl (v_nilO (ng := false) (ov rfl) tIsl75 rfl (List.length_map ..) h_u) ?_
      refine R_ent (by exact Ent.absorbMs1 (e := 81) (R := R81) (m := groups2) (k := x.Number) (ys := z) (fk := FK3) (r := 0) (q := 3) (msel_r h_z) rfl tZ_146 rfl rfl rfl) ?_
      refine R_nil ?_
      refine T_keep (kc 3 rfl <| kc 4 rfl <| kc 6 rfl <| kc 11 rfl <| kc 12 rfl <| kc 13 rfl <| kc 21 rfl <| kn) rfl ?_
      refine T_if h rfl (fun b21 h => ?_) (fun b21 h => ?_)
      ·
       exact Bool.noConfusion b21
      ·
       refine T_skip ?_
       exact ⟨numbers2, h, Ent.sel [some 0, some 1, some 2] (sr 3 rfl (.mref _ rfl) <| sr 4 rfl (.own _ rfl) <| sr 6 rfl (.ptr _ _ _ rfl) <| sd 11 rfl rfl <| sd 12 rfl rfl <| sd 13 rfl rfl <| sn) (.cons rfl (roMap (fk := FK3) (fv := (osF 81 R81)) (m := groups2) tZ_146 (fun _ => .dat rfl) (fun _ => (rcOs D81))) <| .cons rfl (roM D3) <| .cons rfl (ro1 (by exact Eq.trans (b := 132) (lnC (n := 131) (lnA (m := 64) (n := 67) arL (lnA (m := 64) (n := 3) arL (lnC (n := 2) (lnC (n := 1) (lnC (n := 0) (lnN))))))) tZ_81.symm) (rld (alC rfl (alA (arD fun _ => rfl) (alA (arD fun _ => rfl) (alC rfl (alC rfl (alC rfl (alN))))))))) <| .nil) rfl rfl⟩
    ·
     obtain ⟨numbers4, rfl⟩ : ∃ x, x = j := ⟨_, rfl⟩
     replace h := t1i h
     refine t1T ?_
     obtain ⟨z2, h_z2, h⟩ := bnd h
     rcases z2 with z2 | z2
     ·
      replace h := ell h
      refine T_draw (cw := md0) (by kernel_rfl) ?_
      refine D_q0 3 _ rfl (by kernel_rfl) rfl rfl (v_move (ov rfl)) ?_
      refine D_q0 4 _ rfl (by kernel_rfl) rfl rfl (v_fieldP (ov rfl) rfl rfl tF81_0) ?_
      refine D_q0 5 _ rfl (by kernel_rfl) rfl rfl (v_loadS (ov rfl) rfl rfl rfl tS3 (at_get (at0 (hdc (n := 0) hd0)))) ?_
      refine D_q0 6 _ rfl (by kernel_rfl) rfl rfl (v_lkN (e1 := 81) (R := R81) (m := groups2) (k := x.Number) (msel_l h_z2) (ov rfl) (ov rfl) tMp146 tKO3 rfl (fun _ => .b rfl) (zero_scal tZV75 rfl)) ?_
      refine D_q0 7 _ rfl (by kernel_rfl) rfl rfl (v_loadA (ov rfl) rfl rfl rfl tA81 (at_sub (at_all (lnC (n := 131) (lnA (m := 64) (n := 67) arL (lnA (m := 64) (n := 3) arL (lnC (n := 2) (lnC (n := 1) (lnC (n := 0) (lnN))))))))) (lnC (n := 131) (lnA (m := 64) (n := 67) arL (lnA (m := 64) (n := 3) arL (lnC (n := 2) (lnC (n := 1) (lnC (n := 0) (lnN))))))) (hns := nsC rfl (nsA (nsM fun _ => rfl) (nsA (nsM fun _ => rfl) (nsC rfl (nsC rfl (nsC rfl (nsR rfl)))))))) ?_
      refine D_q0 8 (.sl 81 (List.map R81 ([x] : List api_Rest))) rfl (by kernel_rfl) rfl rfl (v_lit tL75 (.cons (cva (ov rfl)) (lnC (n := 131) (lnA (m := 64) (n := 67) arL (lnA (m := 64) (n := 3) arL (lnC (n := 2) (lnC (n := 1) (lnC (n := 0) (lnN))))))) (pwD (alC rfl (alA (arD fun _ => rfl) (alA (arD fun _ => rfl) (alC rfl (alC rfl (alC rfl (alN)))))))) <| .nil) rfl rfl) ?_
      refine D_free 0 _ rfl (by kernel_rfl) rfl rfl (fun hp' => v_move (ov rfl)) ?_
      obtain ⟨l3, h_l3, h⟩ := bnd h
      refine D_twoQ 1 9 rfl rfl (by kernel_rfl) rfl rfl rfl rfl (fun h => by cases h) (fun h => by cases h) (v_fieldP (ov rfl) rfl rfl tF81_0) (w_append0G (r := 3) rfl (ov rfl) (slv_sl (ov rfl) tZ_81) tL75 rfl h_l3) ?_ ?_
      ·
       refine D_twoQ 2 9 rfl rfl (by kernel_rfl) rfl rfl rfl rfl (fun h => by cases h) (fun h => by cases h) (v_loadS (ov rfl) rfl rfl rfl tS3 (at_get (at0 (hdc (n := 0) hd0)))) (w_append0G (r := 3) rfl (ov rfl) (slv_sl (ov rfl) tZ_81) tL75 rfl h_l3) ?_ ?_
       ·
        refine D_one 9 _ _ rfl (by kernel_rfl) rfl rfl (fun h => by cases h) (fun h => by cases h) (w_append0G (r := 3) rfl (ov rfl) (slv_sl (ov rfl) tZ_81) tL75 rfl h_l3) ?_
        refine D_one 10 _ _ rfl (by kernel_rfl) rfl rfl (fun h => by cases h) (fun h => by cases h) (w_putN (e1 := 81) (R := R81) (m := groups2) (k := x.Number) (ov rfl) (ov rfl) (ov rfl) tMp146 tKO3 rfl (fun _ => .b rfl)) ?_
        refine D_doneE (by kernel_rfl) (Ent.absorbMk1 (e := 81) (R := R81) (m := groups2) (k := x.Number) (ys := l3) (fk := FK3) (r := 0) (q := 3) rfl tZ_146 rfl rfl rfl) ?_
        exact ⟨((mput kqI groups2 x.Number l3), numbers4), h, Ent.sel [some 0, some 1] (sr 3 rfl (.mref _ rfl) <| sr 4 rfl (.own _ rfl) <| sd 11 rfl rfl <| sd 12 rfl rfl <| sd 13 rfl rfl <| sn) (.cons rfl (roMap (fk := FK3) (fv := (osF 81 R81)) (m := (mput kqI groups2 x.Number l3)) tZ_146 (fun _ => .dat rfl) (fun _ => (rcOs D81))) <| .cons rfl (roM D3) <| .nil) rfl rfl⟩
       ·
        refine D_q0 2 _ rfl (by kernel_rfl) rfl rfl (v_loadS (ov rfl) rfl rfl rfl tS3 (at_get (at0 (hdc (n := 0) hd0)))) ?_
        refine D_one 10 _ _ rfl (by kernel_rfl) rfl rfl (fun h => by cases h) (fun h => by cases h) (w_putN (e1 := 81) (R := R81) (m := groups2) (k := x.Number) (ov rfl) (ov rfl) (ov rfl) tMp146 tKO3 rfl (fun _ => .b rfl)) ?_
        refine D_doneE (by kernel_rfl) (Ent.absorbMk1 (e := 81) (R := R81) (m := groups2) (k := x.Number) (ys := l3) (fk := FK3) (r := 0) (q := 3) rfl tZ_146 rfl rfl rfl) ?_
        exact ⟨((mput kqI groups2 x.Number l3), numbers4), h, Ent.sel [some 0, some 1] (sr 3 rfl (.mref _ rfl) <| sr 4 rfl (.own _ rfl) <| sd 11 rfl rfl <| sd 12 rfl rfl <| sd 13 rfl rfl <| sn) (.cons rfl (roMap (fk := FK3) (fv := (osF 81 R81)) (m := (mput kqI groups2 x.Number l3)) tZ_146 (fun _ => .dat rfl) (fun _ => (rcOs D81))) <| .cons rfl (roM D3) <| .nil) rfl rfl⟩
      ·
       refine D_q0 1 _ rfl (by kernel_rfl) rfl rfl (v_fieldP (ov rfl) rfl rfl tF81_0) ?_
       refine D_q0 2 _ rfl (by kernel_rfl) rfl rfl (v_loadS (ov rfl) rfl rfl rfl tS3 (at_get (at0 (hdc (n := 0) hd0)))) ?_
       refine D_one 10 _ _ rfl (by kernel_rfl) rfl rfl (fun h => by cases h) (fun h => by cases h) (w_putN (e1 := 81) (R := R81) (m := groups2) (k := x.Number) (ov rfl) (ov rfl) (ov rfl) tMp146 tKO3 rfl (fun _ => .b rfl)) ?_
       refine D_doneE (by kernel_rfl) (Ent.absorbMk1 (e := 81) (R := R81) (m := groups2) (k := x.Number) (ys := l3) (fk := FK3) (r := 0) (q := 3) rfl tZ_146 rfl rfl rfl) ?_
       exact ⟨((mput kqI groups2 x.Number l3), numbers4), h, Ent.sel [some 0, some 1] (sr 3 rfl (.mref _ rfl) <| sr 4 rfl (.own _ rfl) <| sd 11 rfl rfl <| sd 12 rfl rfl <| sd 13 rfl rfl <| sn) (.cons rfl (roMap (fk := FK3) (fv := (osF 81 R81)) (m := (mput kqI groups2 x.Number l3)) tZ_146 (fun _ => .dat rfl) (fun _ => (rcOs D81))) <| .cons rfl (roM D3) <| .nil) rfl rfl⟩
     ·
      replace h := elr h
      refine T_ent (Ent.focusMk1 (e := 81) (R := R81) (m := groups2) (k := x.Number) (r := 0) rfl tZ_146 (msel_r h_z2) D81) ?_
      refine T_draw (cw := md0) (by kernel_rfl) ?_
      refine D_q0 3 _ rfl (by kernel_rfl) rfl rfl (v_move (ov rfl)) ?_
      refine D_q0 4 _ rfl (by kernel_rfl) rfl rfl (v_fieldP (ov rfl) rfl rfl tF81_0) ?_
      refine D_q0 5 _ rfl (by kernel_rfl) rfl rfl (v_loadS (ov rfl) rfl rfl rfl tS3 (at_get (at0 (hdc (n := 0) hd0)))) ?_
      refine D_q0 6 _ rfl (by kernel_rfl) rfl rfl (v_lkF (e1 := 81) (R := R81) (m := groups2) (k := x.Number) (ov rfl) (ov rfl) tMp146 tKO3 rfl (fun _ => .b rfl) (zero_scal tZV75 rfl)) ?_
      refine D_q0 7 _ rfl (by kernel_rfl) rfl rfl (v_loadA (ov rfl) rfl rfl rfl tA81 (at_sub (at_all (lnC (n := 131) (lnA (m := 64) (n := 67) arL (lnA (m := 64) (n := 3) arL (lnC (n := 2) (lnC (n := 1) (lnC (n := 0) (lnN))))))))) (lnC (n := 131) (lnA (m := 64) (n := 67) arL (lnA (m := 64) (n := 3) arL (lnC (n := 2) (lnC (n := 1) (lnC (n := 0) (lnN))))))) (hns := nsC rfl (nsA (nsM fun _ => rfl) (nsA (nsM fun _ => rfl) (nsC rfl (nsC rfl (nsC rfl (nsR rfl)))))))) ?_
      refine D_q0 8 (.sl 81 (List.map R81 ([x] : List api_Rest))) rfl (by kernel_rfl) rfl rfl (v_lit tL75 (.cons (cva (ov rfl)) (lnC (n := 131) (lnA (m := 64) (n := 67) arL (lnA (m := 64) (n := 3) arL (lnC (n := 2) (lnC (n := 1) (lnC (n := 0) (lnN))))))) (pwD (alC rfl (alA (arD fun _ => rfl) (alA (arD fun _ => rfl) (alC rfl (alC rfl (alC rfl (alN)))))))) <| .nil) rfl rfl) ?_
      refine D_free 0 _ rfl (by kernel_rfl) rfl rfl (fun hp' => v_move (ov rfl)) ?_
      obtain ⟨l4, h_l4, h⟩ := bnd h
      refine D_twoQ 1 9 rfl rfl (by kernel_rfl) rfl rfl rfl rfl (fun h => by cases h) (fun h => by cases h) (v_fieldP (ov rfl) rfl rfl tF81_0) (w_appendG (ov rfl) (slv_sl (ov rfl) tZ_81) tL75 rfl rfl rfl (fun x => cell1_all (E81 x)) rfl h_l4) ?_ ?_
      ·
       refine D_twoQ 2 9 rfl rfl (by kernel_rfl) rfl rfl rfl rfl (fun h => by cases h) (fun h => by cases h) (v_loadS (ov rfl) rfl rfl rfl tS3 (at_get (at0 (hdc (n := 0) hd0)))) (w_appendG (ov rfl) (slv_sl (ov rfl) tZ_81) tL75 rfl rfl rfl (fun x => cell1_all (E81 x)) rfl h_l4) ?_ ?_
       ·
        refine D_one 9 _ _ rfl (by kernel_rfl) rfl rfl (fun h => by cases h) (fun h => by cases h) (w_appendG (ov rfl) (slv_sl (ov rfl) tZ_81) tL75 rfl rfl rfl (fun x => cell1_all (E81 x)) rfl h_l4) ?_
        refine D_one 10 _ _ rfl (by kernel_rfl) rfl rfl (fun h => by cases h) (fun h => by cases h) (w_putF (e1 := 81) (R := R81) (m := groups2) (k := x.Number) (ov rfl) (ov rfl) (ov rfl) tMp146 tKO3 rfl (fun _ => .b rfl)) ?_
        refine D_doneE (by kernel_rfl) (Ent.absorbMk1 (e := 81) (R := R81) (m := groups2) (k := x.Number) (ys := l4) (fk := FK3) (r := 0) (q := 3) rfl tZ_146 rfl rfl rfl) ?_
        exact ⟨((mput kqI groups2 x.Number l4), numbers4), h, Ent.sel [some 0, some 1] (sr 3 rfl (.mref _ rfl) <| sr 4 rfl (.own _ rfl) <| sd 11 rfl rfl <| sd 12 rfl rfl <| sd 13 rfl rfl <| sn) (.cons rfl (roMap (fk := FK3) (fv := (osF 81 R81)) (m := (mput kqI groups2 x.Number l4)) tZ_146 (fun _ => .dat rfl) (fun _ => (rcOs D81))) <| .cons rfl (roM D3) <| .nil) rfl rfl⟩
       ·
        refine D_q0 2 _ rfl (by kernel_rfl) rfl rfl (v_loadS (ov rfl) rfl rfl rfl tS3 (at_get (at0 (hdc (n := 0) hd0)))) ?_
        refine D_one 10 _ _ rfl (by kernel_rfl) rfl rfl (fun h => by cases h) (fun h => by cases h) (w_putF (e1 := 81) (R := R81) (m := groups2) (k := x.Number) (ov rfl) (ov rfl) (ov rfl) tMp146 tKO3 rfl (fun _ => .b rfl)) ?_
        refine D_doneE (by kernel_rfl) (Ent.absorbMk1 (e := 81) (R := R81) (m := groups2) (k := x.Number) (ys := l4) (fk := FK3) (r := 0) (q := 3) rfl tZ_146 rfl rfl rfl) ?_
        exact ⟨((mput kqI groups2 x.Number l4), numbers4), h, Ent.sel [some 0, some 1] (sr 3 rfl (.mref _ rfl) <| sr 4 rfl (.own _ rfl) <| sd 11 rfl rfl <| sd 12 rfl rfl <| sd 13 rfl rfl <| sn) (.cons rfl (roMap (fk := FK3) (fv := (osF 81 R81)) (m := (mput kqI groups2 x.Number l4)) tZ_146 (fun _ => .dat rfl) (fun _ => (rcOs D81))) <| .cons rfl (roM D3) <| .nil) rfl rfl⟩
      ·
       refine D_q0 1 _ rfl (by kernel_rfl) rfl rfl (v_fieldP (ov rfl) rfl rfl tF81_0) ?_
       refine D_q0 2 _ rfl (by kernel_rfl) rfl rfl (v_loadS (ov rfl) rfl rfl rfl tS3 (at_get (at0 (hdc (n := 0) hd0)))) ?_
       refine D_one 10 _ _ rfl (by kernel_rfl) rfl rfl (fun h => by cases h) (fun h => by cases h) (w_putF (e1 := 81) (R := R81) (m := groups2) (k := x.Number) (ov rfl) (ov rfl) (ov rfl) tMp146 tKO3 rfl (fun _ => .b rfl)) ?_
       refine D_doneE (by kernel_rfl) (Ent.absorbMk1 (e := 81) (R := R81) (m := groups2) (k := x.Number) (ys := l4) (fk := FK3) (r := 0) (q := 3) rfl tZ_146 rfl rfl rfl) ?_
       exact ⟨((mput kqI groups2 x.Number l4), numbers4), h, Ent.sel [some 0, some 1] (sr 3 rfl (.mref _ rfl) <| sr 4 rfl (.own _ rfl) <| sd 11 rfl rfl <| sd 12 rfl rfl <| sd 13 rfl rfl <| sn) (.cons rfl (roMap (fk := FK3) (fv := (osF 81 R81)) (m := (mput kqI groups2 x.Number l4)) tZ_146 (fun _ => .dat rfl) (fun _ => (rcOs D81))) <| .cons rfl (roM D3) <| .nil) rfl rfl⟩
   ·
    obtain ⟨groups3, numbers3⟩ := j
    replace h := t2i h
    refine t2T ?_
    refine T_reg ?_
    refine R_q _ rfl (v_add (ov rfl) (ov rfl) rfl) ?_
    refine R_q _ rfl (v_move (ov rfl)) ?_
    refine R_nil ?_
    exact ⟨(groups3, numbers3, (i64 (i + 1))), h, Ent.sel [some 0, some 1] (sr 3 rfl (.mref _ rfl) <| sr 4 rfl (.own _ rfl) <| sd 11 rfl rfl <| sd 12 rfl rfl <| sd 13 rfl rfl <| sn) (.cons rfl (roMap (fk := FK3) (fv := (osF 81 R81)) (m := groups3) tZ_146 (fun _ => .dat rfl) (fun _ => (rcOs D81))) <| .cons rfl (roM D3) <| .nil) rfl rfl⟩
  ·
   refine T_exit ?_
   rw [lx h] at ho1
   replace h := ho1
   exact ⟨(groups2, numbers2), h, Ent.sel [some 0, some 1] (sr 3 rfl (.mref _ rfl) <| sr 4 rfl (.own _ rfl) <| sn) (.cons rfl (roMap (fk := FK3) (fv := (osF 81 R81)) (m := groups2) tZ_146 (fun _ => .dat rfl) (fun _ => (rcOs D81))) <| .cons rfl (roM D3) <| .nil) rfl rfl⟩
 ·
  obtain ⟨groups, numbers⟩ := j
  replace h := t2i h
  refine t2T ?_
  refine T_seq (T_reg ?_)
  refine R_q _ rfl (v_move (ov rfl)) ?_
  obtain ⟨y, h_y, h⟩ := bnd h
  refine R_w _ _ rfl (w_callG [1] (ok_sortIL h_y) (.cons (ov rfl) (.own _ rfl) <| .nil) (.cons rfl (roM D3) <| .nil) rfl (.keep rfl rfl <| .lent 0 (.inl rfl) rfl (roM D3) <| .nil) rfl rfl (rTup (rld rfl))) ?_
  refine R_nil ?_
  refine T_keep (kc 3 rfl <| kc 4 rfl <| kn) rfl ?_
  refine T_seq (T_reg ?_)
  refine R_q _ rfl (v_assign (ov rfl)) ?_
  refine R_nil ?_
  refine T_joinG id (t1 fun out => ⟨[(7, .own 0 out.length)], [some ⟨81, List.map R81 out⟩]⟩) h (fun h => ?_) (fun j h => ?_)
  ·
   refine T_seq (T_reg ?_)
   refine R_q _ rfl (v_move (ov rfl)) ?_
   refine R_q _ rfl (v_lenO (ov rfl) rfl (ln_sortI h_y) tL26) ?_
   refine R_q _ rfl (v_move (ov rfl)) ?_
   refine R_nil ?_
   refine T_block ?_
   obtain ⟨r2, hl2, ho2⟩ := bndL h
   refine T_loopG _ (t2 fun out2 i2 => ⟨[(3, .mref 0 1), (7, .own 1 out2.length), (40, .own 2 y.length), (41, .int .i64 (y.length : Int)), (42, .int .i64 i2)], [some ⟨146, [[.mcon (List.map (mrow FK3 (osF 81 R81)) groups)]]⟩, some ⟨81, List.map R81 out2⟩, some ⟨3, List.map R3 y⟩]⟩) _ hl2 (Ent.sel [some 0, none, some 1] (sr 3 rfl (.mref _ rfl) <| sr 7 rfl (.row rfl) <| sr 40 rfl (ownE (Eq.symm (ln_sortI h_y)) rfl) <| sd 41 rfl rfl <| sd 42 rfl rfl <| sn) (.cons rfl (roMap (fk := FK3) (fv := (osF 81 R81)) (m := groups) tZ_146 (fun _ => .dat rfl) (fun _ => (rcOs D81))) <| .row 81 <| .cons rfl (roM D3) <| .nil) rfl rfl) (fun n2 s2 h => ?_)
   obtain ⟨out2, i2⟩ := s2
   replace h := t2i h
   refine t2T ?_
   unfold salvage_grouped_L2 at h
   refine T_seq (T_reg ?_)
   refine R_q _ rfl (v_lss (ov rfl) (ov rfl)) ?_
   refine R_nil ?_
   refine T_seq ?_
   refine T_if h rfl (fun b43 h => ?_) (fun b43 h => ?_)
   ·
    refine T_skip ?_
    refine T_seq ?_
    refine T_block ?_
    refine T_keep (kc 3 rfl <| kc 7 rfl <| kc 40 rfl <| kc 41 rfl <| kc 42 rfl <| kn) rfl ?_
    refine T_seq (T_reg ?_)
    obtain ⟨x2, h_x2, h⟩ := bnd h
    refine R_q _ rfl (v_ixOG (ov rfl) (ov rfl) tL26 rfl rfl h_x2) ?_
    refine R_q _ rfl (v_loadSR (ov rfl) rfl rfl h_x2 tS3 rfl) ?_
    refine R_q _ rfl (v_assign (ov rfl)) ?_
    refine R_nil ?_
    refine T_keep (kc 3 rfl <| kc 7 rfl <| kc 9 rfl <| kc 40 rfl <| kc 41 rfl <| kc 42 rfl <| kn) rfl ?_
    refine T_reg ?_
    refine R_q _ rfl (v_move (ov rfl)) ?_
    refine R_q _ rfl (v_move (ov rfl)) ?_
    refine R_q _ rfl (v_move (ov rfl)) ?_
    obtain ⟨z3, h_z3, h⟩ := bnd h
    rcases z3 with z3 | z3
    ·
     replace h := ell h
     refine R_q _ rfl (v_lkN (e1 := 81) (R := R81) (m := groups) (k := x2) (msel_l h_z3) (ov rfl) (ov rfl) tMp146 tKO3 rfl (fun _ => .b rfl) (zero_scal tZV75 rfl)) ?_
     obtain ⟨y2, h_y2, h⟩ := bnd h
     refine R_q _ rfl (v_call (ok_salvage_merge h_y2) (.cons (ov rfl) (Dat.nils _) <| .nil)) ?_
     refine R_q (.sl 81 (List.map R81 ([y2] : List api_Rest))) rfl (v_lit tL75 (.cons (cva (ov rfl)) (lnC (n := 131) (lnA (m := 64) (n := 67) arL (lnA (m := 64) (n := 3) arL (lnC (n := 2) (lnC (n := 1) (lnC (n := 0) (lnN))))))) (pwD (alC rfl (alA (arD fun _ => rfl) (alA (arD fun _ => rfl) (alC rfl (alC rfl (alC rfl (alN)))))))) <| .nil) rfl rfl) ?_
     obtain ⟨l5, h_l5, h⟩ := bnd h
     refine R_w _ _ rfl (w_appendG (ov rfl) (slv_sl (ov rfl) tZ_81) tL75 rfl rfl rfl (fun x => cell1_all (E81 x)) rfl h_l5) ?_
     refine R_q _ rfl (v_assign (ov rfl)) ?_
     refine R_nil ?_
     refine T_keep (kc 3 rfl <| kc 7 rfl <| kc 40 rfl <| kc 41 rfl <| kc 42 rfl <| kn) rfl ?_
     refine T_reg ?_
     refine R_q _ rfl (v_add (ov rfl) (ov rfl) rfl) ?_
     refine R_q _ rfl (v_move (ov rfl)) ?_
     refine R_nil ?_
     exact ⟨(l5, (i64 (i2 + 1))), h, Ent.sel [some 0, some 1, some 2] (sr 3 rfl (.mref _ rfl) <| sr 7 rfl (.own _ rfl) <| sr 40 rfl (.own _ rfl) <| sd 41 rfl rfl <| sd 42 rfl rfl <| sn) (.cons rfl (roMap (fk := FK3) (fv := (osF 81 R81)) (m := groups) tZ_146 (fun _ => .dat rfl) (fun _ => (rcOs D81))) <| .cons rfl (roM D81) <| .cons rfl (roM D3) <| .nil) rfl rfl⟩
    ·
     replace h := elr h
     refine R_ent (Ent.focusMk1 (e := 81) (R := R81) (m := groups) (k := x2) (r := 0) rfl tZ_146 (msel_r h_z3) D81) ?_
     refine R_q _ rfl (v_lkF (e1 := 81) (R := R81) (m := groups) (k := x2) (ov rfl) (ov rfl) tMp146 tKO3 rfl (fun _ => .b rfl) (zero_scal tZV75 rfl)) ?_
     obtain ⟨y3, h_y3, h⟩ := bnd h
     refine R_q _ rfl (v_callB (ok_salvage_merge h_y3) (.agg (faC .int (faA (faV fun _ => .int) (faA (faV fun _ => .int) (faC .bool (faC .int (faC .bool (faN)))))))) (.cons (ov rfl) (View.ownM rfl rfl D81) <| .nil)) ?_
     refine R_q (.sl 81 (List.map R81 ([y3] : List api_Rest))) rfl (v_lit tL75 (.cons (cva (ov rfl)) (lnC (n := 131) (lnA (m := 64) (n := 67) arL (lnA (m := 64) (n := 3) arL (lnC (n := 2) (lnC (n := 1) (lnC (n := 0) (lnN))))))) (pwD (alC rfl (alA (arD fun _ => rfl) (alA (arD fun _ => rfl) (alC rfl (alC rfl (alC rfl (alN)))))))) <| .nil) rfl rfl) ?_
     obtain ⟨l6, h_l6, h⟩ := bnd h
     refine R_w _ _ rfl (w_appendG (ov rfl) (slv_sl (ov rfl) tZ_81) tL75 rfl rfl rfl (fun x => cell1_all (E81 x)) rfl h_l6) ?_
     refine R_q _ rfl (v_assign (ov rfl)) ?_
     refine R_ent (by exact Ent.absorbMs1 (e := 81) (R := R81) (m := groups) (k := x2) (ys := z3) (fk := FK3) (r := 0) (q := 3) (msel_r h_z3) rfl tZ_146 rfl rfl rfl) ?_
     refine R_nil ?_
     refine T_keep (kc 3 rfl <| kc 7 rfl <| kc 40 rfl <| kc 41 rfl <| kc 42 rfl <| kn) rfl ?_
     refine T_reg ?_
     refine R_q _ rfl (v_add (ov rfl) (ov rfl) rfl) ?_
     refine R_q _ rfl (v_move (ov rfl)) ?_
     refine R_nil ?_
     exact ⟨(l6, (i64 (i2 + 1))), h, Ent.sel [some 0, some 1, some 2] (sr 3 rfl (.mref _ rfl) <| sr 7 rfl (.own _ rfl) <| sr 40 rfl (.own _ rfl) <| sd 41 rfl rfl <| sd 42 rfl rfl <| sn) (.cons rfl (roMap (fk := FK3) (fv := (osF 81 R81)) (m := groups) tZ_146 (fun _ => .dat rfl) (fun _ => (rcOs D81))) <| .cons rfl (roM D81) <| .cons rfl (roM D3) <| .nil) rfl rfl⟩
   ·
    refine T_exit ?_
    rw [lx h] at ho2
    replace h := ho2
    exact ⟨out2, h, Ent.sel [some 1] (sr 7 rfl (.own _ rfl) <| sn) (.cons rfl (roM D81) <| .nil) rfl rfl⟩
  ·
   obtain ⟨out, rfl⟩ : ∃ x, x = j := ⟨_, rfl⟩
   replace h := t1i h
   refine t1T ?_
   refine T_seq (T_reg ?_)
   refine R_q _ rfl (v_move (ov rfl)) ?_
   refine R_q _ rfl (v_assign (ov rfl)) ?_
   refine R_nil ?_
   obtain rfl := rt (v := out) h
   refine T_ret (retq ?_ (.one (.tmp rfl (View.ownM rfl rfl D81))))
   rfl

theorem ok_salvage_rests {h_ : List Int} {r : (List api_Rest)} (h : salvage_rests h_ = some r) :
  CSpec Tryd.prog gl0 59 [.sl 5 (List.map R5 h_)] (.sl 81 (List.map R81 r)) := by
 unfold salvage_rests at h
 replace h := bnd0 h
 refine spec_of (by kernel_rfl) Tryd.func59 rfl rfl ?_
 intro w0 A
 refine T_seq (T_reg ?_)
 refine R_q _ rfl (v_assign (ov rfl)) ?_
 refine R_nil ?_
 refine T_keep (kc 0 rfl <| kn) rfl ?_
 refine T_seq (T_reg ?_)
 refine R_q _ rfl (v_move (ov rfl)) ?_
 obtain ⟨y, h_y, h⟩ := bnd h
 refine R_q _ rfl (v_call (ok_salvage_newFinder h_y) (.cons (ov rfl) (.b rfl) <| .nil)) ?_
 refine R_q _ rfl (v_assign (ov rfl)) ?_
 refine R_nil ?_
 refine T_keep (kc 3 rfl <| kn) rfl ?_
 refine T_seq (T_reg ?_)
 refine R_q _ rfl (v_assign (ov rfl)) ?_
 refine R_nil ?_
 refine T_joinG id (t1 fun l => ⟨[(4, .own 0 l.length)], [some ⟨81, List.map R81 l⟩]⟩) h (fun h => ?_) (fun j h => ?_)
 ·
  refine T_seq (T_reg ?_)
  refine R_q _ rfl (v_move (ov rfl)) ?_
  refine R_q _ rfl (v_nilCheckR (ov rfl)) ?_
  refine R_q _ rfl (v_fieldR (ov rfl) tF139_1) ?_
  refine R_q _ rfl (v_loadS_r (ov rfl) tS137 rfl) ?_
  refine R_q _ rfl (v_len (slv_sl (ov rfl) tZ_141) tL137 (len_map _ _)) ?_
  refine R_q _ rfl (v_move (ov rfl)) ?_
  refine R_nil ?_
  refine T_block ?_
  obtain ⟨r1, hl1, ho1⟩ := bndL h
  refine T_loopG _ (t2 fun l2 i => ⟨[(3, .rp [.sl 5 (List.map R5 y.h_), .sl 141 (List.map R141 y.certain), .sl 3 (List.map R3 y.numbers), .any] 0), (4, .own 0 l2.length), (16, .sl 141 (List.map R141 y.certain)), (17, .int .i64 (y.certain.length : Int)), (18, .int .i64 i)], [some ⟨81, List.map R81 l2⟩]⟩) _ hl1 (Ent.sel [none] (sd 3 rfl rfl <| sr 4 rfl (.row rfl) <| sd 16 rfl rfl <| sd 17 rfl rfl <| sd 18 rfl rfl <| sn) (.row 81 <| .nil) rfl rfl) (fun n1 s1 h => ?_)
  obtain ⟨l2, i⟩ := s1
  replace h := t2i h
  refine t2T ?_
  unfold salvage_rests_L1 at h
  refine T_seq (T_reg ?_)
  refine R_q _ rfl (v_lss (ov rfl) (ov rfl)) ?_
  refine R_nil ?_
  refine T_seq ?_
  refine T_if h rfl (fun b19 h => ?_) (fun b19 h => ?_)
  ·
   refine T_skip ?_
   refine T_joinG id (t1 fun l3 => ⟨[(3, .rp [.sl 5 (List.map R5 y.h_), .sl 141 (List.map R141 y.certain), .sl 3 (List.map R3 y.numbers), .any] 0), (4, .own 0 l3.length), (16, .sl 141 (List.map R141 y.certain)), (17, .int .i64 (y.certain.length : Int)), (18, .int .i64 i)], [some ⟨81, List.map R81 l3⟩]⟩) h (fun h => ?_) (fun j h => ?_)
   ·
    refine T_block ?_
    refine T_keep (kc 3 rfl <| kc 4 rfl <| kc 16 rfl <| kc 17 rfl <| kc 18 rfl <| kn) rfl ?_
    refine T_seq (T_reg ?_)
    refine R_q _ rfl (v_move (ov rfl)) ?_
    obtain ⟨x, h_x, h⟩ := bnd h
    refine R_q _ rfl (v_ixSG (ov rfl) (ov rfl) tL137 h_x) ?_
    refine R_q _ rfl (v_loadA_r (ov rfl) tA141 (at_sub (at_all (lnC (n := 64) (lnA (m := 64) (n := 0) arL (lnN))))) (lnC (n := 64) (lnA (m := 64) (n := 0) arL (lnN)))) ?_
    refine R_w _ _ rfl (w_alloc (row := (.int .i64 0) :: ((List.map C36 (Vector.replicate 64 0).toList) ++ ([]))) 1 rfl tZ141 (by kernel_rfl) (by exact Eq.symm (Eq.trans (b := 65) (lnC (n := 64) (lnA (m := 64) (n := 0) arL (lnN))) tZ_141.symm))) ?_
    refine R_q _ rfl (v_assign (ov rfl)) ?_
    refine R_w _ _ rfl (w_store (ov rfl) (ov rfl) (cells_agg tA141 (lnC (n := 64) (lnA (m := 64) (n := 0) arL (lnN)))) rfl rfl rfl (put_le (at_all (lnC (n := 64) (lnA (m := 64) (n := 0) arL (lnN)))) (lnC (n := 64) (lnA (m := 64) (n := 0) arL (lnN)))) (cell1_all (alC rfl (alA (arC fun _ => rfl) (alN)))) (put_all (Eq.trans (lnC (n := 64) (lnA (m := 64) (n := 0) arL (lnN))) (Eq.symm (lnC (n := 64) (lnA (m := 64) (n := 0) arL (lnN))))))) ?_
    refine R_nil ?_
    refine T_keep (kc 3 rfl <| kc 4 rfl <| kc 5 rfl <| kc 6 rfl <| kc 16 rfl <| kc 17 rfl <| kc 18 rfl <| kn) rfl ?_
    refine T_seq (T_draw (cw := md0) (by kernel_rfl) ?_)
    refine D_q0 0 _ rfl (by kernel_rfl) rfl rfl (v_move (ov rfl)) ?_
    refine D_q0 1 _ rfl (by kernel_rfl) rfl rfl (v_move (ov rfl)) ?_
    refine D_q0 2 _ rfl (by kernel_rfl) rfl rfl (v_nilCheckR (ov rfl)) ?_
    refine D_q0 3 _ rfl (by kernel_rfl) rfl rfl (v_fieldR (ov rfl) tF139_2) ?_
    refine D_q0 4 _ rfl (by kernel_rfl) rfl rfl (v_loadS_r (ov rfl) tS26 rfl) ?_
    refine D_q0 5 _ rfl (by kernel_rfl) rfl rfl (v_move (ov rfl)) ?_
    obtain ⟨x2, h_x2, h⟩ := bnd h
    refine D_q0 6 _ rfl (by kernel_rfl) rfl rfl (v_ixSG (ov rfl) (ov rfl) tL26 h_x2) ?_
    refine D_q0 7 _ rfl (by kernel_rfl) rfl rfl (v_loadS_r (ov rfl) tS3 rfl) ?_
    refine D_q0 8 _ rfl (by kernel_rfl) rfl rfl (v_fieldP (ov rfl) rfl rfl tF141_1) ?_
    refine D_q0 9 _ rfl (by kernel_rfl) rfl rfl (v_loadA (ov rfl) rfl rfl rfl tA38 (at_sub (atc (o := 0) (at0 (hdw arL)))) arL (hns := (nsM fun _ => rfl))) ?_
    obtain ⟨y2, h_y2, h⟩ := bnd h
    refine D_q0 10 _ rfl (by kernel_rfl) rfl rfl (v_call (ok_salvage_filled h_y2) (.cons (ov rfl) (.b rfl) <| .nil)) ?_
    refine D_q0 11 _ rfl (by kernel_rfl) rfl rfl (v_buildX (zr := (.int .i64 0) :: ((List.map C36 (Vector.replicate 64 0).toList) ++ (((List.map C3 (Vector.replicate 64 0).toList) ++ ((.bool false) :: (.int .i64 0) :: (.bool false) :: []))))) tPL81 tHA81 tZ81 (by kernel_rfl) (.cons (cvs (ov rfl) (cell1_b rfl)) <| .cons (cva (ov rfl)) <| .cons (cva (ov rfl)) <| .cons (cvs (ov rfl) (cell1_b rfl)) <| .cons (cvs (ov rfl) (cell1_b rfl)) <| .nil) (fa_cons rfl rfl (at0 (hdc (n := 0) hd0)) (put1) <| fa_cons rfl arL (atc (o := 0) (at0 (hdw arL))) (putc (o := 0) (putw (Eq.trans arL (Eq.symm arL)))) <| fa_cons rfl arL (atc (o := 64) (ata (m := 64) (o := 0) arL (at0 (hdw arL)))) (putc (o := 64) (puta (m := 64) (o := 0) arL (putw (Eq.trans arL (Eq.symm arL))))) <| fa_cons rfl rfl (atc (o := 128) (ata (m := 64) (o := 64) arL (ata (m := 64) (o := 0) arL (at0 (hdc (n := 0) hd0))))) (putc (o := 128) (puta (m := 64) (o := 64) arL (puta (m := 64) (o := 0) arL (put1)))) <| fa_cons rfl rfl (atc (o := 129) (ata (m := 64) (o := 65) arL (ata (m := 64) (o := 1) arL (atc (o := 0) (at0 (hdc (n := 0) hd0)))))) (putc (o := 129) (puta (m := 64) (o := 65) arL (puta (m := 64) (o := 1) arL (putc (o := 0) (put1))))) <| fa_nil)) ?_
    refine D_q0 12 (.sl 81 (List.map R81 ([(api_Rest.mk x2 x.Frame y2 true 1 false)] : List api_Rest))) rfl (by kernel_rfl) rfl rfl (v_lit tL75 (.cons (cva (ov rfl)) (lnC (n := 131) (lnA (m := 64) (n := 67) arL (lnA (m := 64) (n := 3) arL (lnC (n := 2) (lnC (n := 1) (lnC (n := 0) (lnN))))))) (pwD (alC rfl (alA (arD fun _ => rfl) (alA (arD fun _ => rfl) (alC rfl (alC rfl (alC rfl (alN)))))))) <| .nil) rfl rfl) ?_
    obtain ⟨l4, h_l4, h⟩ := bnd h
    refine D_one 13 _ _ rfl (by kernel_rfl) rfl rfl (fun h => by cases h) (fun h => by cases h) (w_appendG (ov rfl) (slv_sl (ov rfl) tZ_81) tL75 rfl rfl rfl (fun x => cell1_all (E81 x)) rfl h_l4) ?_
    refine D_q0 14 _ rfl (by kernel_rfl) rfl rfl (v_assign (ov rfl)) ?_
    refine D_done (by kernel_rfl) ?_
    refine T_keep (kc 3 rfl <| kc 4 rfl <| kc 5 rfl <| kc 16 rfl <| kc 17 rfl <| kc 18 rfl <| kn) rfl ?_
    refine T_seq (T_reg ?_)
    refine R_q _ rfl (v_move (ov rfl)) ?_
    refine R_q _ rfl (v_move (ov rfl)) ?_
    obtain ⟨y3, h_y3, h⟩ := bnd h
    refine R_q _ rfl (v_call (ok_salvage_finder_places h_y3) (.cons (ov rfl) (.b rfl) <| .cons (ov rfl) (.b rfl) <| .nil)) ?_
    refine R_q _ rfl (v_len (slv_sl (ov rfl) tZ_3) tL26 (len_map _ _)) ?_
    refine R_q _ rfl (v_move (ov rfl)) ?_
    refine R_nil ?_
    refine T_block ?_
    obtain ⟨r2, hl2, ho2⟩ := bndL h
    refine T_loopG _ (t2 fun l5 i2 => ⟨[(3, .rp [.sl 5 (List.map R5 y.h_), .sl 141 (List.map R141 y.certain), .sl 3 (List.map R3 y.numbers), .any] 0), (4, .own 0 l5.length), (5, .int .i64 i), (16, .sl 141 (List.map R141 y.certain)), (17, .int .i64 (y.certain.length : Int)), (18, .int .i64 i), (39, .sl 3 (List.map R3 y3)), (40, .int .i64 (y3.length : Int)), (41, .int .i64 i2)], [some ⟨81, List.map R81 l5⟩]⟩) _ hl2 (Ent.sel [some 0] (sd 3 rfl rfl <| sr 4 rfl (.own _ rfl) <| sd 5 rfl rfl <| sd 16 rfl rfl <| sd 17 rfl rfl <| sd 18 rfl rfl <| sd 39 rfl rfl <| sd 40 rfl rfl <| sd 41 rfl rfl <| sn) (.cons rfl (roM D81) <| .nil) rfl rfl) (fun n2 s2 h => ?_)
    obtain ⟨l5, i2⟩ := s2
    replace h := t2i h
    refine t2T ?_
    unfold salvage_rests_L2 at h
    refine T_seq (T_reg ?_)
    refine R_q _ rfl (v_lss (ov rfl) (ov rfl)) ?_
    refine R_nil ?_
    refine T_seq ?_
    refine T_if h rfl (fun b42 h => ?_) (fun b42 h => ?_)
    ·
     refine T_skip ?_
     refine T_seq ?_
     refine T_block ?_
     refine T_keep (kc 3 rfl <| kc 4 rfl <| kc 5 rfl <| kc 16 rfl <| kc 17 rfl <| kc 18 rfl <| kc 39 rfl <| kc 40 rfl <| kc 41 rfl <| kn) rfl ?_
     refine T_seq (T_reg ?_)
     obtain ⟨x3, h_x3, h⟩ := bnd h
     refine R_q _ rfl (v_ixSG (ov rfl) (ov rfl) tL26 h_x3) ?_
     refine R_q _ rfl (v_loadS_r (ov rfl) tS3 rfl) ?_
     refine R_q _ rfl (v_assign (ov rfl)) ?_
     refine R_nil ?_
     refine T_keep (kc 3 rfl <| kc 4 rfl <| kc 5 rfl <| kc 8 rfl <| kc 16 rfl <| kc 17 rfl <| kc 18 rfl <| kc 39 rfl <| kc 40 rfl <| kc 41 rfl <| kn) rfl ?_
     refine T_seq (T_reg ?_)
     refine R_q _ rfl (v_move (ov rfl)) ?_
     refine R_q _ rfl (v_move (ov rfl)) ?_
     refine R_q _ rfl (v_move (ov rfl)) ?_
     obtain ⟨y4, h_y4, h⟩ := bnd h
     refine R_q _ rfl (v_call (ok_salvage_finder_beside h_y4) (.cons (ov rfl) (.b rfl) <| .cons (ov rfl) (.b rfl) <| .cons (ov rfl) (.b rfl) <| .nil)) ?_
     refine R_q _ rfl (v_move (ov rfl)) ?_
     refine R_q _ rfl (v_extract (ov rfl) rfl) ?_
     refine R_q _ rfl (v_extract (ov rfl) rfl) ?_
     refine R_w _ _ rfl (w_alloc (row := (.int .i64 0) :: ((List.map C36 (Vector.replicate 64 0).toList) ++ (((List.map C3 (Vector.replicate 64 0).toList) ++ ((.bool false) :: (.int .i64 0) :: (.bool false) :: []))))) 1 rfl tZ81 (by kernel_rfl) (by exact Eq.symm (Eq.trans (b := 132) (lnC (n := 131) (lnA (m := 64) (n := 67) arL (lnA (m := 64) (n := 3) arL (lnC (n := 2) (lnC (n := 1) (lnC (n := 0) (lnN))))))) tZ_81.symm))) ?_
     refine R_w _ _ rfl (w_store (ov rfl) (ov rfl) (cells_agg tA81 (lnC (n := 131) (lnA (m := 64) (n := 67) arL (lnA (m := 64) (n := 3) arL (lnC (n := 2) (lnC (n := 1) (lnC (n := 0) (lnN)))))))) rfl rfl rfl (put_le (at_all (lnC (n := 131) (lnA (m := 64) (n := 67) arL (lnA (m := 64) (n := 3) arL (lnC (n := 2) (lnC (n := 1) (lnC (n := 0) (lnN)))))))) (lnC (n := 131) (lnA (m := 64) (n := 67) arL (lnA (m := 64) (n := 3) arL (lnC (n := 2) (lnC (n := 1) (lnC (n := 0) (lnN)))))))) (cell1_all (alC rfl (alA (arC fun _ => rfl) (alA (arC fun _ => rfl) (alC rfl (alC rfl (alC rfl (alN)))))))) (put_all (Eq.trans (lnC (n := 131) (lnA (m := 64) (n := 67) arL (lnA (m := 64) (n := 3) arL (lnC (n := 2) (lnC (n := 1) (lnC (n := 0) (lnN))))))) (Eq.symm (lnC (n := 131) (lnA (m := 64) (n := 67) arL (lnA (m := 64) (n := 3) arL (lnC (n := 2) (lnC (n := 1) (lnC (n := 0) (lnN))))))))))) ?_
     refine R_q _ rfl (v_assign (ov rfl)) ?_
     refine R_nil ?_
     refine T_keep (kc 3 rfl <| kc 4 rfl <| kc 5 rfl <| kc 9 rfl <| kc 10 rfl <| kc 16 rfl <| kc 17 rfl <| kc 18 rfl <| kc 39 rfl <| kc 40 rfl <| kc 41 rfl <| kn) rfl ?_
     refine T_seq (T_reg ?_)
     refine R_q _ rfl (v_move (ov rfl)) ?_
     refine R_nil ?_
     refine T_keep (kc 3 rfl <| kc 4 rfl <| kc 5 rfl <| kc 9 rfl <| kc 16 rfl <| kc 17 rfl <| kc 18 rfl <| kc 39 rfl <| kc 40 rfl <| kc 41 rfl <| kc 52 rfl <| kn) rfl ?_
     refine T_if h rfl (fun b52 h => ?_) (fun b52 h => ?_)
     ·
      refine T_keep (kc 3 rfl <| kc 4 rfl <| kc 5 rfl <| kc 9 rfl <| kc 16 rfl <| kc 17 rfl <| kc 18 rfl <| kc 39 rfl <| kc 40 rfl <| kc 41 rfl <| kn) rfl ?_
      refine T_reg ?_
      refine R_q _ rfl (v_move (ov rfl)) ?_
      refine R_q _ rfl (v_loadA (ov rfl) rfl rfl rfl tA81 (at_sub (at_all (lnC (n := 131) (lnA (m := 64) (n := 67) arL (lnA (m := 64) (n := 3) arL (lnC (n := 2) (lnC (n := 1) (lnC (n := 0) (lnN))))))))) (lnC (n := 131) (lnA (m := 64) (n := 67) arL (lnA (m := 64) (n := 3) arL (lnC (n := 2) (lnC (n := 1) (lnC (n := 0) (lnN))))))) (hns := nsC rfl (nsA (nsM fun _ => rfl) (nsA (nsM fun _ => rfl) (nsC rfl (nsC rfl (nsC rfl (nsR rfl)))))))) ?_
      refine R_q (.sl 81 (List.map R81 ([y4.1] : List api_Rest))) rfl (v_lit tL75 (.cons (cva (ov rfl)) (lnC (n := 131) (lnA (m := 64) (n := 67) arL (lnA (m := 64) (n := 3) arL (lnC (n := 2) (lnC (n := 1) (lnC (n := 0) (lnN))))))) (pwD (alC rfl (alA (arD fun _ => rfl) (alA (arD fun _ => rfl) (alC rfl (alC rfl (alC rfl (alN)))))))) <| .nil) rfl rfl) ?_
      obtain ⟨l6, h_l6, h⟩ := bnd h
      refine R_w _ _ rfl (w_appendG (ov rfl) (slv_sl (ov rfl) tZ_81) tL75 rfl rfl rfl (fun x => cell1_all (E81 x)) rfl h_l6) ?_
      refine R_q _ rfl (v_assign (ov rfl)) ?_
      refine R_nil ?_
      refine T_keep (kc 3 rfl <| kc 4 rfl <| kc 5 rfl <| kc 16 rfl <| kc 17 rfl <| kc 18 rfl <| kc 39 rfl <| kc 40 rfl <| kc 41 rfl <| kn) rfl ?_
      refine T_reg ?_
      refine R_q _ rfl (v_add (ov rfl) (ov rfl) rfl) ?_
      refine R_q _ rfl (v_move (ov rfl)) ?_
      refine R_nil ?_
      exact ⟨(l6, (i64 (i2 + 1))), h, Ent.sel [some 0] (sd 3 rfl rfl <| sr 4 rfl (.own _ rfl) <| sd 5 rfl rfl <| sd 16 rfl rfl <| sd 17 rfl rfl <| sd 18 rfl rfl <| sd 39 rfl rfl <| sd 40 rfl rfl <| sd 41 rfl rfl <| sn) (.cons rfl (roM D81) <| .nil) rfl rfl⟩
     ·
      refine T_skip ?_
      refine T_keep (kc 3 rfl <| kc 4 rfl <| kc 5 rfl <| kc 16 rfl <| kc 17 rfl <| kc 18 rfl <| kc 39 rfl <| kc 40 rfl <| kc 41 rfl <| kn) rfl ?_
      refine T_reg ?_
      refine R_q _ rfl (v_add (ov rfl) (ov rfl) rfl) ?_
      refine R_q _ rfl (v_move (ov rfl)) ?_
      refine R_nil ?_
      exact ⟨(l5, (i64 (i2 + 1))), h, Ent.sel [some 0] (sd 3 rfl rfl <| sr 4 rfl (.own _ rfl) <| sd 5 rfl rfl <| sd 16 rfl rfl <| sd 17 rfl rfl <| sd 18 rfl rfl <| sd 39 rfl rfl <| sd 40 rfl rfl <| sd 41 rfl rfl <| sn) (.cons rfl (roM D81) <| .nil) rfl rfl⟩
    ·
     refine T_exit ?_
     rw [lx h] at ho2
     replace h := ho2
     exact ⟨l5, h, Ent.sel [some 0] (sd 3 rfl rfl <| sr 4 rfl (.own _ rfl) <| sd 16 rfl rfl <| sd 17 rfl rfl <| sd 18 rfl rfl <| sn) (.cons rfl (roM D81) <| .nil) rfl rfl⟩
   ·
    obtain ⟨l3, rfl⟩ : ∃ x, x = j := ⟨_, rfl⟩
    replace h := t1i h
    refine t1T ?_
    refine T_reg ?_
    refine R_q _ rfl (v_add (ov rfl) (ov rfl) rfl) ?_
    refine R_q _ rfl (v_move (ov rfl)) ?_
    refine R_nil ?_
    exact ⟨(l3, (i64 (i + 1))), h, Ent.sel [some 0] (sd 3 rfl rfl <| sr 4 rfl (.own _ rfl) <| sd 16 rfl rfl <| sd 17 rfl rfl <| sd 18 rfl rfl <| sn) (.cons rfl (roM D81) <| .nil) rfl rfl⟩
  ·
   refine T_exit ?_
   rw [lx h] at ho1
   replace h := ho1
   exact ⟨l2, h, Ent.sel [some 0] (sr 4 rfl (.own _ rfl) <| sn) (.cons rfl (roM D81) <| .nil) rfl rfl⟩
 ·
  obtain ⟨l, rfl⟩ : ∃ x, x = j := ⟨_, rfl⟩
  replace h := t1i h
  refine t1T ?_
  refine T_seq (T_reg ?_)
  refine R_q _ rfl (v_move (ov rfl)) ?_
  obtain ⟨y5, h_y5, h⟩ := bnd h
  refine R_ent (Ent.sel [none] (sr 4 rfl (frzM rfl rfl rfl D81) <| sr 59 rfl (frzM rfl rfl rfl D81) <| sn) (.row 81 <| .nil) rfl rfl) ?_
  refine R_q _ rfl (v_call (ok_salvage_grouped h_y5) (.cons (ov rfl) (.b rfl) <| .nil)) ?_
  refine R_q _ rfl (v_assign (ov rfl)) ?_
  refine R_nil ?_
  obtain rfl := rt (v := y5) h
  refine T_ret (retq ?_ (.one (.tmp rfl (Dat.view (.b rfl)))))
  rfl

theorem ok_salvage_grouped_o {l : List api_Rest} {r : (List api_Rest)} (h : salvage_grouped l = some r) :
  GSpec Tryd.prog gl0 60 [.sl 81 (List.map R81 l)] [] (.own 0 r.length) [some ⟨81, List.map R81 r⟩] := by
 unfold salvage_grouped at h
 replace h := bnd0 h
 refine gspec_of (by kernel_rfl) Tryd.func60 rfl rfl ?_
 intro w0 A W φ0
 refine T_seq (T_reg ?_)
 refine R_q _ rfl (v_assign (ov rfl)) ?_
 refine R_nil ?_
 refine T_keep (kc 0 rfl <| kn) rfl ?_
 refine T_seq (T_reg ?_)
 refine R_w _ _ rfl (w_makeMap 0 rfl tMp146) ?_
 refine R_q _ rfl (v_assign (ov rfl)) ?_
 refine R_nil ?_
 refine T_keep (kc 0 rfl <| kc 3 rfl <| kn) rfl ?_
 refine T_seq (T_reg ?_)
 refine R_q _ rfl (v_assign (ov rfl)) ?_
 refine R_nil ?_
 refine T_joinG id (t2 fun groups numbers => ⟨[(3, .mref 0 1), (4, .own 1 numbers.length)], [some ⟨146, [[.mcon (List.map (mrow FK3 (osF 81 R81)) groups)]]⟩, some ⟨3, List.map R3 numbers⟩]⟩) h (fun h => ?_) (fun j h => ?_)
 ·
  refine T_seq (T_reg ?_)
  refine R_q _ rfl (v_move (ov rfl)) ?_
  refine R_q _ rfl (v_len (slv_sl (ov rfl) tZ_81) tL75 (len_map _ _)) ?_
  refine R_q _ rfl (v_move (ov rfl)) ?_
  refine R_nil ?_
  refine T_block ?_
  obtain ⟨r1, hl1, ho1⟩ := bndL h
  refine T_loopG _ (t3 fun groups2 numbers2 i => ⟨[(3, .mref 0 1), (4, .own 1 numbers2.length), (11, .sl 81 (List.map R81 l)), (12, .int .i64 (l.length : Int)), (13, .int .i64 i)], [some ⟨146, [[.mcon (List.map (mrow FK3 (osF 81 R81)) groups2)]]⟩, some ⟨3, List.map R3 numbers2⟩]⟩) _ hl1 (Ent.sel [some 0, none] (sr 3 rfl (.mref _ rfl) <| sr 4 rfl (.row rfl) <| sd 11 rfl rfl <| sd 12 rfl rfl <| sd 13 rfl rfl <| sn) (.cons rfl (roMap (fk := FK3) (fv := (osF 81 R81)) (m := ([] : List (Int × (List api_Rest)))) tZ_146 (fun _ => .dat rfl) (fun _ => (rcOs D81))) <| .row 3 <| .nil) rfl rfl) (fun n1 s1 h => ?_)
  obtain ⟨groups2, numbers2, i⟩ := s1
  replace h := t3i h
  refine t3T ?_
  unfold salvage_grouped_L1 at h
  refine T_seq (T_reg ?_)
  refine R_q _ rfl (v_lss (ov rfl) (ov rfl)) ?_
  refine R_nil ?_
  refine T_seq ?_
  refine T_if h rfl (fun b14 h => ?_) (fun b14 h => ?_)
  ·
   refine T_skip ?_
   refine T_joinG id (t2 fun groups3 numbers3 => ⟨[(3, .mref 0 1), (4, .own 1 numbers3.length), (11, .sl 81 (List.map R81 l)), (12, .int .i64 (l.length : Int)), (13, .int .i64 i)], [some ⟨146, [[.mcon (List.map (mrow FK3 (osF 81 R81)) groups3)]]⟩, some ⟨3, List.map R3 numbers3⟩]⟩) h (fun h => ?_) (fun j h => ?_)
   ·
    refine T_block ?_
    refine T_keep (kc 3 rfl <| kc 4 rfl <| kc 11 rfl <| kc 12 rfl <| kc 13 rfl <| kn) rfl ?_
    refine T_seq (T_reg ?_)
    obtain ⟨x, h_x, h⟩ := bnd h
    refine R_q _ rfl (v_ixSG (ov rfl) (ov rfl) tL75 h_x) ?_
    refine R_q _ rfl (v_loadA_r (ov rfl) tA81 (at_sub (at_all (lnC (n := 131) (lnA (m := 64) (n := 67) arL (lnA (m := 64) (n := 3) arL (lnC (n := 2) (lnC (n := 1) (lnC (n := 0) (lnN))))))))) (lnC (n := 131) (lnA (m := 64) (n := 67) arL (lnA (m := 64) (n := 3) arL (lnC (n := 2) (lnC (n := 1) (lnC (n := 0) (lnN)))))))) ?_
    refine R_w _ _ rfl (w_alloc (row := (.int .i64 0) :: ((List.map C36 (Vector.replicate 64 0).toList) ++ (((List.map C3 (Vector.replicate 64 0).toList) ++ ((.bool false) :: (.int .i64 0) :: (.bool false) :: []))))) 2 rfl tZ81 (by kernel_rfl) (by exact Eq.symm (Eq.trans (b := 132) (lnC (n := 131) (lnA (m := 64) (n := 67) arL (lnA (m := 64) (n := 3) arL (lnC (n := 2) (lnC (n := 1) (lnC (n := 0) (lnN))))))) tZ_81.symm))) ?_
    refine R_w _ _ rfl (w_store (ov rfl) (ov rfl) (cells_agg tA81 (lnC (n := 131) (lnA (m := 64) (n := 67) arL (lnA (m := 64) (n := 3) arL (lnC (n := 2) (lnC (n := 1) (lnC (n := 0) (lnN)))))))) rfl rfl rfl (put_le (at_all (lnC (n := 131) (lnA (m := 64) (n := 67) arL (lnA (m := 64) (n := 3) arL (lnC (n := 2) (lnC (n := 1) (lnC (n := 0) (lnN)))))))) (lnC (n := 131) (lnA (m := 64) (n := 67) arL (lnA (m := 64) (n := 3) arL (lnC (n := 2) (lnC (n := 1) (lnC (n := 0) (lnN)))))))) (cell1_all (alC rfl (alA (arC fun _ => rfl) (alA (arC fun _ => rfl) (alC rfl (alC rfl (alC rfl (alN)))))))) (put_all (Eq.trans (lnC (n := 131) (lnA (m := 64) (n := 67) arL (lnA (m := 64) (n := 3) arL (lnC (n := 2) (lnC (n := 1) (lnC (n := 0) (lnN))))))) (Eq.symm (lnC (n := 131) (lnA (m := 64) (n := 67) arL (lnA (m := 64) (n := 3) arL (lnC (n := 2) (lnC (n := 1) (lnC (n := 0) (lnN))))))))))) ?_
    refine R_nil ?_
    refine T_joinG id (t1 fun numbers4 => ⟨[(3, .mref 0 1), (4, .own 1 numbers4.length), (6, .ptr 2 1 0 0), (11, .sl 81 (List.map R81 l)), (12, .int .i64 (l.length : Int)), (13, .int .i64 i)], [some ⟨146, [[.mcon (List.map (mrow FK3 (osF 81 R81)) groups2)]]⟩, some ⟨3, List.map R3 numbers4⟩, some ⟨81, [(.int .i64 x.Number) :: ((List.map C36 x.Frame.toList) ++ (((List.map C3 x.States.toList) ++ ((.bool x.Sound) :: (.int .i64 x.Copies) :: (.bool x.Conflict) :: []))))]⟩]⟩) h (fun h => ?_) (fun j h => ?_)
    ·
     refine T_keep (kc 3 rfl <| kc 4 rfl <| kc 6 rfl <| kc 11 rfl <| kc 12 rfl <| kc 13 rfl <| kn) rfl ?_
     refine T_seq (T_reg ?_)
     refine R_q _ rfl (v_move (ov rfl)) ?_
     refine R_q _ rfl (v_fieldP (ov rfl) rfl rfl tF81_0) ?_
     refine R_q _ rfl (v_loadS (ov rfl) rfl rfl rfl tS3 (at_get (at0 (hdc (n := 0) hd0)))) ?_
     obtain ⟨z, h_z, h⟩ := bnd h
     rcases z with z | z
     ·
      replace h := ell h
      refine R_q _ rfl (v_lkN (e1 := 81) (R := R81) (m := groups2) (k := x.Number) (msel_l h_z) (ov rfl) (ov rfl) tMp146 tKO3 rfl (fun _ => .b rfl) (zero_scal tZV75 rfl)) ?_
      refine R_q _ rfl (v_nilN (ng := false) (ov rfl) tIsl75) ?_
      refine R_nil ?_
      refine T_keep (kc 3 rfl <| kc 4 rfl <| kc 6 rfl <| kc 11 rfl <| kc 12 rfl <| kc 13 rfl <| kc 21 rfl <| kn) rfl ?_
      refine T_if h rfl (fun b21 h => ?_) (fun b21 h => ?_)
      ·
       refine T_keep (kc 3 rfl <| kc 4 rfl <| kc 6 rfl <| kc 11 rfl <| kc 12 rfl <| kc 13 rfl <| kn) rfl ?_
       refine T_reg ?_
       refine R_q _ rfl (v_move (ov rfl)) ?_
       refine R_q _ rfl (v_fieldP (ov rfl) rfl rfl tF81_0) ?_
       refine R_q _ rfl (v_loadS (ov rfl) rfl rfl rfl tS3 (at_get (at0 (hdc (n := 0) hd0)))) ?_
       refine R_q (.sl 3 (List.map R3 ([x.Number] : List Int))) rfl (v_lit tL26 (.cons (cvs (ov rfl) (cell1_b rfl)) rfl (.cons (.b rfl) .nil) <| .nil) rfl rfl) ?_
       obtain ⟨l2, h_l2, h⟩ := bnd h
       refine R_w _ _ rfl (w_appendG (ov rfl) (slv_sl (ov rfl) tZ_3) tL26 rfl rfl rfl (fun _ => cell1_all rfl) rfl h_l2) ?_
       refine R_q _ rfl (v_assign (ov rfl)) ?_
       refine R_nil ?_
       exact ⟨l2, h, Ent.sel [some 0, some 1, some 2] (sr 3 rfl (.mref _ rfl) <| sr 4 rfl (.own _ rfl) <| sr 6 rfl (.ptr _ _ _ rfl) <| sd 11 rfl rfl <| sd 12 rfl rfl <| sd 13 rfl rfl <| sn) (.cons rfl (roMap (fk := FK3) (fv := (osF 81 R81)) (m := groups2) tZ_146 (fun _ => .dat rfl) (fun _ => (rcOs D81))) <| .cons rfl (roM D3) <| .cons rfl (ro1 (by exact Eq.trans (b := 132) (lnC (n := 131) (lnA (m := 64) (n := 67) arL (lnA (m := 64) (n := 3) arL (lnC (n := 2) (lnC (n := 1) (lnC (n := 0) (lnN))))))) tZ_81.symm) (rld (alC rfl (alA (arD fun _ => rfl) (alA (arD fun _ => rfl) (alC rfl (alC rfl (alC rfl (alN))))))))) <| .nil) rfl rfl⟩
      ·
       exact Bool.noConfusion b21
     ·
      replace h := elr h
      refine R_ent (Ent.focusMk1 (e := 81) (R := R81) (m := groups2) (k := x.Number) (r := 0) rfl tZ_146 (msel_r h_z) D81) ?_
      refine R_q _ rfl (v_lkF (e1 := 81) (R := R81) (m := groups2) (k := x.Number) (ov rfl) (ov rfl) tMp146 tKO3 rfl (fun _ => .b rfl) (zero_scal tZV75 rfl)) ?_
      obtain ⟨u, h_u, h⟩ := bnd h
      refine R_q _ rfl (v_nilO (ng := false) (ov rfl) tIsl75 rfl (List.length_map ..) h_u) ?_
      refine R_ent (by exact Ent.absorbMs1 (e := 81) (R := R81) (m := groups2) (k := x.Number) (ys := z) (fk := FK3) (r := 0) (q := 3) (msel_r h_z) rfl tZ_146 rfl rfl rfl) ?_
      refine R_nil ?_
      refine T_keep (kc 3 rfl <| kc 4 rfl <| kc 6 rfl <| kc 11 rfl <| kc 12 rfl <| kc 13 rfl <| kc 21 rfl <| kn) rfl ?_
      refine T_if h rfl (fun b21 h => ?_) (fun b21 h => ?_)
      ·
       exact Bool.noConfusion b21
      ·
       refine T_skip ?_
       exact ⟨numbers2, h, Ent.sel [some 0, some 1, some 2] (sr 3 rfl (.mref _ rfl) <| sr 4 rfl (.own _ rfl) <| sr 6 rfl (.ptr _ _ _ rfl) <| sd 11 rfl rfl <| sd 12 rfl rfl <| sd 13 rfl rfl <| sn) (.cons rfl (roMap (fk := FK3) (fv := (osF 81 R81)) (m := groups2) tZ_146 (fun _ => .dat rfl) (fun _ => (rcOs D81))) <| .cons rfl (roM D3) <| .cons rfl (ro1 (by exact Eq.trans (b := 132) (lnC (n := 131) (lnA (m := 64) (n := 67) arL (lnA (m := 64) (n := 3) arL (lnC (n := 2) (lnC (n := 1) (lnC (n := 0) (lnN))))))) tZ_81.symm) (rld (alC rfl (alA (arD fun _ => rfl) (alA (arD fun _ => rfl) (alC rfl (alC rfl (alC rfl (alN))))))))) <| .nil) rfl rfl⟩
    ·
     obtain ⟨numbers4, rfl⟩ : ∃ x, x = j := ⟨_, rfl⟩
     replace h := t1i h
     refine t1T ?_
     obtain ⟨z2, h_z2, h⟩ := bnd h
     rcases z2 with z2 | z2
     ·
      replace h := ell h
      refine T_draw (cw := md0) (by kernel_rfl) ?_
      refine D_q0 3 _ rfl (by kernel_rfl) rfl rfl (v_move (ov rfl)) ?_
      refine D_q0 4 _ rfl (by kernel_rfl) rfl rfl (v_fieldP (ov rfl) rfl rfl tF81_0) ?_
      refine D_q0 5 _ rfl (by kernel_rfl) rfl rfl (v_loadS (ov rfl) rfl rfl rfl tS3 (at_get (at0 (hdc (n := 0) hd0)))) ?_
      refine D_q0 6 _ rfl (by kernel_rfl) rfl rfl (v_lkN (e1 := 81) (R := R81) (m := groups2) (k := x.Number) (msel_l h_z2) (ov rfl) (ov rfl) tMp146 tKO3 rfl (fun _ => .b rfl) (zero_scal tZV75 rfl)) ?_
      refine D_q0 7 _ rfl (by kernel_rfl) rfl rfl (v_loadA (ov rfl) rfl rfl rfl tA81 (at_sub (at_all (lnC (n := 131) (lnA (m := 64) (n := 67) arL (lnA (m := 64) (n := 3) arL (lnC (n := 2) (lnC (n := 1) (lnC (n := 0) (lnN))))))))) (lnC (n := 131) (lnA (m := 64) (n := 67) arL (lnA (m := 64) (n := 3) arL (lnC (n := 2) (lnC (n := 1) (lnC (n := 0) (lnN))))))) (hns := nsC rfl (nsA (nsM fun _ => rfl) (nsA (nsM fun _ => rfl) (nsC rfl (nsC rfl (nsC rfl (nsR rfl)))))))) ?_
      refine D_q0 8 (.sl 81 (List.map R81 ([x] : List api_Rest))) rfl (by kernel_rfl) rfl rfl (v_lit tL75 (.cons (cva (ov rfl)) (lnC (n := 131) (lnA (m := 64) (n := 67) arL (lnA (m := 64) (n := 3) arL (lnC (n := 2) (lnC (n := 1) (lnC (n := 0) (lnN))))))) (pwD (alC rfl (alA (arD fun _ => rfl) (alA (arD fun _ => rfl) (alC rfl (alC rfl (alC rfl (alN)))))))) <| .nil) rfl rfl) ?_
      refine D_free 0 _ rfl (by kernel_rfl) rfl rfl (fun hp' => v_move (ov rfl)) ?_
      obtain ⟨l3, h_l3, h⟩ := bnd h
      refine D_twoQ 1 9 rfl rfl (by kernel_rfl) rfl rfl rfl rfl (fun h => by cases h) (fun h => by cases h) (v_fieldP (ov rfl) rfl rfl tF81_0) (w_append0G (r := 3) rfl (ov rfl) (slv_sl (ov rfl) tZ_81) tL75 rfl h_l3) ?_ ?_
      ·
       refine D_twoQ 2 9 rfl rfl (by kernel_rfl) rfl rfl rfl rfl (fun h => by cases h) (fun h => by cases h) (v_loadS (ov rfl) rfl rfl rfl tS3 (at_get (at0 (hdc (n := 0) hd0)))) (w_append0G (r := 3) rfl (ov rfl) (slv_sl (ov rfl) tZ_81) tL75 rfl h_l3) ?_ ?_
       ·
        refine D_one 9 _ _ rfl (by kernel_rfl) rfl rfl (fun h => by cases h) (fun h => by cases h) (w_append0G (r := 3) rfl (ov rfl) (slv_sl (ov rfl) tZ_81) tL75 rfl h_l3) ?_
        refine D_one 10 _ _ rfl (by kernel_rfl) rfl rfl (fun h => by cases h) (fun h => by cases h) (w_putN (e1 := 81) (R := R81) (m := groups2) (k := x.Number) (ov rfl) (ov rfl) (ov rfl) tMp146 tKO3 rfl (fun _ => .b rfl)) ?_
        refine D_doneE (by kernel_rfl) (Ent.absorbMk1 (e := 81) (R := R81) (m := groups2) (k := x.Number) (ys := l3) (fk := FK3) (r := 0) (q := 3) rfl tZ_146 rfl rfl rfl) ?_
        exact ⟨((mput kqI groups2 x.Number l3), numbers4), h, Ent.sel [some 0, some 1] (sr 3 rfl (.mref _ rfl) <| sr 4 rfl (.own _ rfl) <| sd 11 rfl rfl <| sd 12 rfl rfl <| sd 13 rfl rfl <| sn) (.cons rfl (roMap (fk := FK3) (fv := (osF 81 R81)) (m := (mput kqI groups2 x.Number l3)) tZ_146 (fun _ => .dat rfl) (fun _ => (rcOs D81))) <| .cons rfl (roM D3) <| .nil) rfl rfl⟩
       ·
        refine D_q0 2 _ rfl (by kernel_rfl) rfl rfl (v_loadS (ov rfl) rfl rfl rfl tS3 (at_get (at0 (hdc (n := 0) hd0)))) ?_
        refine D_one 10 _ _ rfl (by kernel_rfl) rfl rfl (fun h => by cases h) (fun h => by cases h) (w_putN (e1 := 81) (R := R81) (m := groups2) (k := x.Number) (ov rfl) (ov rfl) (ov rfl) tMp146 tKO3 rfl (fun _ => .b rfl)) ?_
        refine D_doneE (by kernel_rfl) (Ent.absorbMk1 (e := 81) (R := R81) (m := groups2) (k := x.Number) (ys := l3) (fk := FK3) (r := 0) (q := 3) rfl tZ_146 rfl rfl rfl) ?_
        exact ⟨((mput kqI groups2 x.Number l3), numbers4), h, Ent.sel [some 0, some 1] (sr 3 rfl (.mref _ rfl) <| sr 4 rfl (.own _ rfl) <| sd 11 rfl rfl <| sd 12 rfl rfl <| sd 13 rfl rfl <| sn) (.cons rfl (roMap (fk := FK3) (fv := (osF 81 R81)) (m := (mput kqI groups2 x.Number l3)) tZ_146 (fun _ => .dat rfl) (fun _ => (rcOs D81))) <| .cons rfl (roM D3) <| .nil) rfl rfl⟩
      ·
       refine D_q0 1 _ rfl (by kernel_rfl) rfl rfl (v_fieldP (ov rfl) rfl rfl tF81_0) ?_
       refine D_q0 2 _ rfl (by kernel_rfl) rfl rfl (v_loadS (ov rfl) rfl rfl rfl tS3 (at_get (at0 (hdc (n := 0) hd0)))) ?_
       refine D_one 10 _ _ rfl (by kernel_rfl) rfl rfl (fun h => by cases h) (fun h => by cases h) (w_putN (e1 := 81) (R := R81) (m := groups2) (k := x.Number) (ov rfl) (ov rfl) (ov rfl) tMp146 tKO3 rfl (fun _ => .b rfl)) ?_
       refine D_doneE (by kernel_rfl) (Ent.absorbMk1 (e := 81) (R := R81) (m := groups2) (k := x.Number) (ys := l3) (fk := FK3) (r := 0) (q := 3) rfl tZ_146 rfl rfl rfl) ?_
       exact ⟨((mput kqI groups2 x.Number l3), numbers4), h, Ent.sel [some 0, some 1] (sr 3 rfl (.mref _ rfl) <| sr 4 rfl (.own _ rfl) <| sd 11 rfl rfl <| sd 12 rfl rfl <| sd 13 rfl rfl <| sn) (.cons rfl (roMap (fk := FK3) (fv := (osF 81 R81)) (m := (mput kqI groups2 x.Number l3)) tZ_146 (fun _ => .dat rfl) (fun _ => (rcOs D81))) <| .cons rfl (roM D3) <| .nil) rfl rfl⟩
     ·
      replace h := elr h
      refine T_ent (Ent.focusMk1 (e := 81) (R := R81) (m := groups2) (k := x.Number) (r := 0) rfl tZ_146 (msel_r h_z2) D81) ?_
      refine T_draw (cw := md0) (by kernel_rfl) ?_
      refine D_q0 3 _ rfl (by kernel_rfl) rfl rfl (v_move (ov rfl)) ?_
      refine D_q0 4 _ rfl (by kernel_rfl) rfl rfl (v_fieldP (ov rfl) rfl rfl tF81_0) ?_
      refine D_q0 5 _ rfl (by kernel_rfl) rfl rfl (v_loadS (ov rfl) rfl rfl rfl tS3 (at_get (at0 (hdc (n := 0) hd0)))) ?_
      refine D_q0 6 _ rfl (by kernel_rfl) rfl rfl (v_lkF (e1 := 81) (R := R81) (m := groups2) (k := x.Number) (ov rfl) (ov rfl) tMp146 tKO3 rfl (fun _ => .b rfl) (zero_scal tZV75 rfl)) ?_
      refine D_q0 7 _ rfl (by kernel_rfl) rfl rfl (v_loadA (ov rfl) rfl rfl rfl tA81 (at_sub (at_all (lnC (n := 131) (lnA (m := 64) (n := 67) arL (lnA (m := 64) (n := 3) arL (lnC (n := 2) (lnC (n := 1) (lnC (n := 0) (lnN))))))))) (lnC (n := 131) (lnA (m := 64) (n := 67) arL (lnA (m := 64) (n := 3) arL (lnC (n := 2) (lnC (n := 1) (lnC (n := 0) (lnN))))))) (hns := nsC rfl (nsA (nsM fun _ => rfl) (nsA (nsM fun _ => rfl) (nsC rfl (nsC rfl (nsC rfl (nsR rfl)))))))) ?_
      refine D_q0 8 (.sl 81 (List.map R81 ([x] : List api_Rest))) rfl (by kernel_rfl) rfl rfl (v_lit tL75 (.cons (cva (ov rfl)) (lnC (n := 131) (lnA (m := 64) (n := 67) arL (lnA (m := 64) (n := 3) arL (lnC (n := 2) (lnC (n := 1) (lnC (n := 0) (lnN))))))) (pwD (alC rfl (alA (arD fun _ => rfl) (alA (arD fun _ => rfl) (alC rfl (alC rfl (alC rfl (alN)))))))) <| .nil) rfl rfl) ?_
      refine D_free 0 _ rfl (by kernel_rfl) rfl rfl (fun hp' => v_move (ov rfl)) ?_
      obtain ⟨l4, h_l4, h⟩ := bnd h
      refine D_twoQ 1 9 rfl rfl (by kernel_rfl) rfl rfl rfl rfl (fun h => by cases h) (fun h => by cases h) (v_fieldP (ov rfl) rfl rfl tF81_0) (w_appendG (ov rfl) (slv_sl (ov rfl) tZ_81) tL75 rfl rfl rfl (fun x => cell1_all (E81 x)) rfl h_l4) ?_ ?_
      ·
       refine D_twoQ 2 9 rfl rfl (by kernel_rfl) rfl rfl rfl rfl (fun h => by cases h) (fun h => by cases h) (v_loadS (ov rfl) rfl rfl rfl tS3 (at_get (at0 (hdc (n := 0) hd0)))) (w_appendG (ov rfl) (slv_sl (ov rfl) tZ_81) tL75 rfl rfl rfl (fun x => cell1_all (E81 x)) rfl h_l4) ?_ ?_
       ·
        refine D_one 9 _ _ rfl (by kernel_rfl) rfl rfl (fun h => by cases h) (fun h => by cases h) (w_appendG (ov rfl) (slv_sl (ov rfl) tZ_81) tL75 rfl rfl rfl (fun x => cell1_all (E81 x)) rfl h_l4) ?_
        refine D_one 10 _ _ rfl (by kernel_rfl) rfl rfl (fun h => by cases h) (fun h => by cases h) (w_putF (e1 := 81) (R := R81) (m := groups2) (k := x.Number) (ov rfl) (ov rfl) (ov rfl) tMp146 tKO3 rfl (fun _ => .b rfl)) ?_
        refine D_doneE (by kernel_rfl) (Ent.absorbMk1 (e := 81) (R := R81) (m := groups2) (k := x.Number) (ys := l4) (fk := FK3) (r := 0) (q := 3) rfl tZ_146 rfl rfl rfl) ?_
        exact ⟨((mput kqI groups2 x.Number l4), numbers4), h, Ent.sel [some 0, some 1] (sr 3 rfl (.mref _ rfl) <| sr 4 rfl (.own _ rfl) <| sd 11 rfl rfl <| sd 12 rfl rfl <| sd 13 rfl rfl <| sn) (.cons rfl (roMap (fk := FK3) (fv := (osF 81 R81)) (m := (mput kqI groups2 x.Number l4)) tZ_146 (fun _ => .dat rfl) (fun _ => (rcOs D81))) <| .cons rfl (roM D3) <| .nil) rfl rfl⟩
       ·
        refine D_q0 2 _ rfl (by kernel_rfl) rfl rfl (v_loadS (ov rfl) rfl rfl rfl tS3 (at_get (at0 (hdc (n := 0) hd0)))) ?_
        refine D_one 10 _ _ rfl (by kernel_rfl) rfl rfl (fun h => by cases h) (fun h => by cases h) (w_putF (e1 := 81) (R := R81) (m := groups2) (k := x.Number) (ov rfl) (ov rfl) (ov rfl) tMp146 tKO3 rfl (fun _ => .b rfl)) ?_
        refine D_doneE (by kernel_rfl) (Ent.absorbMk1 (e := 81) (R := R81) (m := groups2) (k := x.Number) (ys := l4) (fk := FK3) (r := 0) (q := 3) rfl tZ_146 rfl rfl rfl) ?_
        exact ⟨((mput kqI groups2 x.Number l4), numbers4), h, Ent.sel [some 0, some 1] (sr 3 rfl (.mref _ rfl) <| sr 4 rfl (.own _ rfl) <| sd 11 rfl rfl <| sd 12 rfl rfl <| sd 13 rfl rfl <| sn) (.cons rfl (roMap (fk := FK3) (fv := (osF 81 R81)) (m := (mput kqI groups2 x.Number l4)) tZ_146 (fun _ => .dat rfl) (fun _ => (rcOs D81))) <| .cons rfl (roM D3) <| .nil) rfl rfl⟩
      ·
       refine D_q0 1 _ rfl (by kernel_rfl) rfl rfl (v_fieldP (ov rfl) rfl rfl tF81_0) ?_
       refine D_q0 2 _ rfl (by kernel_rfl) rfl rfl (v_loadS (ov rfl) rfl rfl rfl tS3 (at_get (at0 (hdc (n := 0) hd0)))) ?_
       refine D_one 10 _ _ rfl (by kernel_rfl) rfl rfl (fun h => by cases h) (fun h => by cases h) (w_putF (e1 := 81) (R := R81) (m := groups2) (k := x.Number) (ov rfl) (ov rfl) (ov rfl) tMp146 tKO3 rfl (fun _ => .b rfl)) ?_
       refine D_doneE (by kernel_rfl) (Ent.absorbMk1 (e := 81) (R := R81) (m := groups2) (k := x.Number) (ys := l4) (fk := FK3) (r := 0) (q := 3) rfl tZ_146 rfl rfl rfl) ?_
       exact ⟨((mput kqI groups2 x.Number l4), numbers4), h, Ent.sel [some 0, some 1] (sr 3 rfl (.mref _ rfl) <| sr 4 rfl (.own _ rfl) <| sd 11 rfl rfl <| sd 12 rfl rfl <| sd 13 rfl rfl <| sn) (.cons rfl (roMap (fk := FK3) (fv := (osF 81 R81)) (m := (mput kqI groups2 x.Number l4)) tZ_146 (fun _ => .dat rfl) (fun _ => (rcOs D81))) <| .cons rfl (roM D3) <| .nil) rfl rfl⟩
   ·
    obtain ⟨groups3, numbers3⟩ := j
    replace h := t2i h
    refine t2T ?_
    refine T_reg ?_
    refine R_q _ rfl (v_add (ov rfl) (ov rfl) rfl) ?_
    refine R_q _ rfl (v_move (ov rfl)) ?_
    refine R_nil ?_
    exact ⟨(groups3, numbers3, (i64 (i + 1))), h, Ent.sel [some 0, some 1] (sr 3 rfl (.mref _ rfl) <| sr 4 rfl (.own _ rfl) <| sd 11 rfl rfl <| sd 12 rfl rfl <| sd 13 rfl rfl <| sn) (.cons rfl (roMap (fk := FK3) (fv := (osF 81 R81)) (m := groups3) tZ_146 (fun _ => .dat rfl) (fun _ => (rcOs D81))) <| .cons rfl (roM D3) <| .nil) rfl rfl⟩
  ·
   refine T_exit ?_
   rw [lx h] at ho1
   replace h := ho1
   exact ⟨(groups2, numbers2), h, Ent.sel [some 0, some 1] (sr 3 rfl (.mref _ rfl) <| sr 4 rfl (.own _ rfl) <| sn) (.cons rfl (roMap (fk := FK3) (fv := (osF 81 R81)) (m := groups2) tZ_146 (fun _ => .dat rfl) (fun _ => (rcOs D81))) <| .cons rfl (roM D3) <| .nil) rfl rfl⟩
 ·
  obtain ⟨groups, numbers⟩ := j
  replace h := t2i h
  refine t2T ?_
  refine T_seq (T_reg ?_)
  refine R_q _ rfl (v_move (ov rfl)) ?_
  obtain ⟨y, h_y, h⟩ := bnd h
  refine R_w _ _ rfl (w_callG [1] (ok_sortIL h_y) (.cons (ov rfl) (.own _ rfl) <| .nil) (.cons rfl (roM D3) <| .nil) rfl (.keep rfl rfl <| .lent 0 (.inl rfl) rfl (roM D3) <| .nil) rfl rfl (rTup (rld rfl))) ?_
  refine R_nil ?_
  refine T_keep (kc 3 rfl <| kc 4 rfl <| kn) rfl ?_
  refine T_seq (T_reg ?_)
  refine R_q _ rfl (v_assign (ov rfl)) ?_
  refine R_nil ?_
  refine T_joinG id (t1 fun out => ⟨[(7, .own 0 out.length)], [some ⟨81, List.map R81 out⟩]⟩) h (fun h => ?_) (fun j h => ?_)
  ·
   refine T_seq (T_reg ?_)
   refine R_q _ rfl (v_move (ov rfl)) ?_
   refine R_q _ rfl (v_lenO (ov rfl) rfl (ln_sortI h_y) tL26) ?_
   refine R_q _ rfl (v_move (ov rfl)) ?_
   refine R_nil ?_
   refine T_block ?_
   obtain ⟨r2, hl2, ho2⟩ := bndL h
   refine T_loopG _ (t2 fun out2 i2 => ⟨[(3, .mref 0 1), (7, .own 1 out2.length), (40, .own 2 y.length), (41, .int .i64 (y.length : Int)), (42, .int .i64 i2)], [some ⟨146, [[.mcon (List.map (mrow FK3 (osF 81 R81)) groups)]]⟩, some ⟨81, List.map R81 out2⟩, some ⟨3, List.map R3 y⟩]⟩) _ hl2 (Ent.sel [some 0, none, some 1] (sr 3 rfl (.mref _ rfl) <| sr 7 rfl (.row rfl) <| sr 40 rfl (ownE (Eq.symm (ln_sortI h_y)) rfl) <| sd 41 rfl rfl <| sd 42 rfl rfl <| sn) (.cons rfl (roMap (fk := FK3) (fv := (osF 81 R81)) (m := groups) tZ_146 (fun _ => .dat rfl) (fun _ => (rcOs D81))) <| .row 81 <| .cons rfl (roM D3) <| .nil) rfl rfl) (fun n2 s2 h => ?_)
   obtain ⟨out2, i2⟩ := s2
   replace h := t2i h
   refine t2T ?_
   unfold salvage_grouped_L2 at h
   refine T_seq (T_reg ?_)
   refine R_q _ rfl (v_lss (ov rfl) (ov rfl)) ?_
   refine R_nil ?_
   refine T_seq ?_
   refine T_if h rfl (fun b43 h => ?_) (fun b43 h => ?_)
   ·
    refine T_skip ?_
    refine T_seq ?_
    refine T_block ?_
    refine T_keep (kc 3 rfl <| kc 7 rfl <| kc 40 rfl <| kc 41 rfl <| kc 42 rfl <| kn) rfl ?_
    refine T_seq (T_reg ?_)
    obtain ⟨x2, h_x2, h⟩ := bnd h
    refine R_q _ rfl (v_ixOG (ov rfl) (ov rfl) tL26 rfl rfl h_x2) ?_
    refine R_q _ rfl (v_loadSR (ov rfl) rfl rfl h_x2 tS3 rfl) ?_
    refine R_q _ rfl (v_assign (ov rfl)) ?_
    refine R_nil ?_
    refine T_keep (kc 3 rfl <| kc 7 rfl <| kc 9 rfl <| kc 40 rfl <| kc 41 rfl <| kc 42 rfl <| kn) rfl ?_
    refine T_reg ?_
    refine R_q _ rfl (v_move (ov rfl)) ?_
    refine R_q _ rfl (v_move (ov rfl)) ?_
    refine R_q _ rfl (v_move (ov rfl)) ?_
    obtain ⟨z3, h_z3, h⟩ := bnd h
    rcases z3 with z3 | z3
    ·
     replace h := ell h
     refine R_q _ rfl (v_lkN (e1 := 81) (R := R81) (m := groups) (k := x2) (msel_l h_z3) (ov rfl) (ov rfl) tMp146 tKO3 rfl (fun _ => .b rfl) (zero_scal tZV75 rfl)) ?_
     obtain ⟨y2, h_y2, h⟩ := bnd h
     refine R_q _ rfl (v_call (ok_salvage_merge h_y2) (.cons (ov rfl) (Dat.nils _) <| .nil)) ?_
     refine R_q (.sl 81 (List.map R81 ([y2] : List api_Rest))) rfl (v_lit tL75 (.cons (cva (ov rfl)) (lnC (n := 131) (lnA (m := 64) (n := 67) arL (lnA (m := 64) (n := 3) arL (lnC (n := 2) (lnC (n := 1) (lnC (n := 0) (lnN))))))) (pwD (alC rfl (alA (arD fun _ => rfl) (alA (arD fun _ => rfl) (alC rfl (alC rfl (alC rfl (alN)))))))) <| .nil) rfl rfl) ?_
     obtain ⟨l5, h_l5, h⟩ := bnd h
     refine R_w _ _ rfl (w_appendG (ov rfl) (slv_sl (ov rfl) tZ_81) tL75 rfl rfl rfl (fun x => cell1_all (E81 x)) rfl h_l5) ?_
     refine R_q _ rfl (v_assign (ov rfl)) ?_
     refine R_nil ?_
     refine T_keep (kc 3 rfl <| kc 7 rfl <| kc 40 rfl <| kc 41 rfl <| kc 42 rfl <| kn) rfl ?_
     refine T_reg ?_
     refine R_q _ rfl (v_add (ov rfl) (ov rfl) rfl) ?_
     refine R_q _ rfl (v_move (ov rfl)) ?_
     refine R_nil ?_
     exact ⟨(l5, (i64 (i2 + 1))), h, Ent.sel [some 0, some 1, some 2] (sr 3 rfl (.mref _ rfl) <| sr 7 rfl (.own _ rfl) <| sr 40 rfl (.own _ rfl) <| sd 41 rfl rfl <| sd 42 rfl rfl <| sn) (.cons rfl (roMap (fk := FK3) (fv := (osF 81 R81)) (m := groups) tZ_146 (fun _ => .dat rfl) (fun _ => (rcOs D81))) <| .cons rfl (roM D81) <| .cons rfl (roM D3) <| .nil) rfl rfl⟩
    ·
     replace h := elr h
     refine R_ent (Ent.focusMk1 (e := 81) (R := R81) (m := groups) (k := x2) (r := 0) rfl tZ_146 (msel_r h_z3) D81) ?_
     refine R_q _ rfl (v_lkF (e1 := 81) (R := R81) (m := groups) (k := x2) (ov rfl) (ov rfl) tMp146 tKO3 rfl (fun _ => .b rfl) (zero_scal tZV75 rfl)) ?_
     obtain ⟨y3, h_y3, h⟩ := bnd h
     refine R_q _ rfl (v_callB (ok_salvage_merge h_y3) (.agg (faC .int (faA (faV fun _ => .int) (faA (faV fun _ => .int) (faC .bool (faC .int (faC .bool (faN)))))))) (.cons (ov rfl) (View.ownM rfl rfl D81) <| .nil)) ?_
     refine R_q (.sl 81 (List.map R81 ([y3] : List api_Rest))) rfl (v_lit tL75 (.cons (cva (ov rfl)) (lnC (n := 131) (lnA (m := 64) (n := 67) arL (lnA (m := 64) (n := 3) arL (lnC (n := 2) (lnC (n := 1) (lnC (n := 0) (lnN))))))) (pwD (alC rfl (alA (arD fun _ => rfl) (alA (arD fun _ => rfl) (alC rfl (alC rfl (alC rfl (alN)))))))) <| .nil) rfl rfl) ?_
     obtain ⟨l6, h_l6, h⟩ := bnd h
     refine R_w _ _ rfl (w_appendG (ov rfl) (slv_sl (ov rfl) tZ_81) tL75 rfl rfl rfl (fun x => cell1_all (E81 x)) rfl h_l6) ?_
     refine R_q _ rfl (v_assign (ov rfl)) ?_
     refine R_ent (by exact Ent.absorbMs1 (e := 81) (R := R81) (m := groups) (k := x2) (ys := z3) (fk := FK3) (r := 0) (q := 3) (msel_r h_z3) rfl tZ_146 rfl rfl rfl) ?_
     refine R_nil ?_
     refine T_keep (kc 3 rfl <| kc 7 rfl <| kc 40 rfl <| kc 41 rfl <| kc 42 rfl <| kn) rfl ?_
     refine T_reg ?_
     refine R_q _ rfl (v_add (ov rfl) (ov rfl) rfl) ?_
     refine R_q _ rfl (v_move (ov rfl)) ?_
     refine R_nil ?_
     exact ⟨(l6, (i64 (i2 + 1))), h, Ent.sel [some 0, some 1, some 2] (sr 3 rfl (.mref _ rfl) <| sr 7 rfl (.own _ rfl) <| sr 40 rfl (.own _ rfl) <| sd 41 rfl rfl <| sd 42 rfl rfl <| sn) (.cons rfl (roMap (fk := FK3) (fv := (osF 81 R81)) (m := groups) tZ_146 (fun _ => .dat rfl) (fun _ => (rcOs D81))) <| .cons rfl (roM D81) <| .cons rfl (roM D3) <| .nil) rfl rfl⟩
   ·
    refine T_exit ?_
    rw [lx h] at ho2
    replace h := ho2
    exact ⟨out2, h, Ent.sel [some 1] (sr 7 rfl (.own _ rfl) <| sn) (.cons rfl (roM D81) <| .nil) rfl rfl⟩
  ·
   obtain ⟨out, rfl⟩ : ∃ x, x = j := ⟨_, rfl⟩
   replace h := t1i h
   refine t1T ?_
   refine T_seq (T_reg ?_)
   refine R_q _ rfl (v_move (ov rfl)) ?_
   refine R_q _ rfl (v_assign (ov rfl)) ?_
   refine R_nil ?_
   obtain rfl := rt (v := out) h
   refine T_ret ?_
   exact retg [some 0] rfl (.cons (.tmp rfl) <| .nil) (.cons rfl (roM D81) <| .nil) rfl rfl (.own _ rfl)

theorem ok_frame_word {data : Int} {r : Int} (h : frame_word data = some r) :
  CSpec Tryd.prog gl0 151 [.int .i64 data] (.int .u16 r) := by
 unfold frame_word at h
 replace h := bnd0 h
 refine spec_of (by kernel_rfl) Tryd.func151 rfl rfl ?_
 intro w0 A
 refine T_seq (T_reg ?_)
 refine R_q _ rfl (v_assign (ov rfl)) ?_
 refine R_nil ?_
 refine T_keep (kc 0 rfl <| kn) rfl ?_
 refine T_seq (T_reg ?_)
 refine R_q _ rfl (v_move (ov rfl)) ?_
 refine R_q _ rfl (v_conv (ov rfl) tI3 tI36 rfl) ?_
 refine R_q _ rfl (v_assign (ov rfl)) ?_
 refine R_nil ?_
 refine T_seq ?_
 refine T_keep (kc 3 rfl <| kn) rfl ?_
 refine T_seq (T_reg ?_)
 refine R_q _ rfl (v_move (ov rfl)) ?_
 obtain ⟨y, h_y, h⟩ := bnd h
 refine R_q _ rfl (v_call (ok_frame_odd h_y) (.cons (ov rfl) (.b rfl) <| .nil)) ?_
 refine R_q _ rfl (v_not (ov rfl)) ?_
 refine R_nil ?_
 refine T_keep (kc 3 rfl <| kc 8 rfl <| kn) rfl ?_
 refine T_if h rfl (fun b8 h => ?_) (fun b8 h => ?_)
 ·
  refine T_keep (kc 3 rfl <| kn) rfl ?_
  refine T_reg ?_
  refine R_q _ rfl (v_move (ov rfl)) ?_
  refine R_q _ rfl (v_or_ (ov rfl) (ov rfl)) ?_
  refine R_q _ rfl (v_assign (ov rfl)) ?_
  refine R_nil ?_
  refine T_keep (kc 3 rfl <| kn) rfl ?_
  refine T_seq (T_reg ?_)
  refine R_q _ rfl (v_move (ov rfl)) ?_
  refine R_q _ rfl (v_assign (ov rfl)) ?_
  refine R_nil ?_
  obtain rfl := rt (v := (bor .u16 (u16 data) 2048)) h
  refine T_ret (retq ?_ (.one (.tmp rfl (Dat.view (.b rfl)))))
  rfl
 ·
  refine T_skip ?_
  refine T_keep (kc 3 rfl <| kn) rfl ?_
  refine T_seq (T_reg ?_)
  refine R_q _ rfl (v_move (ov rfl)) ?_
  refine R_q _ rfl (v_assign (ov rfl)) ?_
  refine R_nil ?_
  obtain rfl := rt (v := (u16 data)) h
  refine T_ret (retq ?_ (.one (.tmp rfl (Dat.view (.b rfl)))))
  rfl

theorem ok_frame_replaced {f : Vector Int 64} {i : Int} {r : (Vector Int 64)} (h : frame_replaced f i = some r) :
  CSpec Tryd.prog gl0 120 [.agg (List.map C36 f.toList), .int .i64 i] (.agg (List.map C36 r.toList)) := by
 unfold frame_replaced at h
 replace h := bnd0 h
 refine spec_of (by kernel_rfl) Tryd.func120 rfl rfl ?_
 intro w0 A
 refine T_seq (T_reg ?_)
 refine R_w _ _ rfl (w_box 0 rfl (ov rfl) tA38 arL) ?_
 refine R_w _ _ rfl (w_alloc (row := (List.map C36 (Vector.replicate 64 0).toList)) 1 rfl tZ38 rfl tZ_38) ?_
 refine R_nil ?_
 refine T_joinG id (t1 fun f2 => ⟨[(2, .ptr 0 1 0 0), (4, .ptr 1 1 0 0)], [some ⟨38, [(List.map C36 f2.toList)]⟩, some ⟨38, [(List.map C36 (Vector.replicate 64 0).toList)]⟩]⟩) h (fun h => ?_) (fun j h => ?_)
 ·
  refine T_keep (kc 1 rfl <| kc 2 rfl <| kc 4 rfl <| kn) rfl ?_
  refine T_seq (T_reg ?_)
  refine R_q _ rfl (v_move (ov rfl)) ?_
  refine R_nil ?_
  refine T_block ?_
  refine T_seq (T_reg ?_)
  refine R_q _ rfl (v_eql (ov rfl) (ov rfl)) ?_
  refine R_q _ rfl (v_assign (ov rfl)) ?_
  refine R_nil ?_
  refine T_keep (kc 1 rfl <| kc 2 rfl <| kc 4 rfl <| kc 5 rfl <| kc 19 rfl <| kn) rfl ?_
  refine T_if h rfl (fun b19 h => ?_) (fun b19 h => ?_)
  ·
   refine T_keep (kc 2 rfl <| kc 4 rfl <| kn) rfl ?_
   refine T_reg ?_
   obtain ⟨y, h_y, h⟩ := bnd h
   refine R_q _ rfl (v_callB (ok_frame_numberOf h_y) .int (.cons (ov rfl) (View.ptr rfl rfl rfl (pwB (arD fun _ => rfl)) (hns := (nsM fun _ => rfl))) <| .nil)) ?_
   obtain ⟨q, h_q, h⟩ := bnd h
   refine R_q _ rfl (v_remG (ov rfl) (ov rfl) h_q) ?_
   obtain ⟨x, h_x, h⟩ := bnd h
   refine R_q _ rfl (v_ixRG (og (v := gv_frame_syncs) (k := .u16) (f := C36) (by simp [gl0]) (fun _ => rfl)) (ov rfl) tR202 h_x) ?_
   refine R_q _ rfl (v_loadS_r (ov rfl) tS36 (at_get (at_at (o := 0) (o' := (q.toNat * 1)) (at_all arL) (at_v1 h_x)))) ?_
   obtain ⟨x2, h_x2, h⟩ := bnd h
   refine R_q _ rfl (v_ixAG (ov rfl) (ov rfl) tR38 rfl rfl h_x2) ?_
   refine R_w _ _ rfl (w_store (ov rfl) (ov rfl) (cells_scal tS36) rfl rfl rfl (arB h_x2) (cell1_all rfl) (arS h_x2)) ?_
   refine R_nil ?_
   exact ⟨(vset f 0 x), h, Ent.sel [some 0, some 1] (sr 2 rfl (.ptr _ _ _ rfl) <| sr 4 rfl (.ptr _ _ _ rfl) <| sn) (.cons rfl (ro1 (by exact Eq.trans (b := 64) arL tZ_38.symm) (rld (arD fun _ => rfl))) <| .cons rfl (ro1 (by exact Eq.trans (b := 64) arL tZ_38.symm) (rld (arD fun _ => rfl))) <| .nil) rfl rfl⟩
  ·
   refine T_keep (kc 1 rfl <| kc 2 rfl <| kc 4 rfl <| kc 5 rfl <| kn) rfl ?_
   refine T_seq (T_reg ?_)
   refine R_q _ rfl (v_eql (ov rfl) (ov rfl)) ?_
   refine R_q _ rfl (v_assign (ov rfl)) ?_
   refine R_nil ?_
   refine T_keep (kc 1 rfl <| kc 2 rfl <| kc 4 rfl <| kc 5 rfl <| kc 26 rfl <| kn) rfl ?_
   refine T_if h rfl (fun b26 h => ?_) (fun b26 h => ?_)
   ·
    refine T_keep (kc 1 rfl <| kc 2 rfl <| kc 4 rfl <| kn) rfl ?_
    refine T_reg ?_
    refine R_q _ rfl (v_move (ov rfl)) ?_
    obtain ⟨y2, h_y2, h⟩ := bnd h
    refine R_q _ rfl (v_callB (ok_frame_sumOf h_y2) .int (.cons (ov rfl) (View.ptr rfl rfl rfl (pwB (arD fun _ => rfl)) (hns := (nsM fun _ => rfl))) <| .nil)) ?_
    obtain ⟨y3, h_y3, h⟩ := bnd h
    refine R_q _ rfl (v_call (ok_frame_word h_y3) (.cons (ov rfl) (.b rfl) <| .nil)) ?_
    obtain ⟨x3, h_x3, h⟩ := bnd h
    refine R_q _ rfl (v_ixAG (ov rfl) (ov rfl) tR38 rfl rfl h_x3) ?_
    refine R_w _ _ rfl (w_store (ov rfl) (ov rfl) (cells_scal tS36) rfl rfl rfl (arB h_x3) (cell1_all rfl) (arS h_x3)) ?_
    refine R_nil ?_
    exact ⟨(vset f i y3), h, Ent.sel [some 0, some 1] (sr 2 rfl (.ptr _ _ _ rfl) <| sr 4 rfl (.ptr _ _ _ rfl) <| sn) (.cons rfl (ro1 (by exact Eq.trans (b := 64) arL tZ_38.symm) (rld (arD fun _ => rfl))) <| .cons rfl (ro1 (by exact Eq.trans (b := 64) arL tZ_38.symm) (rld (arD fun _ => rfl))) <| .nil) rfl rfl⟩
   ·
    refine T_keep (kc 1 rfl <| kc 2 rfl <| kc 4 rfl <| kc 5 rfl <| kn) rfl ?_
    refine T_seq (T_reg ?_)
    refine R_q _ rfl (v_eql (ov rfl) (ov rfl)) ?_
    refine R_q _ rfl (v_assign (ov rfl)) ?_
    refine R_nil ?_
    refine T_keep (kc 1 rfl <| kc 2 rfl <| kc 4 rfl <| kc 5 rfl <| kc 32 rfl <| kn) rfl ?_
    refine T_if h rfl (fun b32 h => ?_) (fun b32 h => ?_)
    ·
     refine T_keep (kc 1 rfl <| kc 2 rfl <| kc 4 rfl <| kn) rfl ?_
     refine T_reg ?_
     refine R_q _ rfl (v_move (ov rfl)) ?_
     obtain ⟨y4, h_y4, h⟩ := bnd h
     refine R_q _ rfl (v_callB (ok_frame_checkOf h_y4) .int (.cons (ov rfl) (View.ptr rfl rfl rfl (pwB (arD fun _ => rfl)) (hns := (nsM fun _ => rfl))) <| .nil)) ?_
     obtain ⟨q2, h_q2, h⟩ := bnd h
     refine R_q _ rfl (v_shrG (ov rfl) (ov rfl) h_q2) ?_
     obtain ⟨y5, h_y5, h⟩ := bnd h
     refine R_q _ rfl (v_call (ok_frame_word h_y5) (.cons (ov rfl) (.b rfl) <| .nil)) ?_
     obtain ⟨x4, h_x4, h⟩ := bnd h
     refine R_q _ rfl (v_ixAG (ov rfl) (ov rfl) tR38 rfl rfl h_x4) ?_
     refine R_w _ _ rfl (w_store (ov rfl) (ov rfl) (cells_scal tS36) rfl rfl rfl (arB h_x4) (cell1_all rfl) (arS h_x4)) ?_
     refine R_nil ?_
     exact ⟨(vset f i y5), h, Ent.sel [some 0, some 1] (sr 2 rfl (.ptr _ _ _ rfl) <| sr 4 rfl (.ptr _ _ _ rfl) <| sn) (.cons rfl (ro1 (by exact Eq.trans (b := 64) arL tZ_38.symm) (rld (arD fun _ => rfl))) <| .cons rfl (ro1 (by exact Eq.trans (b := 64) arL tZ_38.symm) (rld (arD fun _ => rfl))) <| .nil) rfl rfl⟩
    ·
     refine T_keep (kc 1 rfl <| kc 2 rfl <| kc 4 rfl <| kc 5 rfl <| kn) rfl ?_
     refine T_seq (T_reg ?_)
     refine R_q _ rfl (v_eql (ov rfl) (ov rfl)) ?_
     refine R_q _ rfl (v_assign (ov rfl)) ?_
     refine R_nil ?_
     refine T_keep (kc 1 rfl <| kc 2 rfl <| kc 4 rfl <| kc 39 rfl <| kn) rfl ?_
     refine T_if h rfl (fun b39 h => ?_) (fun b39 h => ?_)
     ·
      refine T_keep (kc 1 rfl <| kc 2 rfl <| kc 4 rfl <| kn) rfl ?_
      refine T_reg ?_
      refine R_q _ rfl (v_move (ov rfl)) ?_
      obtain ⟨y6, h_y6, h⟩ := bnd h
      refine R_q _ rfl (v_callB (ok_frame_checkOf h_y6) .int (.cons (ov rfl) (View.ptr rfl rfl rfl (pwB (arD fun _ => rfl)) (hns := (nsM fun _ => rfl))) <| .nil)) ?_
      refine R_q _ rfl (v_and_ (ov rfl) (ov rfl)) ?_
      obtain ⟨y7, h_y7, h⟩ := bnd h
      refine R_q _ rfl (v_call (ok_frame_word h_y7) (.cons (ov rfl) (.b rfl) <| .nil)) ?_
      obtain ⟨x5, h_x5, h⟩ := bnd h
      refine R_q _ rfl (v_ixAG (ov rfl) (ov rfl) tR38 rfl rfl h_x5) ?_
      refine R_w _ _ rfl (w_store (ov rfl) (ov rfl) (cells_scal tS36) rfl rfl rfl (arB h_x5) (cell1_all rfl) (arS h_x5)) ?_
      refine R_nil ?_
      exact ⟨(vset f i y7), h, Ent.sel [some 0, some 1] (sr 2 rfl (.ptr _ _ _ rfl) <| sr 4 rfl (.ptr _ _ _ rfl) <| sn) (.cons rfl (ro1 (by exact Eq.trans (b := 64) arL tZ_38.symm) (rld (arD fun _ => rfl))) <| .cons rfl (ro1 (by exact Eq.trans (b := 64) arL tZ_38.symm) (rld (arD fun _ => rfl))) <| .nil) rfl rfl⟩
     ·
      refine T_keep (kc 1 rfl <| kc 2 rfl <| kc 4 rfl <| kn) rfl ?_
      refine T_draw (cw := md0) (by kernel_rfl) ?_
      refine D_q0 0 _ rfl (by kernel_rfl) rfl rfl (v_move (ov rfl)) ?_
      obtain ⟨y8, h_y8, h⟩ := bnd h
      refine D_q0 1 _ rfl (by kernel_rfl) rfl rfl (v_callB (ok_frame_sumOf h_y8) .int (.cons (ov rfl) (View.ptr rfl rfl rfl (pwB (arD fun _ => rfl)) (hns := (nsM fun _ => rfl))) <| .nil)) ?_
      refine D_q0 2 _ rfl (by kernel_rfl) rfl rfl (v_move (ov rfl)) ?_
      obtain ⟨x6, h_x6, h⟩ := bnd h
      refine D_q0 3 _ rfl (by kernel_rfl) rfl rfl (v_ixAG (ov rfl) (ov rfl) tR38 rfl rfl h_x6) ?_
      refine D_q0 4 _ rfl (by kernel_rfl) rfl rfl (v_loadS (ov rfl) rfl rfl rfl tS36 (at_get (at_at (o := 0) (o' := (i.toNat * 1)) (at_all arL) (at_v1 h_x6)))) ?_
      obtain ⟨y9, h_y9, h⟩ := bnd h
      refine D_q0 5 _ rfl (by kernel_rfl) rfl rfl (v_call (ok_frame_data h_y9) (.cons (ov rfl) (.b rfl) <| .nil)) ?_
      refine D_q0 6 _ rfl (by kernel_rfl) rfl rfl (v_xor_ (ov rfl) (ov rfl)) ?_
      obtain ⟨x7, h_x7, h⟩ := bnd h
      refine D_q0 7 _ rfl (by kernel_rfl) rfl rfl (v_ixAG (ov rfl) (ov rfl) tR38 rfl rfl h_x7) ?_
      refine D_q0 8 _ rfl (by kernel_rfl) rfl rfl (v_loadS (ov rfl) rfl rfl rfl tS36 (at_get (at_at (o := 0) (o' := ((Int.toNat 61) * 1)) (at_all arL) (at_v1 h_x7)))) ?_
      obtain ⟨y10, h_y10, h⟩ := bnd h
      refine D_q0 9 _ rfl (by kernel_rfl) rfl rfl (v_call (ok_frame_data h_y10) (.cons (ov rfl) (.b rfl) <| .nil)) ?_
      refine D_q0 10 _ rfl (by kernel_rfl) rfl rfl (v_xor_ (ov rfl) (ov rfl)) ?_
      obtain ⟨y11, h_y11, h⟩ := bnd h
      refine D_q0 11 _ rfl (by kernel_rfl) rfl rfl (v_call (ok_frame_word h_y11) (.cons (ov rfl) (.b rfl) <| .nil)) ?_
      obtain ⟨x8, h_x8, h⟩ := bnd h
      refine D_q0 12 _ rfl (by kernel_rfl) rfl rfl (v_ixAG (ov rfl) (ov rfl) tR38 rfl rfl h_x8) ?_
      refine D_one 13 _ _ rfl (by kernel_rfl) rfl rfl (fun h => by cases h) (fun h => by cases h) (w_store (ov rfl) (ov rfl) (cells_scal tS36) rfl rfl rfl (arB h_x8) (cell1_all rfl) (arS h_x8)) ?_
      refine D_done (by kernel_rfl) ?_
      exact ⟨(vset f i y11), h, Ent.sel [some 0, some 1] (sr 2 rfl (.ptr _ _ _ rfl) <| sr 4 rfl (.ptr _ _ _ rfl) <| sn) (.cons rfl (ro1 (by exact Eq.trans (b := 64) arL tZ_38.symm) (rld (arD fun _ => rfl))) <| .cons rfl (ro1 (by exact Eq.trans (b := 64) arL tZ_38.symm) (rld (arD fun _ => rfl))) <| .nil) rfl rfl⟩
 ·
  obtain ⟨f2, rfl⟩ : ∃ x, x = j := ⟨_, rfl⟩
  replace h := t1i h
  refine t1T ?_
  refine T_seq (T_reg ?_)
  refine R_q _ rfl (v_loadA (ov rfl) rfl rfl rfl tA38 (at_sub (at_all arL)) arL (hns := (nsM fun _ => rfl))) ?_
  refine R_w _ _ rfl (w_store (ov rfl) (ov rfl) (cells_agg tA38 arL) rfl rfl rfl (put_le (at_all arL) arL) (cell1_all (arC fun _ => rfl)) (put_all (Eq.trans arL (Eq.symm arL)))) ?_
  refine R_nil ?_
  obtain rfl := rt (v := f2) h
  refine T_ret (retq ?_ (.one (.agg rfl rfl rfl rfl tA38 (at_sub (at_all arL)) arL (pwB (arD fun _ => rfl)) (hns := (nsM fun _ => rfl)))))
  rfl

theorem ok_frame_Replaced {f : Vector Int 64} {i : Int} {r : (Vector Int 64) × Bool} (h : frame_Replaced f i = some r) :
  CSpec Tryd.prog gl0 92 [.agg (List.map C36 f.toList), .int .i64 i] (.tuple [.agg (List.map C36 r.1.toList), .bool r.2]) := by
 unfold frame_Replaced at h
 replace h := bnd0 h
 refine spec_of (by kernel_rfl) Tryd.func92 rfl rfl ?_
 intro w0 A
 refine T_seq (T_reg ?_)
 refine R_w _ _ rfl (w_box 0 rfl (ov rfl) tA38 arL) ?_
 refine R_w _ _ rfl (w_alloc (row := (List.map C36 (Vector.replicate 64 0).toList)) 1 rfl tZ38 rfl tZ_38) ?_
 refine R_q _ rfl (v_assign (ov rfl)) ?_
 refine R_nil ?_
 refine T_seq ?_
 refine T_keep (kc 1 rfl <| kc 2 rfl <| kc 4 rfl <| kn) rfl ?_
 refine T_seq (T_reg ?_)
 refine R_q _ rfl (v_move (ov rfl)) ?_
 refine R_q _ rfl (v_lss (ov rfl) (ov rfl)) ?_
 refine R_q _ rfl (v_move (ov rfl)) ?_
 refine R_q _ rfl (.guarded ((decide (i < 0)) == false) rfl rfl rfl rfl fun h => v_move (ov rfl)) ?_
 refine R_q _ rfl (.guarded ((decide (i < 0)) == false) rfl rfl rfl rfl fun h => v_geq (ow rfl h) (ov rfl)) ?_
 refine R_q _ rfl (v_or (ov rfl) (fun hp => ow rfl (gF hp))) ?_
 refine R_nil ?_
 refine T_keep (kc 1 rfl <| kc 2 rfl <| kc 4 rfl <| kc 12 rfl <| kn) rfl ?_
 refine T_if h rfl (fun b12 h => ?_) (fun b12 h => ?_)
 ·
  refine T_keep (kc 4 rfl <| kn) rfl ?_
  refine T_seq (T_reg ?_)
  refine R_q (.agg (List.map C36 (#v[0, 0, 0, 0, 0, 0, 0, 0, 0, 0, 0, 0, 0, 0, 0, 0, 0, 0, 0, 0, 0, 0, 0, 0, 0, 0, 0, 0, 0, 0, 0, 0, 0, 0, 0, 0, 0, 0, 0, 0, 0, 0, 0, 0, 0, 0, 0, 0, 0, 0, 0, 0, 0, 0, 0, 0, 0, 0, 0, 0, 0, 0, 0, 0] : Vector Int 64).toList)) rfl (v_buildA (ys := [_, _, _, _, _, _, _, _, _, _, _, _, _, _, _, _, _, _, _, _, _, _, _, _, _, _, _, _, _, _, _, _, _, _, _, _, _, _, _, _, _, _, _, _, _, _, _, _, _, _, _, _, _, _, _, _, _, _, _, _, _, _, _, _]) tR38 tZ38 (.nil) rfl) ?_
  refine R_w _ _ rfl (w_store (ov rfl) (ov rfl) (cells_agg tA38 arL) rfl rfl rfl (put_le (at_all arL) arL) (cell1_all (arC fun _ => rfl)) (put_all (Eq.trans arL (Eq.symm arL)))) ?_
  refine R_q _ rfl (v_assign (ov rfl)) ?_
  refine R_nil ?_
  obtain rfl := rt (v := ((#v[0, 0, 0, 0, 0, 0, 0, 0, 0, 0, 0, 0, 0, 0, 0, 0, 0, 0, 0, 0, 0, 0, 0, 0, 0, 0, 0, 0, 0, 0, 0, 0, 0, 0, 0, 0, 0, 0, 0, 0, 0, 0, 0, 0, 0, 0, 0, 0, 0, 0, 0, 0, 0, 0, 0, 0, 0, 0, 0, 0, 0, 0, 0, 0] : Vector Int 64), false)) h
  refine T_ret (retq ?_ (.two (.agg rfl rfl rfl rfl tA38 (at_sub (at_all arL)) arL (pwB (arD fun _ => rfl)) (hns := (nsM fun _ => rfl))) (.tmp rfl (Dat.view (.b rfl)))))
  rfl
 ·
  refine T_skip ?_
  refine T_keep (kc 1 rfl <| kc 2 rfl <| kc 4 rfl <| kn) rfl ?_
  refine T_seq (T_reg ?_)
  refine R_q _ rfl (v_move (ov rfl)) ?_
  obtain ⟨x, h_x, h⟩ := bnd h
  refine R_q _ rfl (v_ixAG (ov rfl) (ov rfl) tR38 rfl rfl h_x) ?_
  refine R_w _ _ rfl (w_store (ov rfl) (ov rfl) (cells_scal tS36) rfl rfl rfl (arB h_x) (cell1_all rfl) (arS h_x)) ?_
  refine R_nil ?_
  refine T_seq ?_
  refine T_keep (kc 1 rfl <| kc 2 rfl <| kc 4 rfl <| kn) rfl ?_
  refine T_seq (T_reg ?_)
  obtain ⟨y, h_y, h⟩ := bnd h
  refine R_q _ rfl (v_callB (ok_frame_wide h_y) .bool (.cons (ov rfl) (View.ptr rfl rfl rfl (pwB (arD fun _ => rfl)) (hns := (nsM fun _ => rfl))) <| .nil)) ?_
  refine R_nil ?_
  refine T_if h rfl (fun b16 h => ?_) (fun b16 h => ?_)
  ·
   refine T_keep (kc 4 rfl <| kn) rfl ?_
   refine T_seq (T_reg ?_)
   refine R_q (.agg (List.map C36 (#v[0, 0, 0, 0, 0, 0, 0, 0, 0, 0, 0, 0, 0, 0, 0, 0, 0, 0, 0, 0, 0, 0, 0, 0, 0, 0, 0, 0, 0, 0, 0, 0, 0, 0, 0, 0, 0, 0, 0, 0, 0, 0, 0, 0, 0, 0, 0, 0, 0, 0, 0, 0, 0, 0, 0, 0, 0, 0, 0, 0, 0, 0, 0, 0] : Vector Int 64).toList)) rfl (v_buildA (ys := [_, _, _, _, _, _, _, _, _, _, _, _, _, _, _, _, _, _, _, _, _, _, _, _, _, _, _, _, _, _, _, _, _, _, _, _, _, _, _, _, _, _, _, _, _, _, _, _, _, _, _, _, _, _, _, _, _, _, _, _, _, _, _, _]) tR38 tZ38 (.nil) rfl) ?_
   refine R_w _ _ rfl (w_store (ov rfl) (ov rfl) (cells_agg tA38 arL) rfl rfl rfl (put_le (at_all arL) arL) (cell1_all (arC fun _ => rfl)) (put_all (Eq.trans arL (Eq.symm arL)))) ?_
   refine R_q _ rfl (v_assign (ov rfl)) ?_
   refine R_nil ?_
   obtain rfl := rt (v := ((#v[0, 0, 0, 0, 0, 0, 0, 0, 0, 0, 0, 0, 0, 0, 0, 0, 0, 0, 0, 0, 0, 0, 0, 0, 0, 0, 0, 0, 0, 0, 0, 0, 0, 0, 0, 0, 0, 0, 0, 0, 0, 0, 0, 0, 0, 0, 0, 0, 0, 0, 0, 0, 0, 0, 0, 0, 0, 0, 0, 0, 0, 0, 0, 0] : Vector Int 64), false)) h
   refine T_ret (retq ?_ (.two (.agg rfl rfl rfl rfl tA38 (at_sub (at_all arL)) arL (pwB (arD fun _ => rfl)) (hns := (nsM fun _ => rfl))) (.tmp rfl (Dat.view (.b rfl)))))
   rfl
  ·
   refine T_skip ?_
   refine T_keep (kc 1 rfl <| kc 2 rfl <| kc 4 rfl <| kn) rfl ?_
   refine T_seq (T_reg ?_)
   refine R_q _ rfl (v_loadA (ov rfl) rfl rfl rfl tA38 (at_sub (at_all arL)) arL (hns := (nsM fun _ => rfl))) ?_
   refine R_q _ rfl (v_move (ov rfl)) ?_
   obtain ⟨y2, h_y2, h⟩ := bnd h
   refine R_q _ rfl (v_call (ok_frame_replaced h_y2) (.cons (ov rfl) (.aggB (arD fun _ => rfl)) <| .cons (ov rfl) (.b rfl) <| .nil)) ?_
   refine R_w _ _ rfl (w_alloc (row := (List.map C36 (Vector.replicate 64 0).toList)) 2 rfl tZ38 rfl tZ_38) ?_
   refine R_w _ _ rfl (w_store (ov rfl) (ov rfl) (cells_agg tA38 arL) rfl rfl rfl (put_le (at_all arL) arL) (cell1_all (arC fun _ => rfl)) (put_all (Eq.trans arL (Eq.symm arL)))) ?_
   refine R_nil ?_
   refine T_seq ?_
   refine T_keep (kc 4 rfl <| kc 6 rfl <| kn) rfl ?_
   refine T_seq (T_reg ?_)
   obtain ⟨y3, h_y3, h⟩ := bnd h
   refine R_q _ rfl (v_callB (ok_frame_sound h_y3) .bool (.cons (ov rfl) (View.ptr rfl rfl rfl (pwB (arD fun _ => rfl)) (hns := (nsM fun _ => rfl))) <| .nil)) ?_
   refine R_q _ rfl (v_not (ov rfl)) ?_
   refine R_nil ?_
   refine T_keep (kc 4 rfl <| kc 6 rfl <| kc 22 rfl <| kn) rfl ?_
   refine T_if h rfl (fun b22 h => ?_) (fun b22 h => ?_)
   ·
    refine T_keep (kc 4 rfl <| kn) rfl ?_
    refine T_seq (T_reg ?_)
    refine R_q (.agg (List.map C36 (#v[0, 0, 0, 0, 0, 0, 0, 0, 0, 0, 0, 0, 0, 0, 0, 0, 0, 0, 0, 0, 0, 0, 0, 0, 0, 0, 0, 0, 0, 0, 0, 0, 0, 0, 0, 0, 0, 0, 0, 0, 0, 0, 0, 0, 0, 0, 0, 0, 0, 0, 0, 0, 0, 0, 0, 0, 0, 0, 0, 0, 0, 0, 0, 0] : Vector Int 64).toList)) rfl (v_buildA (ys := [_, _, _, _, _, _, _, _, _, _, _, _, _, _, _, _, _, _, _, _, _, _, _, _, _, _, _, _, _, _, _, _, _, _, _, _, _, _, _, _, _, _, _, _, _, _, _, _, _, _, _, _, _, _, _, _, _, _, _, _, _, _, _, _]) tR38 tZ38 (.nil) rfl) ?_
    refine R_w _ _ rfl (w_store (ov rfl) (ov rfl) (cells_agg tA38 arL) rfl rfl rfl (put_le (at_all arL) arL) (cell1_all (arC fun _ => rfl)) (put_all (Eq.trans arL (Eq.symm arL)))) ?_
    refine R_q _ rfl (v_assign (ov rfl)) ?_
    refine R_nil ?_
    obtain rfl := rt (v := ((#v[0, 0, 0, 0, 0, 0, 0, 0, 0, 0, 0, 0, 0, 0, 0, 0, 0, 0, 0, 0, 0, 0, 0, 0, 0, 0, 0, 0, 0, 0, 0, 0, 0, 0, 0, 0, 0, 0, 0, 0, 0, 0, 0, 0, 0, 0, 0, 0, 0, 0, 0, 0, 0, 0, 0, 0, 0, 0, 0, 0, 0, 0, 0, 0] : Vector Int 64), false)) h
    refine T_ret (retq ?_ (.two (.agg rfl rfl rfl rfl tA38 (at_sub (at_all arL)) arL (pwB (arD fun _ => rfl)) (hns := (nsM fun _ => rfl))) (.tmp rfl (Dat.view (.b rfl)))))
    rfl
   ·
    refine T_skip ?_
    refine T_keep (kc 4 rfl <| kc 6 rfl <| kn) rfl ?_
    refine T_seq (T_reg ?_)
    refine R_q _ rfl (v_loadA (ov rfl) rfl rfl rfl tA38 (at_sub (at_all arL)) arL (hns := (nsM fun _ => rfl))) ?_
    refine R_w _ _ rfl (w_store (ov rfl) (ov rfl) (cells_agg tA38 arL) rfl rfl rfl (put_le (at_all arL) arL) (cell1_all (arC fun _ => rfl)) (put_all (Eq.trans arL (Eq.symm arL)))) ?_
    refine R_q _ rfl (v_assign (ov rfl)) ?_
    refine R_nil ?_
    obtain rfl := rt (v := (y2, true)) h
    refine T_ret (retq ?_ (.two (.agg rfl rfl rfl rfl tA38 (at_sub (at_all arL)) arL (pwB (arD fun _ => rfl)) (hns := (nsM fun _ => rfl))) (.tmp rfl (Dat.view (.b rfl)))))
    rfl

theorem ok_salvage_mended {r_ : api_Rest} {r : api_Rest} (h : salvage_mended r_ = some r) :
  CSpec Tryd.prog gl0 61 [.agg ((.int .i64 r_.Number) :: ((List.map C36 r_.Frame.toList) ++ (((List.map C3 r_.States.toList) ++ ((.bool r_.Sound) :: (.int .i64 r_.Copies) :: (.bool r_.Conflict) :: [])))))] (.agg ((.int .i64 r.Number) :: ((List.map C36 r.Frame.toList) ++ (((List.map C3 r.States.toList) ++ ((.bool r.Sound) :: (.int .i64 r.Copies) :: (.bool r.Conflict) :: [])))))) := by
 unfold salvage_mended at h
 replace h := bnd0 h
 refine spec_of (by kernel_rfl) Tryd.func61 rfl rfl ?_
 intro w0 A
 refine T_seq (T_reg ?_)
 refine R_w _ _ rfl (w_box 0 rfl (ov rfl) tA81 (lnC (n := 131) (lnA (m := 64) (n := 67) arL (lnA (m := 64) (n := 3) arL (lnC (n := 2) (lnC (n := 1) (lnC (n := 0) (lnN)))))))) ?_
 refine R_w _ _ rfl (w_alloc (row := (.int .i64 0) :: ((List.map C36 (Vector.replicate 64 0).toList) ++ (((List.map C3 (Vector.replicate 64 0).toList) ++ ((.bool false) :: (.int .i64 0) :: (.bool false) :: []))))) 1 rfl tZ81 (by kernel_rfl) (by exact Eq.symm (Eq.trans (b := 132) (lnC (n := 131) (lnA (m := 64) (n := 67) arL (lnA (m := 64) (n := 3) arL (lnC (n := 2) (lnC (n := 1) (lnC (n := 0) (lnN))))))) tZ_81.symm))) ?_
 refine R_nil ?_
 refine T_seq ?_
 refine T_keep (kc 1 rfl <| kc 2 rfl <| kn) rfl ?_
 refine T_seq (T_reg ?_)
 refine R_q _ rfl (v_fieldP (ov rfl) rfl rfl tF81_3) ?_
 refine R_q _ rfl (v_loadS (ov rfl) rfl rfl rfl tS4 (at_get (atc (o := 128) (ata (m := 64) (o := 64) arL (ata (m := 64) (o := 0) arL (at0 (hdc (n := 0) hd0))))))) ?_
 refine R_q _ rfl (v_move (ov rfl)) ?_
 refine R_q _ rfl (.guarded (r_.Sound == false) rfl rfl rfl rfl fun h => v_fieldP (ov rfl) rfl rfl tF81_5) ?_
 refine R_q _ rfl (.guarded (r_.Sound == false) rfl rfl rfl rfl fun h => v_loadS (ow rfl h) rfl rfl rfl tS4 (at_get (atc (o := 130) (ata (m := 64) (o := 66) arL (ata (m := 64) (o := 2) arL (atc (o := 1) (atc (o := 0) (at0 (hdc (n := 0) hd0))))))))) ?_
 refine R_q _ rfl (v_or (ov rfl) (fun hp => ow rfl (gF hp))) ?_
 refine R_nil ?_
 refine T_keep (kc 1 rfl <| kc 2 rfl <| kc 14 rfl <| kn) rfl ?_
 refine T_if h rfl (fun b14 h => ?_) (fun b14 h => ?_)
 ·
  refine T_keep (kc 1 rfl <| kc 2 rfl <| kn) rfl ?_
  refine T_seq (T_reg ?_)
  refine R_q _ rfl (v_loadA (ov rfl) rfl rfl rfl tA81 (at_sub (at_all (lnC (n := 131) (lnA (m := 64) (n := 67) arL (lnA (m := 64) (n := 3) arL (lnC (n := 2) (lnC (n := 1) (lnC (n := 0) (lnN))))))))) (lnC (n := 131) (lnA (m := 64) (n := 67) arL (lnA (m := 64) (n := 3) arL (lnC (n := 2) (lnC (n := 1) (lnC (n := 0) (lnN))))))) (hns := nsC rfl (nsA (nsM fun _ => rfl) (nsA (nsM fun _ => rfl) (nsC rfl (nsC rfl (nsC rfl (nsR rfl)))))))) ?_
  refine R_w _ _ rfl (w_store (ov rfl) (ov rfl) (cells_agg tA81 (lnC (n := 131) (lnA (m := 64) (n := 67) arL (lnA (m := 64) (n := 3) arL (lnC (n := 2) (lnC (n := 1) (lnC (n := 0) (lnN)))))))) rfl rfl rfl (put_le (at_all (lnC (n := 131) (lnA (m := 64) (n := 67) arL (lnA (m := 64) (n := 3) arL (lnC (n := 2) (lnC (n := 1) (lnC (n := 0) (lnN)))))))) (lnC (n := 131) (lnA (m := 64) (n := 67) arL (lnA (m := 64) (n := 3) arL (lnC (n := 2) (lnC (n := 1) (lnC (n := 0) (lnN)))))))) (cell1_all (alC rfl (alA (arC fun _ => rfl) (alA (arC fun _ => rfl) (alC rfl (alC rfl (alC rfl (alN)))))))) (put_all (Eq.trans (lnC (n := 131) (lnA (m := 64) (n := 67) arL (lnA (m := 64) (n := 3) arL (lnC (n := 2) (lnC (n := 1) (lnC (n := 0) (lnN))))))) (Eq.symm (lnC (n := 131) (lnA (m := 64) (n := 67) arL (lnA (m := 64) (n := 3) arL (lnC (n := 2) (lnC (n := 1) (lnC (n := 0) (lnN))))))))))) ?_
  refine R_nil ?_
  obtain rfl := rt (v := r_) h
  refine T_ret (retq ?_ (.one (.agg rfl rfl rfl rfl tA81 (at_sub (at_all (lnC (n := 131) (lnA (m := 64) (n := 67) arL (lnA (m := 64) (n := 3) arL (lnC (n := 2) (lnC (n := 1) (lnC (n := 0) (lnN))))))))) (lnC (n := 131) (lnA (m := 64) (n := 67) arL (lnA (m := 64) (n := 3) arL (lnC (n := 2) (lnC (n := 1) (lnC (n := 0) (lnN))))))) (pwB (alC rfl (alA (arD fun _ => rfl) (alA (arD fun _ => rfl) (alC rfl (alC rfl (alC rfl (alN)))))))) (hns := nsC rfl (nsA (nsM fun _ => rfl) (nsA (nsM fun _ => rfl) (nsC rfl (nsC rfl (nsC rfl (nsR rfl))))))))))
  rfl
 ·
  refine T_skip ?_
  refine T_keep (kc 1 rfl <| kc 2 rfl <| kn) rfl ?_
  refine T_seq (T_reg ?_)
  refine R_q _ rfl (v_assign (ov rfl)) ?_
  refine R_q _ rfl (v_assign (ov rfl)) ?_
  refine R_nil ?_
  refine T_joinG id (t2 fun lost place => ⟨[(1, .ptr 0 1 0 0), (2, .ptr 1 1 0 0), (3, .int .i64 lost), (4, .int .i64 place)], [some ⟨81, [(.int .i64 r_.Number) :: ((List.map C36 r_.Frame.toList) ++ (((List.map C3 r_.States.toList) ++ ((.bool r_.Sound) :: (.int .i64 r_.Copies) :: (.bool r_.Conflict) :: []))))]⟩, some ⟨81, [(.int .i64 0) :: ((List.map C36 (Vector.replicate 64 0).toList) ++ (((List.map C3 (Vector.replicate 64 0).toList) ++ ((.bool false) :: (.int .i64 0) :: (.bool false) :: []))))]⟩]⟩) h (fun h => ?_) (fun j h => ?_)
  ·
   refine T_seq (T_reg ?_)
   refine R_q _ rfl (v_fieldP (ov rfl) rfl rfl tF81_2) ?_
   refine R_q _ rfl (v_loadA (ov rfl) rfl rfl rfl tA79 (at_sub (atc (o := 64) (ata (m := 64) (o := 0) arL (at0 (hdw arL))))) arL (hns := (nsM fun _ => rfl))) ?_
   refine R_q _ rfl (v_move (ov rfl)) ?_
   refine R_nil ?_
   refine T_block ?_
   obtain ⟨r1, hl1, ho1⟩ := bndL h
   refine T_loopG _ (t3 fun lost2 place2 i => ⟨[(1, .ptr 0 1 0 0), (2, .ptr 1 1 0 0), (3, .int .i64 lost2), (4, .int .i64 place2), (17, .agg (List.map C3 r_.States.toList)), (18, .int .i64 i)], [some ⟨81, [(.int .i64 r_.Number) :: ((List.map C36 r_.Frame.toList) ++ (((List.map C3 r_.States.toList) ++ ((.bool r_.Sound) :: (.int .i64 r_.Copies) :: (.bool r_.Conflict) :: []))))]⟩, some ⟨81, [(.int .i64 0) :: ((List.map C36 (Vector.replicate 64 0).toList) ++ (((List.map C3 (Vector.replicate 64 0).toList) ++ ((.bool false) :: (.int .i64 0) :: (.bool false) :: []))))]⟩]⟩) _ hl1 (Ent.sel [some 0, some 1] (sr 1 rfl (.ptr _ _ _ rfl) <| sr 2 rfl (.ptr _ _ _ rfl) <| sd 3 rfl rfl <| sd 4 rfl rfl <| sr 17 rfl (rAgg (rld (arD fun _ => rfl))) <| sd 18 rfl rfl <| sn) (.cons rfl (ro1 (by exact Eq.trans (b := 132) (lnC (n := 131) (lnA (m := 64) (n := 67) arL (lnA (m := 64) (n := 3) arL (lnC (n := 2) (lnC (n := 1) (lnC (n := 0) (lnN))))))) tZ_81.symm) (rld (alC rfl (alA (arD fun _ => rfl) (alA (arD fun _ => rfl) (alC rfl (alC rfl (alC rfl (alN))))))))) <| .cons rfl (ro1 (by exact Eq.trans (b := 132) (lnC (n := 131) (lnA (m := 64) (n := 67) arL (lnA (m := 64) (n := 3) arL (lnC (n := 2) (lnC (n := 1) (lnC (n := 0) (lnN))))))) tZ_81.symm) (rld (alC rfl (alA (arD fun _ => rfl) (alA (arD fun _ => rfl) (alC rfl (alC rfl (alC rfl (alN))))))))) <| .nil) rfl rfl) (fun n1 s1 h => ?_)
   obtain ⟨lost2, place2, i⟩ := s1
   replace h := t3i h
   refine t3T ?_
   unfold salvage_mended_L1 at h
   refine T_seq (T_reg ?_)
   refine R_q _ rfl (v_lss (ov rfl) (ov rfl)) ?_
   refine R_nil ?_
   refine T_seq ?_
   refine T_if h rfl (fun b19 h => ?_) (fun b19 h => ?_)
   ·
    refine T_skip ?_
    refine T_seq ?_
    refine T_block ?_
    refine T_keep (kc 1 rfl <| kc 2 rfl <| kc 3 rfl <| kc 4 rfl <| kc 17 rfl <| kc 18 rfl <| kn) rfl ?_
    refine T_seq (T_reg ?_)
    refine R_q _ rfl (v_move (ov rfl)) ?_
    obtain ⟨x, h_x, h⟩ := bnd h
    refine R_q _ rfl (v_indexVG (ov rfl) (ov rfl) tR79 tS3 h_x) ?_
    refine R_q _ rfl (v_assign (ov rfl)) ?_
    refine R_q _ rfl (v_assign (ov rfl)) ?_
    refine R_nil ?_
    refine T_keep (kc 1 rfl <| kc 2 rfl <| kc 3 rfl <| kc 4 rfl <| kc 5 rfl <| kc 6 rfl <| kc 17 rfl <| kc 18 rfl <| kn) rfl ?_
    refine T_seq (T_reg ?_)
    refine R_q _ rfl (v_move (ov rfl)) ?_
    refine R_q _ rfl (v_eql (ov rfl) (ov rfl)) ?_
    refine R_nil ?_
    refine T_keep (kc 1 rfl <| kc 2 rfl <| kc 3 rfl <| kc 4 rfl <| kc 5 rfl <| kc 17 rfl <| kc 18 rfl <| kc 23 rfl <| kn) rfl ?_
    refine T_if h rfl (fun b23 h => ?_) (fun b23 h => ?_)
    ·
     refine T_keep (kc 1 rfl <| kc 2 rfl <| kc 3 rfl <| kc 4 rfl <| kc 5 rfl <| kc 17 rfl <| kc 18 rfl <| kn) rfl ?_
     refine T_reg ?_
     refine R_q _ rfl (v_move (ov rfl)) ?_
     refine R_q _ rfl (v_add (ov rfl) (ov rfl) rfl) ?_
     refine R_q _ rfl (v_move (ov rfl)) ?_
     refine R_q _ rfl (v_assign (ov rfl)) ?_
     refine R_q _ rfl (v_assign (ov rfl)) ?_
     refine R_nil ?_
     refine T_keep (kc 1 rfl <| kc 2 rfl <| kc 3 rfl <| kc 4 rfl <| kc 17 rfl <| kc 18 rfl <| kn) rfl ?_
     refine T_reg ?_
     refine R_q _ rfl (v_add (ov rfl) (ov rfl) rfl) ?_
     refine R_q _ rfl (v_move (ov rfl)) ?_
     refine R_nil ?_
     exact ⟨((i64 (lost2 + 1)), i, (i64 (i + 1))), h, Ent.sel [some 0, some 1] (sr 1 rfl (.ptr _ _ _ rfl) <| sr 2 rfl (.ptr _ _ _ rfl) <| sd 3 rfl rfl <| sd 4 rfl rfl <| sr 17 rfl (rAgg (rld (arD fun _ => rfl))) <| sd 18 rfl rfl <| sn) (.cons rfl (ro1 (by exact Eq.trans (b := 132) (lnC (n := 131) (lnA (m := 64) (n := 67) arL (lnA (m := 64) (n := 3) arL (lnC (n := 2) (lnC (n := 1) (lnC (n := 0) (lnN))))))) tZ_81.symm) (rld (alC rfl (alA (arD fun _ => rfl) (alA (arD fun _ => rfl) (alC rfl (alC rfl (alC rfl (alN))))))))) <| .cons rfl (ro1 (by exact Eq.trans (b := 132) (lnC (n := 131) (lnA (m := 64) (n := 67) arL (lnA (m := 64) (n := 3) arL (lnC (n := 2) (lnC (n := 1) (lnC (n := 0) (lnN))))))) tZ_81.symm) (rld (alC rfl (alA (arD fun _ => rfl) (alA (arD fun _ => rfl) (alC rfl (alC rfl (alC rfl (alN))))))))) <| .nil) rfl rfl⟩
    ·
     refine T_skip ?_
     refine T_keep (kc 1 rfl <| kc 2 rfl <| kc 3 rfl <| kc 4 rfl <| kc 17 rfl <| kc 18 rfl <| kn) rfl ?_
     refine T_reg ?_
     refine R_q _ rfl (v_add (ov rfl) (ov rfl) rfl) ?_
     refine R_q _ rfl (v_move (ov rfl)) ?_
     refine R_nil ?_
     exact ⟨(lost2, place2, (i64 (i + 1))), h, Ent.sel [some 0, some 1] (sr 1 rfl (.ptr _ _ _ rfl) <| sr 2 rfl (.ptr _ _ _ rfl) <| sd 3 rfl rfl <| sd 4 rfl rfl <| sr 17 rfl (rAgg (rld (arD fun _ => rfl))) <| sd 18 rfl rfl <| sn) (.cons rfl (ro1 (by exact Eq.trans (b := 132) (lnC (n := 131) (lnA (m := 64) (n := 67) arL (lnA (m := 64) (n := 3) arL (lnC (n := 2) (lnC (n := 1) (lnC (n := 0) (lnN))))))) tZ_81.symm) (rld (alC rfl (alA (arD fun _ => rfl) (alA (arD fun _ => rfl) (alC rfl (alC rfl (alC rfl (alN))))))))) <| .cons rfl (ro1 (by exact Eq.trans (b := 132) (lnC (n := 131) (lnA (m := 64) (n := 67) arL (lnA (m := 64) (n := 3) arL (lnC (n := 2) (lnC (n := 1) (lnC (n := 0) (lnN))))))) tZ_81.symm) (rld (alC rfl (alA (arD fun _ => rfl) (alA (arD fun _ => rfl) (alC rfl (alC rfl (alC rfl (alN))))))))) <| .nil) rfl rfl⟩
   ·
    refine T_exit ?_
    rw [lx h] at ho1
    replace h := ho1
    exact ⟨(lost2, place2), h, Ent.sel [some 0, some 1] (sr 1 rfl (.ptr _ _ _ rfl) <| sr 2 rfl (.ptr _ _ _ rfl) <| sd 3 rfl rfl <| sd 4 rfl rfl <| sn) (.cons rfl (ro1 (by exact Eq.trans (b := 132) (lnC (n := 131) (lnA (m := 64) (n := 67) arL (lnA (m := 64) (n := 3) arL (lnC (n := 2) (lnC (n := 1) (lnC (n := 0) (lnN))))))) tZ_81.symm) (rld (alC rfl (alA (arD fun _ => rfl) (alA (arD fun _ => rfl) (alC rfl (alC rfl (alC rfl (alN))))))))) <| .cons rfl (ro1 (by exact Eq.trans (b := 132) (lnC (n := 131) (lnA (m := 64) (n := 67) arL (lnA (m := 64) (n := 3) arL (lnC (n := 2) (lnC (n := 1) (lnC (n := 0) (lnN))))))) tZ_81.symm) (rld (alC rfl (alA (arD fun _ => rfl) (alA (arD fun _ => rfl) (alC rfl (alC rfl (alC rfl (alN))))))))) <| .nil) rfl rfl⟩
  ·
   obtain ⟨lost, place⟩ := j
   replace h := t2i h
   refine t2T ?_
   refine T_seq ?_
   refine T_seq (T_reg ?_)
   refine R_q _ rfl (v_move (ov rfl)) ?_
   refine R_q _ rfl (v_neq (ov rfl) (ov rfl)) ?_
   refine R_nil ?_
   refine T_keep (kc 1 rfl <| kc 2 rfl <| kc 4 rfl <| kc 29 rfl <| kn) rfl ?_
   refine T_if h rfl (fun b29 h => ?_) (fun b29 h => ?_)
   ·
    refine T_keep (kc 1 rfl <| kc 2 rfl <| kn) rfl ?_
    refine T_seq (T_reg ?_)
    refine R_q _ rfl (v_loadA (ov rfl) rfl rfl rfl tA81 (at_sub (at_all (lnC (n := 131) (lnA (m := 64) (n := 67) arL (lnA (m := 64) (n := 3) arL (lnC (n := 2) (lnC (n := 1) (lnC (n := 0) (lnN))))))))) (lnC (n := 131) (lnA (m := 64) (n := 67) arL (lnA (m := 64) (n := 3) arL (lnC (n := 2) (lnC (n := 1) (lnC (n := 0) (lnN))))))) (hns := nsC rfl (nsA (nsM fun _ => rfl) (nsA (nsM fun _ => rfl) (nsC rfl (nsC rfl (nsC rfl (nsR rfl)))))))) ?_
    refine R_w _ _ rfl (w_store (ov rfl) (ov rfl) (cells_agg tA81 (lnC (n := 131) (lnA (m := 64) (n := 67) arL (lnA (m := 64) (n := 3) arL (lnC (n := 2) (lnC (n := 1) (lnC (n := 0) (lnN)))))))) rfl rfl rfl (put_le (at_all (lnC (n := 131) (lnA (m := 64) (n := 67) arL (lnA (m := 64) (n := 3) arL (lnC (n := 2) (lnC (n := 1) (lnC (n := 0) (lnN)))))))) (lnC (n := 131) (lnA (m := 64) (n := 67) arL (lnA (m := 64) (n := 3) arL (lnC (n := 2) (lnC (n := 1) (lnC (n := 0) (lnN)))))))) (cell1_all (alC rfl (alA (arC fun _ => rfl) (alA (arC fun _ => rfl) (alC rfl (alC rfl (alC rfl (alN)))))))) (put_all (Eq.trans (lnC (n := 131) (lnA (m := 64) (n := 67) arL (lnA (m := 64) (n := 3) arL (lnC (n := 2) (lnC (n := 1) (lnC (n := 0) (lnN))))))) (Eq.symm (lnC (n := 131) (lnA (m := 64) (n := 67) arL (lnA (m := 64) (n := 3) arL (lnC (n := 2) (lnC (n := 1) (lnC (n := 0) (lnN))))))))))) ?_
    refine R_nil ?_
    obtain rfl := rt (v := r_) h
    refine T_ret (retq ?_ (.one (.agg rfl rfl rfl rfl tA81 (at_sub (at_all (lnC (n := 131) (lnA (m := 64) (n := 67) arL (lnA (m := 64) (n := 3) arL (lnC (n := 2) (lnC (n := 1) (lnC (n := 0) (lnN))))))))) (lnC (n := 131) (lnA (m := 64) (n := 67) arL (lnA (m := 64) (n := 3) arL (lnC (n := 2) (lnC (n := 1) (lnC (n := 0) (lnN))))))) (pwB (alC rfl (alA (arD fun _ => rfl) (alA (arD fun _ => rfl) (alC rfl (alC rfl (alC rfl (alN)))))))) (hns := nsC rfl (nsA (nsM fun _ => rfl) (nsA (nsM fun _ => rfl) (nsC rfl (nsC rfl (nsC rfl (nsR rfl))))))))))
    rfl
   ·
    refine T_skip ?_
    refine T_keep (kc 1 rfl <| kc 2 rfl <| kc 4 rfl <| kn) rfl ?_
    refine T_seq (T_reg ?_)
    refine R_q _ rfl (v_fieldP (ov rfl) rfl rfl tF81_1) ?_
    refine R_q _ rfl (v_loadA (ov rfl) rfl rfl rfl tA38 (at_sub (atc (o := 0) (at0 (hdw arL)))) arL (hns := (nsM fun _ => rfl))) ?_
    refine R_q _ rfl (v_move (ov rfl)) ?_
    obtain ⟨y, h_y, h⟩ := bnd h
    refine R_q _ rfl (v_call (ok_frame_Replaced h_y) (.cons (ov rfl) (.aggB (arD fun _ => rfl)) <| .cons (ov rfl) (.b rfl) <| .nil)) ?_
    refine R_q _ rfl (v_move (ov rfl)) ?_
    refine R_q _ rfl (v_extract (ov rfl) rfl) ?_
    refine R_q _ rfl (v_extract (ov rfl) rfl) ?_
    refine R_w _ _ rfl (w_alloc (row := (List.map C36 (Vector.replicate 64 0).toList)) 2 rfl tZ38 rfl tZ_38) ?_
    refine R_w _ _ rfl (w_store (ov rfl) (ov rfl) (cells_agg tA38 arL) rfl rfl rfl (put_le (at_all arL) arL) (cell1_all (arC fun _ => rfl)) (put_all (Eq.trans arL (Eq.symm arL)))) ?_
    refine R_q _ rfl (v_assign (ov rfl)) ?_
    refine R_nil ?_
    refine T_seq ?_
    refine T_keep (kc 1 rfl <| kc 2 rfl <| kc 4 rfl <| kc 7 rfl <| kc 8 rfl <| kn) rfl ?_
    refine T_seq (T_reg ?_)
    refine R_q _ rfl (v_move (ov rfl)) ?_
    refine R_q _ rfl (v_not (ov rfl)) ?_
    refine R_q _ rfl (v_move (ov rfl)) ?_
    refine R_q _ rfl (.guarded ((!y.2) == false) rfl rfl rfl rfl fun h => v_loadA (ov rfl) rfl rfl rfl tA38 (at_sub (at_all arL)) arL (hns := (nsM fun _ => rfl))) ?_
    refine R_q _ rfl (.guarded ((!y.2) == false) rfl rfl rfl rfl fun h => v_fieldP (ov rfl) rfl rfl tF81_0) ?_
    refine R_q _ rfl (.guarded ((!y.2) == false) rfl rfl rfl rfl fun h => v_loadS (ow rfl h) rfl rfl rfl tS3 (at_get (at0 (hdc (n := 0) hd0)))) ?_
    obtain ⟨y2, h_y2, h⟩ := bnd h
    refine R_q _ rfl (.guarded ((!y.2) == false) rfl rfl rfl rfl fun h => v_call (ok_salvage_soundAs (gdT h_y2 h)) (.cons (ow rfl h) (.aggB (arD fun _ => rfl)) <| .cons (ow rfl h) (.b rfl) <| .nil)) ?_
    refine R_q _ rfl (.guarded ((!y.2) == false) rfl rfl rfl rfl fun h => v_not (ow rfl h)) ?_
    refine R_q _ rfl (v_or (ov rfl) (fun hp => ow rfl (gF hp))) ?_
    refine R_nil ?_
    refine T_keep (kc 1 rfl <| kc 2 rfl <| kc 4 rfl <| kc 7 rfl <| kc 46 rfl <| kn) rfl ?_
    refine T_if h rfl (fun b46 h => ?_) (fun b46 h => ?_)
    ·
     refine T_keep (kc 1 rfl <| kc 2 rfl <| kn) rfl ?_
     refine T_seq (T_reg ?_)
     refine R_q _ rfl (v_loadA (ov rfl) rfl rfl rfl tA81 (at_sub (at_all (lnC (n := 131) (lnA (m := 64) (n := 67) arL (lnA (m := 64) (n := 3) arL (lnC (n := 2) (lnC (n := 1) (lnC (n := 0) (lnN))))))))) (lnC (n := 131) (lnA (m := 64) (n := 67) arL (lnA (m := 64) (n := 3) arL (lnC (n := 2) (lnC (n := 1) (lnC (n := 0) (lnN))))))) (hns := nsC rfl (nsA (nsM fun _ => rfl) (nsA (nsM fun _ => rfl) (nsC rfl (nsC rfl (nsC rfl (nsR rfl)))))))) ?_
     refine R_w _ _ rfl (w_store (ov rfl) (ov rfl) (cells_agg tA81 (lnC (n := 131) (lnA (m := 64) (n := 67) arL (lnA (m := 64) (n := 3) arL (lnC (n := 2) (lnC (n := 1) (lnC (n := 0) (lnN)))))))) rfl rfl rfl (put_le (at_all (lnC (n := 131) (lnA (m := 64) (n := 67) arL (lnA (m := 64) (n := 3) arL (lnC (n := 2) (lnC (n := 1) (lnC (n := 0) (lnN)))))))) (lnC (n := 131) (lnA (m := 64) (n := 67) arL (lnA (m := 64) (n := 3) arL (lnC (n := 2) (lnC (n := 1) (lnC (n := 0) (lnN)))))))) (cell1_all (alC rfl (alA (arC fun _ => rfl) (alA (arC fun _ => rfl) (alC rfl (alC rfl (alC rfl (alN)))))))) (put_all (Eq.trans (lnC (n := 131) (lnA (m := 64) (n := 67) arL (lnA (m := 64) (n := 3) arL (lnC (n := 2) (lnC (n := 1) (lnC (n := 0) (lnN))))))) (Eq.symm (lnC (n := 131) (lnA (m := 64) (n := 67) arL (lnA (m := 64) (n := 3) arL (lnC (n := 2) (lnC (n := 1) (lnC (n := 0) (lnN))))))))))) ?_
     refine R_nil ?_
     obtain rfl := rt (v := r_) h
     refine T_ret (retq ?_ (.one (.agg rfl rfl rfl rfl tA81 (at_sub (at_all (lnC (n := 131) (lnA (m := 64) (n := 67) arL (lnA (m := 64) (n := 3) arL (lnC (n := 2) (lnC (n := 1) (lnC (n := 0) (lnN))))))))) (lnC (n := 131) (lnA (m := 64) (n := 67) arL (lnA (m := 64) (n := 3) arL (lnC (n := 2) (lnC (n := 1) (lnC (n := 0) (lnN))))))) (pwB (alC rfl (alA (arD fun _ => rfl) (alA (arD fun _ => rfl) (alC rfl (alC rfl (alC rfl (alN)))))))) (hns := nsC rfl (nsA (nsM fun _ => rfl) (nsA (nsM fun _ => rfl) (nsC rfl (nsC rfl (nsC rfl (nsR rfl))))))))))
     rfl
    ·
     refine T_skip ?_
     refine T_keep (kc 1 rfl <| kc 2 rfl <| kc 4 rfl <| kc 7 rfl <| kn) rfl ?_
     refine T_seq (T_draw (cw := md0) (by kernel_rfl) ?_)
     refine D_q0 0 _ rfl (by kernel_rfl) rfl rfl (v_loadA (ov rfl) rfl rfl rfl tA38 (at_sub (at_all arL)) arL (hns := (nsM fun _ => rfl))) ?_
     obtain ⟨y3, h_y3, h⟩ := bnd h
     refine D_q0 1 _ rfl (by kernel_rfl) rfl rfl (v_call (ok_salvage_filled h_y3) (.cons (ov rfl) (.b rfl) <| .nil)) ?_
     refine D_q0 2 _ rfl (by kernel_rfl) rfl rfl (v_fieldP (ov rfl) rfl rfl tF81_1) ?_
     refine D_one 3 _ _ rfl (by kernel_rfl) rfl rfl (fun h => by cases h) (fun h => by cases h) (w_store (ov rfl) (ov rfl) (cells_agg tA38 arL) rfl rfl rfl (put_le (atc (o := 0) (at0 (hdw arL))) arL) (cell1_all (arC fun _ => rfl)) (putc (o := 0) (putw (Eq.trans arL (Eq.symm arL))))) ?_
     refine D_q0 4 _ rfl (by kernel_rfl) rfl rfl (v_fieldP (ov rfl) rfl rfl tF81_2) ?_
     refine D_one 5 _ _ rfl (by kernel_rfl) rfl rfl (fun h => by cases h) (fun h => by cases h) (w_store (ov rfl) (ov rfl) (cells_agg tA79 arL) rfl rfl rfl (put_le (atc (o := 64) (ata (m := 64) (o := 0) arL (at0 (hdw arL)))) arL) (cell1_all (arC fun _ => rfl)) (putc (o := 64) (puta (m := 64) (o := 0) arL (putw (Eq.trans arL (Eq.symm arL)))))) ?_
     refine D_q0 6 _ rfl (by kernel_rfl) rfl rfl (v_fieldP (ov rfl) rfl rfl tF81_3) ?_
     refine D_one 7 _ _ rfl (by kernel_rfl) rfl rfl (fun h => by cases h) (fun h => by cases h) (w_store (ov rfl) (ov rfl) (cells_scal tS4) rfl rfl rfl (put_le (atc (o := 128) (ata (m := 64) (o := 64) arL (ata (m := 64) (o := 0) arL (at0 (hdc (n := 0) hd0))))) rfl) (cell1_all rfl) (putc (o := 128) (puta (m := 64) (o := 64) arL (puta (m := 64) (o := 0) arL (put1))))) ?_
     refine D_q0 8 _ rfl (by kernel_rfl) rfl rfl (v_fieldP (ov rfl) rfl rfl tF81_4) ?_
     refine D_one 9 _ _ rfl (by kernel_rfl) rfl rfl (fun h => by cases h) (fun h => by cases h) (w_store (ov rfl) (ov rfl) (cells_scal tS3) rfl rfl rfl (put_le (atc (o := 129) (ata (m := 64) (o := 65) arL (ata (m := 64) (o := 1) arL (atc (o := 0) (at0 (hdc (n := 0) hd0)))))) rfl) (cell1_all rfl) (putc (o := 129) (puta (m := 64) (o := 65) arL (puta (m := 64) (o := 1) arL (putc (o := 0) (put1)))))) ?_
     refine D_done (by kernel_rfl) ?_
     refine T_keep (kc 1 rfl <| kc 2 rfl <| kc 4 rfl <| kn) rfl ?_
     refine T_seq (T_reg ?_)
     refine R_q _ rfl (v_move (ov rfl)) ?_
     refine R_q _ rfl (v_fieldP (ov rfl) rfl rfl tF81_2) ?_
     obtain ⟨x2, h_x2, h⟩ := bnd h
     refine R_q _ rfl (v_ixAG (ov rfl) (ov rfl) tR79 rfl rfl h_x2) ?_
     refine R_w _ _ rfl (w_store (ov rfl) (ov rfl) (cells_scal tS3) rfl rfl rfl (put_le (at_at (o := 65) (o' := (place.toNat * 1)) (atc (o := 64) (ata (m := 64) (o := 0) arL (at0 (hdw arL)))) (at_v1 h_x2)) rfl) (cell1_all rfl) (put_put (o := 65) (o' := (place.toNat * 1)) (atc (o := 64) (ata (m := 64) (o := 0) arL (at0 (hdw arL)))) (at_v1 h_x2) rfl (put_v1 h_x2 (x := 2)) (putc (o := 64) (puta (m := 64) (o := 0) arL (putw (Eq.trans arL (Eq.symm arL))))))) ?_
     refine R_nil ?_
     refine T_keep (kc 1 rfl <| kc 2 rfl <| kn) rfl ?_
     refine T_seq (T_reg ?_)
     refine R_q _ rfl (v_loadA (ov rfl) rfl rfl rfl tA81 (at_sub (at_all (lnC (n := 131) (lnA (m := 64) (n := 67) arL (lnA (m := 64) (n := 3) arL (lnC (n := 2) (lnC (n := 1) (lnC (n := 0) (lnN))))))))) (lnC (n := 131) (lnA (m := 64) (n := 67) arL (lnA (m := 64) (n := 3) arL (lnC (n := 2) (lnC (n := 1) (lnC (n := 0) (lnN))))))) (hns := nsC rfl (nsA (nsM fun _ => rfl) (nsA (nsM fun _ => rfl) (nsC rfl (nsC rfl (nsC rfl (nsR rfl)))))))) ?_
     refine R_w _ _ rfl (w_store (ov rfl) (ov rfl) (cells_agg tA81 (lnC (n := 131) (lnA (m := 64) (n := 67) arL (lnA (m := 64) (n := 3) arL (lnC (n := 2) (lnC (n := 1) (lnC (n := 0) (lnN)))))))) rfl rfl rfl (put_le (at_all (lnC (n := 131) (lnA (m := 64) (n := 67) arL (lnA (m := 64) (n := 3) arL (lnC (n := 2) (lnC (n := 1) (lnC (n := 0) (lnN)))))))) (lnC (n := 131) (lnA (m := 64) (n := 67) arL (lnA (m := 64) (n := 3) arL (lnC (n := 2) (lnC (n := 1) (lnC (n := 0) (lnN)))))))) (cell1_all (alC rfl (alA (arC fun _ => rfl) (alA (arC fun _ => rfl) (alC rfl (alC rfl (alC rfl (alN)))))))) (put_all (Eq.trans (lnC (n := 131) (lnA (m := 64) (n := 67) arL (lnA (m := 64) (n := 3) arL (lnC (n := 2) (lnC (n := 1) (lnC (n := 0) (lnN))))))) (Eq.symm (lnC (n := 131) (lnA (m := 64) (n := 67) arL (lnA (m := 64) (n := 3) arL (lnC (n := 2) (lnC (n := 1) (lnC (n := 0) (lnN))))))))))) ?_
     refine R_nil ?_
     obtain rfl := rt (v := (api_Rest.mk r_.Number y.1 (vset y3 place 2) true 0 r_.Conflict)) h
     refine T_ret (retq ?_ (.one (.agg rfl rfl rfl rfl tA81 (at_sub (at_all (lnC (n := 131) (lnA (m := 64) (n := 67) arL (lnA (m := 64) (n := 3) arL (lnC (n := 2) (lnC (n := 1) (lnC (n := 0) (lnN))))))))) (lnC (n := 131) (lnA (m := 64) (n := 67) arL (lnA (m := 64) (n := 3) arL (lnC (n := 2) (lnC (n := 1) (lnC (n := 0) (lnN))))))) (pwB (alC rfl (alA (arD fun _ => rfl) (alA (arD fun _ => rfl) (alC rfl (alC rfl (alC rfl (alN)))))))) (hns := nsC rfl (nsA (nsM fun _ => rfl) (nsA (nsM fun _ => rfl) (nsC rfl (nsC rfl (nsC rfl (nsR rfl))))))))))
     rfl

theorem ok_salvage_Salvage {l : List api_Piece} {r : (List api_Rest) × Int} (h : salvage_Salvage l = some r) :
  CSpec Tryd.prog gl0 33 [.sl 35 (List.map R35 l)] (.tuple [.sl 81 (List.map R81 r.1), .int .i64 r.2]) := by
 unfold salvage_Salvage at h
 replace h := bnd0 h
 refine spec_of (by kernel_rfl) Tryd.func33 rfl rfl ?_
 intro w0 A
 refine T_seq (T_reg ?_)
 refine R_q _ rfl (v_assign (ov rfl)) ?_
 refine R_q _ rfl (v_assign (ov rfl)) ?_
 refine R_nil ?_
 refine T_seq ?_
 refine T_keep (kc 0 rfl <| kn) rfl ?_
 refine T_seq (T_reg ?_)
 refine R_q _ rfl (v_move (ov rfl)) ?_
 refine R_q _ rfl (v_len (slv_sl (ov rfl) tZ_35) tL78 (len_map _ _)) ?_
 refine R_q _ rfl (v_gtr (ov rfl) (ov rfl)) ?_
 refine R_nil ?_
 refine T_keep (kc 0 rfl <| kc 14 rfl <| kn) rfl ?_
 refine T_if h rfl (fun b14 h => ?_) (fun b14 h => ?_)
 ·
  refine T_keep (kn) rfl ?_
  refine T_seq (T_reg ?_)
  refine R_q _ rfl (v_assign (ov rfl)) ?_
  refine R_q _ rfl (v_assign (ov rfl)) ?_
  refine R_nil ?_
  obtain rfl := rt (v := ([], 3)) h
  refine T_ret (retq ?_ (.two (.tmp rfl (View.nils 81)) (.tmp rfl (Dat.view (.b rfl)))))
  rfl
 ·
  refine T_skip ?_
  refine T_joinG (fun j => (.inr j)) (t0 ⟨[(0, .sl 35 (List.map R35 l))], []⟩) h (fun h => ?_) (fun j h => ?_)
  ·
   refine T_keep (kc 0 rfl <| kn) rfl ?_
   refine T_seq (T_reg ?_)
   refine R_q _ rfl (v_move (ov rfl)) ?_
   refine R_q _ rfl (v_len (slv_sl (ov rfl) tZ_35) tL78 (len_map _ _)) ?_
   refine R_q _ rfl (v_move (ov rfl)) ?_
   refine R_nil ?_
   refine T_block ?_
   obtain ⟨r1, hl1, ho1⟩ := bndL h
   refine T_loopG _ (t1 fun i => ⟨[(0, .sl 35 (List.map R35 l)), (15, .sl 35 (List.map R35 l)), (16, .int .i64 (l.length : Int)), (17, .int .i64 i)], []⟩) _ hl1 (Ent.sel [] (sd 0 rfl rfl <| sd 15 rfl rfl <| sd 16 rfl rfl <| sd 17 rfl rfl <| sn) (.nil) rfl rfl) (fun n1 s1 h => ?_)
   obtain ⟨i, rfl⟩ : ∃ x, x = s1 := ⟨_, rfl⟩
   replace h := t1i h
   refine t1T ?_
   unfold salvage_Salvage_L1 at h
   refine T_seq (T_reg ?_)
   refine R_q _ rfl (v_lss (ov rfl) (ov rfl)) ?_
   refine R_nil ?_
   refine T_seq ?_
   refine T_if h rfl (fun b18 h => ?_) (fun b18 h => ?_)
   ·
    refine T_skip ?_
    refine T_seq ?_
    refine T_block ?_
    refine T_keep (kc 0 rfl <| kc 15 rfl <| kc 16 rfl <| kc 17 rfl <| kn) rfl ?_
    refine T_seq (T_reg ?_)
    obtain ⟨x, h_x, h⟩ := bnd h
    refine R_q _ rfl (v_ixSG (ov rfl) (ov rfl) tL78 h_x) ?_
    refine R_q _ rfl (v_loadA_r (ov rfl) tA35 rfl rfl) ?_
    refine R_w _ _ rfl (w_alloc (row := [_, _]) 0 rfl tZ35 rfl tZ_35) ?_
    refine R_w _ _ rfl (w_store (ov rfl) (ov rfl) (cells_agg tA35 rfl) rfl rfl rfl (Nat.le_of_ble_eq_true rfl) (cell1_all rfl) rfl) ?_
    refine R_nil ?_
    refine T_keep (kc 0 rfl <| kc 5 rfl <| kc 15 rfl <| kc 16 rfl <| kc 17 rfl <| kn) rfl ?_
    refine T_seq (T_reg ?_)
    refine R_q _ rfl (v_loadA (ov rfl) rfl rfl rfl tA35 rfl rfl) ?_
    obtain ⟨y, h_y, h⟩ := bnd h
    refine R_q _ rfl (v_call (ok_salvage_CheckPiece h_y) (.cons (ov rfl) (.aggB rfl) <| .nil)) ?_
    refine R_q _ rfl (v_assign (ov rfl)) ?_
    refine R_nil ?_
    refine T_keep (kc 0 rfl <| kc 6 rfl <| kc 15 rfl <| kc 16 rfl <| kc 17 rfl <| kn) rfl ?_
    refine T_seq (T_reg ?_)
    refine R_q _ rfl (v_move (ov rfl)) ?_
    refine R_q _ rfl (v_neq (ov rfl) (ov rfl)) ?_
    refine R_nil ?_
    refine T_keep (kc 0 rfl <| kc 6 rfl <| kc 15 rfl <| kc 16 rfl <| kc 17 rfl <| kc 24 rfl <| kn) rfl ?_
    refine T_if h rfl (fun b24 h => ?_) (fun b24 h => ?_)
    ·
     refine T_keep (kc 6 rfl <| kn) rfl ?_
     refine T_seq (T_reg ?_)
     refine R_q _ rfl (v_move (ov rfl)) ?_
     refine R_q _ rfl (v_assign (ov rfl)) ?_
     refine R_q _ rfl (v_assign (ov rfl)) ?_
     refine R_nil ?_
     rw [lx h] at ho1
     replace h := ho1
     obtain rfl := rt (v := ([], y)) h
     refine T_ret (retq ?_ (.two (.tmp rfl (View.nils 81)) (.tmp rfl (Dat.view (.b rfl)))))
     rfl
    ·
     refine T_skip ?_
     refine T_keep (kc 0 rfl <| kc 15 rfl <| kc 16 rfl <| kc 17 rfl <| kn) rfl ?_
     refine T_reg ?_
     refine R_q _ rfl (v_add (ov rfl) (ov rfl) rfl) ?_
     refine R_q _ rfl (v_move (ov rfl)) ?_
     refine R_nil ?_
     exact ⟨(i64 (i + 1)), h, Ent.sel [] (sd 0 rfl rfl <| sd 15 rfl rfl <| sd 16 rfl rfl <| sd 17 rfl rfl <| sn) (.nil) rfl rfl⟩
   ·
    refine T_exit ?_
    rw [lx h] at ho1
    replace h := ho1
    exact ⟨(), h, Ent.sel [] (sd 0 rfl rfl <| sn) (.nil) rfl rfl⟩
  ·
   replace h := elr h
   cases j
   replace h := t0i h
   refine t0T ?_
   refine T_seq (T_reg ?_)
   refine R_q _ rfl (v_assign (ov rfl)) ?_
   refine R_nil ?_
   refine T_joinG id (t1 fun parts => ⟨[(7, .own 0 parts.length)], [some ⟨81, List.map R81 parts⟩]⟩) h (fun h => ?_) (fun j h => ?_)
   ·
    refine T_seq (T_reg ?_)
    refine R_q _ rfl (v_move (ov rfl)) ?_
    refine R_q _ rfl (v_len (slv_sl (ov rfl) tZ_35) tL78 (len_map _ _)) ?_
    refine R_q _ rfl (v_move (ov rfl)) ?_
    refine R_nil ?_
    refine T_block ?_
    obtain ⟨r2, hl2, ho2⟩ := bndL h
    refine T_loopG _ (t2 fun parts2 i2 => ⟨[(7, .own 0 parts2.length), (27, .sl 35 (List.map R35 l)), (28, .int .i64 (l.length : Int)), (29, .int .i64 i2)], [some ⟨81, List.map R81 parts2⟩]⟩) _ hl2 (Ent.sel [none] (sr 7 rfl (.row rfl) <| sd 27 rfl rfl <| sd 28 rfl rfl <| sd 29 rfl rfl <| sn) (.row 81 <| .nil) rfl rfl) (fun n2 s2 h => ?_)
    obtain ⟨parts2, i2⟩ := s2
    replace h := t2i h
    refine t2T ?_
    unfold salvage_Salvage_L2 at h
    refine T_seq (T_reg ?_)
    refine R_q _ rfl (v_lss (ov rfl) (ov rfl)) ?_
    refine R_nil ?_
    refine T_seq ?_
    refine T_if h rfl (fun b30 h => ?_) (fun b30 h => ?_)
    ·
     refine T_skip ?_
     refine T_seq ?_
     refine T_block ?_
     refine T_keep (kc 7 rfl <| kc 27 rfl <| kc 28 rfl <| kc 29 rfl <| kn) rfl ?_
     refine T_seq (T_reg ?_)
     obtain ⟨x2, h_x2, h⟩ := bnd h
     refine R_q _ rfl (v_ixSG (ov rfl) (ov rfl) tL78 h_x2) ?_
     refine R_q _ rfl (v_loadA_r (ov rfl) tA35 rfl rfl) ?_
     refine R_w _ _ rfl (w_alloc (row := [_, _]) 1 rfl tZ35 rfl tZ_35) ?_
     refine R_w _ _ rfl (w_store (ov rfl) (ov rfl) (cells_agg tA35 rfl) rfl rfl rfl (Nat.le_of_ble_eq_true rfl) (cell1_all rfl) rfl) ?_
     refine R_nil ?_
     refine T_keep (kc 7 rfl <| kc 9 rfl <| kc 27 rfl <| kc 28 rfl <| kc 29 rfl <| kn) rfl ?_
     refine T_reg ?_
     refine R_q _ rfl (v_move (ov rfl)) ?_
     refine R_q _ rfl (v_loadA (ov rfl) rfl rfl rfl tA35 rfl rfl) ?_
     obtain ⟨y2, h_y2, h⟩ := bnd h
     refine R_q _ rfl (v_call (ok_salvage_halves h_y2) (.cons (ov rfl) (.aggB rfl) <| .nil)) ?_
     obtain ⟨y3, h_y3, h⟩ := bnd h
     refine R_q _ rfl (v_call (ok_salvage_rests h_y3) (.cons (ov rfl) (.b rfl) <| .nil)) ?_
     obtain ⟨l2, h_l2, h⟩ := bnd h
     refine R_w _ _ rfl (w_appendZ (ov rfl) (slv_sl (ov rfl) tZ_81) tL75 rfl rfl (fun x => cell1_all (E81 x)) rfl h_l2) ?_
     refine R_q _ rfl (v_assign (ov rfl)) ?_
     refine R_nil ?_
     refine T_keep (kc 7 rfl <| kc 27 rfl <| kc 28 rfl <| kc 29 rfl <| kn) rfl ?_
     refine T_reg ?_
     refine R_q _ rfl (v_add (ov rfl) (ov rfl) rfl) ?_
     refine R_q _ rfl (v_move (ov rfl)) ?_
     refine R_nil ?_
     exact ⟨(l2, (i64 (i2 + 1))), h, Ent.sel [some 0] (sr 7 rfl (.own _ rfl) <| sd 27 rfl rfl <| sd 28 rfl rfl <| sd 29 rfl rfl <| sn) (.cons rfl (roM D81) <| .nil) rfl rfl⟩
    ·
     refine T_exit ?_
     rw [lx h] at ho2
     replace h := ho2
     exact ⟨parts2, h, Ent.sel [some 0] (sr 7 rfl (.own _ rfl) <| sn) (.cons rfl (roM D81) <| .nil) rfl rfl⟩
   ·
    obtain ⟨parts, rfl⟩ : ∃ x, x = j := ⟨_, rfl⟩
    replace h := t1i h
    refine t1T ?_
    refine T_seq (T_reg ?_)
    refine R_q _ rfl (v_move (ov rfl)) ?_
    obtain ⟨y4, h_y4, h⟩ := bnd h
    refine R_ent (Ent.sel [none] (sr 7 rfl (frzM rfl rfl rfl D81) <| sr 39 rfl (frzM rfl rfl rfl D81) <| sn) (.row 81 <| .nil) rfl rfl) ?_
    refine R_w _ _ rfl (w_callG [] (ok_salvage_grouped_o h_y4) (.cons (ov rfl) (.dat rfl) <| .nil) (.nil) rfl (.keep rfl rfl <| .lent 0 (.inr ⟨Nat.le_of_ble_eq_true rfl, rfl⟩) rfl (roM D81) <| .nil) rfl rfl (.own _ (.inr ⟨Nat.le_of_ble_eq_true rfl, rfl⟩))) ?_
    refine R_q _ rfl (v_assign (ov rfl)) ?_
    refine R_nil ?_
    refine T_seq ?_
    refine T_keep (kc 10 rfl <| kn) rfl ?_
    refine T_seq (T_draw (cw := md0) (by kernel_rfl) ?_)
    refine D_q0 0 _ rfl (by kernel_rfl) rfl rfl (v_move (ov rfl)) ?_
    refine D_q0 1 _ rfl (by kernel_rfl) rfl rfl (v_lenO (ov rfl) rfl rfl tL75) ?_
    refine D_q0 2 _ rfl (by kernel_rfl) rfl rfl (v_gtr (ov rfl) (ov rfl)) ?_
    refine D_q0 3 _ rfl (by kernel_rfl) rfl rfl (v_move (ov rfl)) ?_
    refine D_q0 4 _ rfl (by kernel_rfl) rfl rfl (.guarded ((decide (0 < (y4.length : Int))) == true) rfl rfl rfl rfl fun h => v_move (ov rfl)) ?_
    refine D_q0 5 _ rfl (by kernel_rfl) rfl rfl (.guarded ((decide (0 < (y4.length : Int))) == true) rfl rfl rfl rfl fun h => v_move (ov rfl)) ?_
    refine D_q0 6 _ rfl (by kernel_rfl) rfl rfl (.guarded ((decide (0 < (y4.length : Int))) == true) rfl rfl rfl rfl fun h => v_lenO (ow rfl h) rfl rfl tL75) ?_
    refine D_q0 7 _ rfl (by kernel_rfl) rfl rfl (.guarded ((decide (0 < (y4.length : Int))) == true) rfl rfl rfl rfl fun h => v_sub (ow rfl h) (ov rfl) rfl) ?_
    obtain ⟨x3, h_x3, h⟩ := bnd h
    refine D_q0 8 _ rfl (by kernel_rfl) rfl rfl (.guarded ((decide (0 < (y4.length : Int))) == true) rfl rfl rfl rfl fun h => v_ixOG (ow rfl h) (ow rfl h) tL75 rfl rfl (gdT h_x3 h)) ?_
    refine D_q0 9 _ rfl (by kernel_rfl) rfl rfl (.guarded ((decide (0 < (y4.length : Int))) == true) rfl rfl rfl rfl fun h => v_fieldPR (ow rfl h) rfl rfl tF81_0) ?_
    refine D_q0 10 _ rfl (by kernel_rfl) rfl rfl (.guarded ((decide (0 < (y4.length : Int))) == true) rfl rfl rfl rfl fun h => v_loadSR (ow rfl h) rfl rfl (gdT h_x3 h) tS3 (at_get (at0 (hdc (n := 0) hd0)))) ?_
    refine D_q0 11 _ rfl (by kernel_rfl) rfl rfl (.guarded ((decide (0 < (y4.length : Int))) == true) rfl rfl rfl rfl fun h => v_move (ov rfl)) ?_
    obtain ⟨x4, h_x4, h⟩ := bnd h
    refine D_q0 12 _ rfl (by kernel_rfl) rfl rfl (.guarded ((decide (0 < (y4.length : Int))) == true) rfl rfl rfl rfl fun h => v_ixOG (ow rfl h) (ov rfl) tL75 rfl rfl (gdT h_x4 h)) ?_
    refine D_q0 13 _ rfl (by kernel_rfl) rfl rfl (.guarded ((decide (0 < (y4.length : Int))) == true) rfl rfl rfl rfl fun h => v_fieldPR (ow rfl h) rfl rfl tF81_0) ?_
    refine D_q0 14 _ rfl (by kernel_rfl) rfl rfl (.guarded ((decide (0 < (y4.length : Int))) == true) rfl rfl rfl rfl fun h => v_loadSR (ow rfl h) rfl rfl (gdT h_x4 h) tS3 (at_get (at0 (hdc (n := 0) hd0)))) ?_
    refine D_q0 15 _ rfl (by kernel_rfl) rfl rfl (.guarded ((decide (0 < (y4.length : Int))) == true) rfl rfl rfl rfl fun h => v_sub (ow rfl h) (ow rfl h) rfl) ?_
    refine D_q0 16 _ rfl (by kernel_rfl) rfl rfl (.guarded ((decide (0 < (y4.length : Int))) == true) rfl rfl rfl rfl fun h => v_gtr (ow rfl h) (ov rfl)) ?_
    refine D_q0 17 _ rfl (by kernel_rfl) rfl rfl (v_and (ov rfl) (fun hp => ow rfl (gT hp))) ?_
    refine D_done (by kernel_rfl) ?_
    refine T_keep (kc 10 rfl <| kc 58 rfl <| kn) rfl ?_
    refine T_if h rfl (fun b58 h => ?_) (fun b58 h => ?_)
    ·
     refine T_keep (kn) rfl ?_
     refine T_seq (T_reg ?_)
     refine R_q _ rfl (v_assign (ov rfl)) ?_
     refine R_q _ rfl (v_assign (ov rfl)) ?_
     refine R_nil ?_
     obtain rfl := rt (v := ([], 3)) h
     refine T_ret (retq ?_ (.two (.tmp rfl (View.nils 81)) (.tmp rfl (Dat.view (.b rfl)))))
     rfl
    ·
     refine T_skip ?_
     refine T_joinG id (t1 fun out => ⟨[(10, .own 0 out.length)], [some ⟨81, List.map R81 out⟩]⟩) h (fun h => ?_) (fun j h => ?_)
     ·
      refine T_keep (kc 10 rfl <| kn) rfl ?_
      refine T_seq (T_reg ?_)
      refine R_q _ rfl (v_move (ov rfl)) ?_
      refine R_q _ rfl (v_lenO (ov rfl) rfl rfl tL75) ?_
      refine R_q _ rfl (v_move (ov rfl)) ?_
      refine R_nil ?_
      refine T_block ?_
      obtain ⟨r3, hl3, ho3⟩ := bndL h
      refine T_loopG _ (t2 fun out2 i3 => ⟨[(10, .own 0 out2.length), (60, .int .i64 (y4.length : Int)), (61, .int .i64 i3)], [some ⟨81, List.map R81 out2⟩]⟩) _ hl3 (Ent.sel [some 1] (sr 10 rfl (.own _ rfl) <| sd 60 rfl rfl <| sd 61 rfl rfl <| sn) (.cons rfl (roM D81) <| .nil) rfl rfl) (fun n3 s3 h => ?_)
      obtain ⟨out2, i3⟩ := s3
      replace h := t2i h
      refine t2T ?_
      unfold salvage_Salvage_L3 at h
      refine T_seq (T_reg ?_)
      refine R_q _ rfl (v_lss (ov rfl) (ov rfl)) ?_
      refine R_nil ?_
      refine T_seq ?_
      refine T_if h rfl (fun b62 h => ?_) (fun b62 h => ?_)
      ·
       refine T_skip ?_
       refine T_seq ?_
       refine T_block ?_
       refine T_keep (kc 10 rfl <| kc 60 rfl <| kc 61 rfl <| kn) rfl ?_
       refine T_seq (T_reg ?_)
       refine R_q _ rfl (v_move (ov rfl)) ?_
       refine R_q _ rfl (v_assign (ov rfl)) ?_
       refine R_nil ?_
       refine T_keep (kc 10 rfl <| kc 11 rfl <| kc 60 rfl <| kc 61 rfl <| kn) rfl ?_
       refine T_reg ?_
       refine R_q _ rfl (v_move (ov rfl)) ?_
       refine R_q _ rfl (v_move (ov rfl)) ?_
       refine R_q _ rfl (v_move (ov rfl)) ?_
       refine R_q _ rfl (v_move (ov rfl)) ?_
       obtain ⟨x5, h_x5, h⟩ := bnd h
       refine R_q _ rfl (v_ixOG (ov rfl) (ov rfl) tL75 rfl rfl h_x5) ?_
       refine R_q _ rfl (v_loadAR (ov rfl) rfl rfl h_x5 tA81 (at_sub (at_all (lnC (n := 131) (lnA (m := 64) (n := 67) arL (lnA (m := 64) (n := 3) arL (lnC (n := 2) (lnC (n := 1) (lnC (n := 0) (lnN))))))))) (lnC (n := 131) (lnA (m := 64) (n := 67) arL (lnA (m := 64) (n := 3) arL (lnC (n := 2) (lnC (n := 1) (lnC (n := 0) (lnN))))))) (hns := nsC rfl (nsA (nsM fun _ => rfl) (nsA (nsM fun _ => rfl) (nsC rfl (nsC rfl (nsC rfl (nsR rfl)))))))) ?_
       obtain ⟨y5, h_y5, h⟩ := bnd h
       refine R_q _ rfl (v_call (ok_salvage_mended h_y5) (.cons (ov rfl) (.aggB (alC rfl (alA (arD fun _ => rfl) (alA (arD fun _ => rfl) (alC rfl (alC rfl (alC rfl (alN)))))))) <| .nil)) ?_
       obtain ⟨x6, h_x6, h⟩ := bnd h
       refine R_q _ rfl (v_ixOG (ov rfl) (ov rfl) tL75 rfl rfl h_x6) ?_
       refine R_w _ _ rfl (w_storeR (u' := y5) (ov rfl) (ov rfl) (cells_agg tA81 (lnC (n := 131) (lnA (m := 64) (n := 67) arL (lnA (m := 64) (n := 3) arL (lnC (n := 2) (lnC (n := 1) (lnC (n := 0) (lnN)))))))) rfl rfl h_x6 (Nat.ble_eq_true_of_le (put_le (at_all (lnC (n := 131) (lnA (m := 64) (n := 67) arL (lnA (m := 64) (n := 3) arL (lnC (n := 2) (lnC (n := 1) (lnC (n := 0) (lnN)))))))) (lnC (n := 131) (lnA (m := 64) (n := 67) arL (lnA (m := 64) (n := 3) arL (lnC (n := 2) (lnC (n := 1) (lnC (n := 0) (lnN))))))))) (cell1_all (alC rfl (alA (arC fun _ => rfl) (alA (arC fun _ => rfl) (alC rfl (alC rfl (alC rfl (alN)))))))) (put_all (Eq.trans (lnC (n := 131) (lnA (m := 64) (n := 67) arL (lnA (m := 64) (n := 3) arL (lnC (n := 2) (lnC (n := 1) (lnC (n := 0) (lnN))))))) (Eq.symm (lnC (n := 131) (lnA (m := 64) (n := 67) arL (lnA (m := 64) (n := 3) arL (lnC (n := 2) (lnC (n := 1) (lnC (n := 0) (lnN))))))))))) ?_
       refine R_nil ?_
       refine T_keep (kc 10 rfl <| kc 60 rfl <| kc 61 rfl <| kn) rfl ?_
       refine T_reg ?_
       refine R_q _ rfl (v_add (ov rfl) (ov rfl) rfl) ?_
       refine R_q _ rfl (v_move (ov rfl)) ?_
       refine R_nil ?_
       exact ⟨((out2.set i3.toNat y5), (i64 (i3 + 1))), h, Ent.sel [some 0] (sr 10 rfl (ownE (Eq.symm ((List.length_set ..).trans rfl)) rfl) <| sd 60 rfl rfl <| sd 61 rfl rfl <| sn) (.cons rfl (roM D81) <| .nil) rfl rfl⟩
      ·
       refine T_exit ?_
       rw [lx h] at ho3
       replace h := ho3
       exact ⟨out2, h, Ent.sel [some 0] (sr 10 rfl (.own _ rfl) <| sn) (.cons rfl (roM D81) <| .nil) rfl rfl⟩
     ·
      obtain ⟨out, rfl⟩ : ∃ x, x = j := ⟨_, rfl⟩
      replace h := t1i h
      refine t1T ?_
      refine T_seq (T_reg ?_)
      refine R_q _ rfl (v_move (ov rfl)) ?_
      refine R_q _ rfl (v_assign (ov rfl)) ?_
      refine R_q _ rfl (v_assign (ov rfl)) ?_
      refine R_nil ?_
      obtain rfl := rt (v := (out, 0)) h
      refine T_ret (retq ?_ (.two (.tmp rfl (View.ownM rfl rfl D81)) (.tmp rfl (Dat.view (.b rfl)))))
      rfl

theorem ok_law4_saved  {r : Bool} (h : law4_saved  = some r) :
  CSpec Tryd.prog gl0 11 [] (.bool r) := by
 unfold law4_saved at h
 replace h := bnd0 h
 refine spec_of (by kernel_rfl) Tryd.func11 rfl rfl ?_
 intro w0 A
 refine T_seq (T_reg ?_)
 refine R_q _ rfl (v_assign (ov rfl)) ?_
 refine R_nil ?_
 refine T_keep (kn) rfl ?_
 refine T_seq (T_reg ?_)
 obtain ⟨l, h_l, h⟩ := bnd h
 refine R_w _ _ rfl (w_makeG [none] (r := 0) (f := R3) (z0 := 0) rfl (ov rfl) (ov rfl) tL26 rfl tZ3 rfl rfl h_l) ?_
 obtain ⟨y, h_y, h⟩ := bnd h
 refine R_q _ rfl (v_callB (ok_ref1_New h_y) (.tuple (by simp only [List.mem_cons, List.not_mem_nil, or_false, forall_eq_or_imp, forall_eq]; exact ⟨(flat_arr (fun _ => .int)), .int⟩)) (.cons (ov rfl) (Dat.view (.b rfl)) <| .cons (ov rfl) (View.ownM rfl rfl D3) <| .nil)) ?_
 refine R_q _ rfl (v_move (ov rfl)) ?_
 refine R_q _ rfl (v_extract (ov rfl) rfl) ?_
 refine R_q _ rfl (v_extract (ov rfl) rfl) ?_
 refine R_w _ _ rfl (w_alloc (row := (List.map C36 (Vector.replicate 64 0).toList)) 1 rfl tZ38 rfl tZ_38) ?_
 refine R_w _ _ rfl (w_store (ov rfl) (ov rfl) (cells_agg tA38 arL) rfl rfl rfl (put_le (at_all arL) arL) (cell1_all (arC fun _ => rfl)) (put_all (Eq.trans arL (Eq.symm arL)))) ?_
 refine R_q _ rfl (v_assign (ov rfl)) ?_
 refine R_nil ?_
 refine T_keep (kc 1 rfl <| kn) rfl ?_
 refine T_seq (T_reg ?_)
 refine R_q _ rfl (v_loadA (ov rfl) rfl rfl rfl tA38 (at_sub (at_all arL)) arL (hns := (nsM fun _ => rfl))) ?_
 obtain ⟨y2, h_y2, h⟩ := bnd h
 refine R_q _ rfl (v_call (ok_ref1_ToBytes h_y2) (.cons (ov rfl) (.aggB (arD fun _ => rfl)) <| .nil)) ?_
 refine R_q _ rfl (v_move (ov rfl)) ?_
 refine R_q _ rfl (v_extract (ov rfl) rfl) ?_
 refine R_q _ rfl (v_extract (ov rfl) rfl) ?_
 refine R_q _ rfl (v_assign (ov rfl)) ?_
 refine R_q _ rfl (v_assign (ov rfl)) ?_
 refine R_nil ?_
 refine T_keep (kc 1 rfl <| kc 3 rfl <| kn) rfl ?_
 refine T_seq (T_reg ?_)
 refine R_w _ _ rfl (w_litG (r := 2) (xs := ([7] : List Int)) (f := R5) rfl tL33 (.cons (cvs (ov rfl) (cell1_b rfl)) rfl (.cons (.b rfl) .nil) <| .nil) rfl rfl rfl) ?_
 refine R_q _ rfl (v_move (ov rfl)) ?_
 obtain ⟨l2, h_l2, h⟩ := bnd h
 refine R_w _ _ rfl (w_appendZ (ov rfl) (slv_sl (ov rfl) tZ_5) tL33 rfl rfl (fun _ => cell1_all rfl) rfl h_l2) ?_
 refine R_q _ rfl (v_build (ys := [_, _]) tPL35 tHA35 tZ35 (.cons (cvs (ov rfl) (cell1_b rfl)) <| .nil) rfl) ?_
 refine R_ent (Ent.sel [some 0, some 1, none] (sr 1 rfl (.ptr (r' := 1) _ _ _ rfl) <| sd 3 rfl rfl <| sd 19 rfl rfl <| sr 20 rfl (frzM rfl rfl rfl D5) <| sr 21 rfl (rAgg (rlc (frzM rfl rfl rfl D5) <| rlc (.dat rfl) <| rln)) <| sn) (.cons rfl (roM D3) <| .cons rfl (ro1 (by exact Eq.trans (b := 64) arL tZ_38.symm) (rld (arD fun _ => rfl))) <| .row 5 <| .nil) rfl rfl) ?_
 refine R_q (.sl 35 (List.map R35 ([(api_Piece.mk l2 false)] : List api_Piece))) rfl (v_lit tL78 (.cons (cva (ov rfl)) rfl (pwD rfl) <| .nil) rfl rfl) ?_
 obtain ⟨y3, h_y3, h⟩ := bnd h
 refine R_q _ rfl (v_call (ok_salvage_Salvage h_y3) (.cons (ov rfl) (.b rfl) <| .nil)) ?_
 refine R_q _ rfl (v_move (ov rfl)) ?_
 refine R_q _ rfl (v_extract (ov rfl) rfl) ?_
 refine R_q _ rfl (v_extract (ov rfl) rfl) ?_
 refine R_q _ rfl (v_assign (ov rfl)) ?_
 refine R_q _ rfl (v_assign (ov rfl)) ?_
 refine R_nil ?_
 refine T_keep (kc 1 rfl <| kc 5 rfl <| kc 6 rfl <| kn) rfl ?_
 refine T_seq (T_draw (cw := md0) (by kernel_rfl) ?_)
 refine D_q0 0 _ rfl (by kernel_rfl) rfl rfl (v_move (ov rfl)) ?_
 refine D_q0 1 _ rfl (by kernel_rfl) rfl rfl (v_eql (ov rfl) (ov rfl)) ?_
 refine D_q0 2 _ rfl (by kernel_rfl) rfl rfl (v_move (ov rfl)) ?_
 refine D_q0 3 _ rfl (by kernel_rfl) rfl rfl (.guarded ((decide (y3.2 = 0)) == true) rfl rfl rfl rfl fun h => v_move (ov rfl)) ?_
 refine D_q0 4 _ rfl (by kernel_rfl) rfl rfl (.guarded ((decide (y3.2 = 0)) == true) rfl rfl rfl rfl fun h => v_len (slv_sl (ow rfl h) tZ_81) tL75 (len_map _ _)) ?_
 refine D_q0 5 _ rfl (by kernel_rfl) rfl rfl (.guarded ((decide (y3.2 = 0)) == true) rfl rfl rfl rfl fun h => v_eql (ow rfl h) (ov rfl)) ?_
 refine D_q0 6 _ rfl (by kernel_rfl) rfl rfl (v_and (ov rfl) (fun hp => ow rfl (gT hp))) ?_
 refine D_q0 7 _ rfl (by kernel_rfl) rfl rfl (v_move (ov rfl)) ?_
 refine D_q0 8 _ rfl (by kernel_rfl) rfl rfl (.guarded (((decide (y3.2 = 0)) && (decide ((y3.1.length : Int) = 1))) == true) rfl rfl rfl rfl fun h => v_move (ov rfl)) ?_
 obtain ⟨x, h_x, h⟩ := bnd h
 refine D_q0 9 _ rfl (by kernel_rfl) rfl rfl (.guarded (((decide (y3.2 = 0)) && (decide ((y3.1.length : Int) = 1))) == true) rfl rfl rfl rfl fun h => v_ixSG (ow rfl h) (ov rfl) tL75 (gdT h_x h)) ?_
 refine D_q0 10 _ rfl (by kernel_rfl) rfl rfl (.guarded (((decide (y3.2 = 0)) && (decide ((y3.1.length : Int) = 1))) == true) rfl rfl rfl rfl fun h => v_fieldR (ow rfl h) tF81_0) ?_
 refine D_q0 11 _ rfl (by kernel_rfl) rfl rfl (.guarded (((decide (y3.2 = 0)) && (decide ((y3.1.length : Int) = 1))) == true) rfl rfl rfl rfl fun h => v_loadS_r (ow rfl h) tS3 (at_get (at0 (hdc (n := 0) hd0)))) ?_
 refine D_q0 12 _ rfl (by kernel_rfl) rfl rfl (.guarded (((decide (y3.2 = 0)) && (decide ((y3.1.length : Int) = 1))) == true) rfl rfl rfl rfl fun h => v_eql (ow rfl h) (ov rfl)) ?_
 refine D_q0 13 _ rfl (by kernel_rfl) rfl rfl (v_and (ov rfl) (fun hp => ow rfl (gT hp))) ?_
 refine D_q0 14 _ rfl (by kernel_rfl) rfl rfl (v_move (ov rfl)) ?_
 refine D_q0 15 _ rfl (by kernel_rfl) rfl rfl (.guarded ((((decide (y3.2 = 0)) && (decide ((y3.1.length : Int) = 1))) && (decide (x.Number = 9))) == true) rfl rfl rfl rfl fun h => v_move (ov rfl)) ?_
 obtain ⟨x2, h_x2, h⟩ := bnd h
 refine D_q0 16 _ rfl (by kernel_rfl) rfl rfl (.guarded ((((decide (y3.2 = 0)) && (decide ((y3.1.length : Int) = 1))) && (decide (x.Number = 9))) == true) rfl rfl rfl rfl fun h => v_ixSG (ow rfl h) (ov rfl) tL75 (gdT h_x2 h)) ?_
 refine D_q0 17 _ rfl (by kernel_rfl) rfl rfl (.guarded ((((decide (y3.2 = 0)) && (decide ((y3.1.length : Int) = 1))) && (decide (x.Number = 9))) == true) rfl rfl rfl rfl fun h => v_fieldR (ow rfl h) tF81_1) ?_
 refine D_q0 18 _ rfl (by kernel_rfl) rfl rfl (.guarded ((((decide (y3.2 = 0)) && (decide ((y3.1.length : Int) = 1))) && (decide (x.Number = 9))) == true) rfl rfl rfl rfl fun h => v_loadA_r (ow rfl h) tA38 (at_sub (atc (o := 0) (at0 (hdw arL)))) arL) ?_
 refine D_q0 19 _ rfl (by kernel_rfl) rfl rfl (.guarded ((((decide (y3.2 = 0)) && (decide ((y3.1.length : Int) = 1))) && (decide (x.Number = 9))) == true) rfl rfl rfl rfl fun h => v_loadA (ov rfl) rfl rfl rfl tA38 (at_sub (at_all arL)) arL (hns := (nsM fun _ => rfl))) ?_
 refine D_q0 20 _ rfl (by kernel_rfl) rfl rfl (.guarded ((((decide (y3.2 = 0)) && (decide ((y3.1.length : Int) = 1))) && (decide (x.Number = 9))) == true) rfl rfl rfl rfl fun h => v_eqlX tEq38 (ow rfl h) (ow rfl h) (.aggB (arD fun _ => rfl)) (.aggB (arD fun _ => rfl)) ((fkV fun _ => rfl)) ((fkV fun _ => rfl)) ((eqV fun _ _ => rfl))) ?_
 refine D_q0 21 _ rfl (by kernel_rfl) rfl rfl (v_and (ov rfl) (fun hp => ow rfl (gT hp))) ?_
 refine D_q0 22 _ rfl (by kernel_rfl) rfl rfl (v_move (ov rfl)) ?_
 refine D_q0 23 _ rfl (by kernel_rfl) rfl rfl (.guarded (((((decide (y3.2 = 0)) && (decide ((y3.1.length : Int) = 1))) && (decide (x.Number = 9))) && (decide (x2.Frame = y.1))) == true) rfl rfl rfl rfl fun h => v_move (ov rfl)) ?_
 obtain ⟨x3, h_x3, h⟩ := bnd h
 refine D_q0 24 _ rfl (by kernel_rfl) rfl rfl (.guarded (((((decide (y3.2 = 0)) && (decide ((y3.1.length : Int) = 1))) && (decide (x.Number = 9))) && (decide (x2.Frame = y.1))) == true) rfl rfl rfl rfl fun h => v_ixSG (ow rfl h) (ov rfl) tL75 (gdT h_x3 h)) ?_
 refine D_q0 25 _ rfl (by kernel_rfl) rfl rfl (.guarded (((((decide (y3.2 = 0)) && (decide ((y3.1.length : Int) = 1))) && (decide (x.Number = 9))) && (decide (x2.Frame = y.1))) == true) rfl rfl rfl rfl fun h => v_fieldR (ow rfl h) tF81_3) ?_
 refine D_q0 26 _ rfl (by kernel_rfl) rfl rfl (.guarded (((((decide (y3.2 = 0)) && (decide ((y3.1.length : Int) = 1))) && (decide (x.Number = 9))) && (decide (x2.Frame = y.1))) == true) rfl rfl rfl rfl fun h => v_loadS_r (ow rfl h) tS4 (at_get (atc (o := 128) (ata (m := 64) (o := 64) arL (ata (m := 64) (o := 0) arL (at0 (hdc (n := 0) hd0))))))) ?_
 refine D_q0 27 _ rfl (by kernel_rfl) rfl rfl (v_and (ov rfl) (fun hp => ow rfl (gT hp))) ?_
 refine D_q0 28 _ rfl (by kernel_rfl) rfl rfl (v_move (ov rfl)) ?_
 refine D_q0 29 _ rfl (by kernel_rfl) rfl rfl (.guarded ((((((decide (y3.2 = 0)) && (decide ((y3.1.length : Int) = 1))) && (decide (x.Number = 9))) && (decide (x2.Frame = y.1))) && x3.Sound) == true) rfl rfl rfl rfl fun h => v_move (ov rfl)) ?_
 obtain ⟨x4, h_x4, h⟩ := bnd h
 refine D_q0 30 _ rfl (by kernel_rfl) rfl rfl (.guarded ((((((decide (y3.2 = 0)) && (decide ((y3.1.length : Int) = 1))) && (decide (x.Number = 9))) && (decide (x2.Frame = y.1))) && x3.Sound) == true) rfl rfl rfl rfl fun h => v_ixSG (ow rfl h) (ov rfl) tL75 (gdT h_x4 h)) ?_
 refine D_q0 31 _ rfl (by kernel_rfl) rfl rfl (.guarded ((((((decide (y3.2 = 0)) && (decide ((y3.1.length : Int) = 1))) && (decide (x.Number = 9))) && (decide (x2.Frame = y.1))) && x3.Sound) == true) rfl rfl rfl rfl fun h => v_fieldR (ow rfl h) tF81_4) ?_
 refine D_q0 32 _ rfl (by kernel_rfl) rfl rfl (.guarded ((((((decide (y3.2 = 0)) && (decide ((y3.1.length : Int) = 1))) && (decide (x.Number = 9))) && (decide (x2.Frame = y.1))) && x3.Sound) == true) rfl rfl rfl rfl fun h => v_loadS_r (ow rfl h) tS3 (at_get (atc (o := 129) (ata (m := 64) (o := 65) arL (ata (m := 64) (o := 1) arL (atc (o := 0) (at0 (hdc (n := 0) hd0)))))))) ?_
 refine D_q0 33 _ rfl (by kernel_rfl) rfl rfl (.guarded ((((((decide (y3.2 = 0)) && (decide ((y3.1.length : Int) = 1))) && (decide (x.Number = 9))) && (decide (x2.Frame = y.1))) && x3.Sound) == true) rfl rfl rfl rfl fun h => v_eql (ow rfl h) (ov rfl)) ?_
 refine D_q0 34 _ rfl (by kernel_rfl) rfl rfl (v_and (ov rfl) (fun hp => ow rfl (gT hp))) ?_
 refine D_q0 35 _ rfl (by kernel_rfl) rfl rfl (v_move (ov rfl)) ?_
 refine D_q0 36 _ rfl (by kernel_rfl) rfl rfl (.guarded (((((((decide (y3.2 = 0)) && (decide ((y3.1.length : Int) = 1))) && (decide (x.Number = 9))) && (decide (x2.Frame = y.1))) && x3.Sound) && (decide (x4.Copies = 1))) == true) rfl rfl rfl rfl fun h => v_move (ov rfl)) ?_
 obtain ⟨x5, h_x5, h⟩ := bnd h
 refine D_q0 37 _ rfl (by kernel_rfl) rfl rfl (.guarded (((((((decide (y3.2 = 0)) && (decide ((y3.1.length : Int) = 1))) && (decide (x.Number = 9))) && (decide (x2.Frame = y.1))) && x3.Sound) && (decide (x4.Copies = 1))) == true) rfl rfl rfl rfl fun h => v_ixSG (ow rfl h) (ov rfl) tL75 (gdT h_x5 h)) ?_
 refine D_q0 38 _ rfl (by kernel_rfl) rfl rfl (.guarded (((((((decide (y3.2 = 0)) && (decide ((y3.1.length : Int) = 1))) && (decide (x.Number = 9))) && (decide (x2.Frame = y.1))) && x3.Sound) && (decide (x4.Copies = 1))) == true) rfl rfl rfl rfl fun h => v_fieldR (ow rfl h) tF81_2) ?_
 obtain ⟨x6, h_x6, h⟩ := bnd h
 refine D_q0 39 _ rfl (by kernel_rfl) rfl rfl (.guarded (((((((decide (y3.2 = 0)) && (decide ((y3.1.length : Int) = 1))) && (decide (x.Number = 9))) && (decide (x2.Frame = y.1))) && x3.Sound) && (decide (x4.Copies = 1))) == true) rfl rfl rfl rfl fun h => v_ixRG (ow rfl h) (ov rfl) tR79 (gdT h_x6 h)) ?_
 refine D_q0 40 _ rfl (by kernel_rfl) rfl rfl (.guarded (((((((decide (y3.2 = 0)) && (decide ((y3.1.length : Int) = 1))) && (decide (x.Number = 9))) && (decide (x2.Frame = y.1))) && x3.Sound) && (decide (x4.Copies = 1))) == true) rfl rfl rfl rfl fun h => v_loadS_r (ow rfl h) tS3 (at_get (at_at (o := 65) (o' := ((Int.toNat 63) * 1)) (atc (o := 64) (ata (m := 64) (o := 0) arL (at0 (hdw arL)))) (at_v1 (gdT h_x6 h))))) ?_
 refine D_q0 41 _ rfl (by kernel_rfl) rfl rfl (.guarded (((((((decide (y3.2 = 0)) && (decide ((y3.1.length : Int) = 1))) && (decide (x.Number = 9))) && (decide (x2.Frame = y.1))) && x3.Sound) && (decide (x4.Copies = 1))) == true) rfl rfl rfl rfl fun h => v_eql (ow rfl h) (ov rfl)) ?_
 refine D_q0 42 _ rfl (by kernel_rfl) rfl rfl (v_and (ov rfl) (fun hp => ow rfl (gT hp))) ?_
 refine D_q0 43 _ rfl (by kernel_rfl) rfl rfl (v_assign (ov rfl)) ?_
 refine D_done (by kernel_rfl) ?_
 obtain rfl := rt (v := (((((((decide (y3.2 = 0)) && (decide ((y3.1.length : Int) = 1))) && (decide (x.Number = 9))) && (decide (x2.Frame = y.1))) && x3.Sound) && (decide (x4.Copies = 1))) && (decide (x6 = 3)))) h
 refine T_ret (retq ?_ (.one (.tmp rfl (Dat.view (.b rfl)))))
 rfl

theorem ok_law4_SalvageFrameAtMatchesSpec {p : api_Piece} {at_ : Int} {r : Bool} (h : law4_SalvageFrameAtMatchesSpec p at_ = some r) :
  CSpec Tryd.prog gl0 4 [.agg [.sl 5 (List.map R5 p.Bytes), .bool p.Half], .int .i64 at_] (.bool r) := by
 unfold law4_SalvageFrameAtMatchesSpec at h
 replace h := bnd0 h
 refine spec_of (by kernel_rfl) Tryd.func4 rfl rfl ?_
 intro w0 A
 refine T_seq (T_reg ?_)
 refine R_q _ rfl (v_boxD (cva (ov rfl)) rfl tZ_35 rfl) ?_
 refine R_q _ rfl (v_assign (ov rfl)) ?_
 refine R_nil ?_
 refine T_keep (kc 1 rfl <| kc 2 rfl <| kn) rfl ?_
 refine T_seq (T_reg ?_)
 refine R_q _ rfl (v_loadA_r (ov rfl) tA35 rfl rfl) ?_
 refine R_q _ rfl (v_move (ov rfl)) ?_
 obtain ⟨y, h_y, h⟩ := bnd h
 refine R_q _ rfl (v_call (ok_salvage_FrameAt h_y) (.cons (ov rfl) (.aggB rfl) <| .cons (ov rfl) (.b rfl) <| .nil)) ?_
 refine R_q _ rfl (v_move (ov rfl)) ?_
 refine R_q _ rfl (v_extract (ov rfl) rfl) ?_
 refine R_q _ rfl (v_extract (ov rfl) rfl) ?_
 refine R_q _ rfl (v_extract (ov rfl) rfl) ?_
 refine R_w _ _ rfl (w_alloc (row := (List.map C36 (Vector.replicate 64 0).toList)) 0 rfl tZ38 rfl tZ_38) ?_
 refine R_w _ _ rfl (w_alloc (row := (List.map C4 (Vector.replicate 64 false).toList)) 1 rfl tZ39 rfl tZ_39) ?_
 refine R_w _ _ rfl (w_store (ov rfl) (ov rfl) (cells_agg tA38 arL) rfl rfl rfl (put_le (at_all arL) arL) (cell1_all (arC fun _ => rfl)) (put_all (Eq.trans arL (Eq.symm arL)))) ?_
 refine R_w _ _ rfl (w_store (ov rfl) (ov rfl) (cells_agg tA39 arL) rfl rfl rfl (put_le (at_all arL) arL) (cell1_all (arC fun _ => rfl)) (put_all (Eq.trans arL (Eq.symm arL)))) ?_
 refine R_q _ rfl (v_assign (ov rfl)) ?_
 refine R_nil ?_
 refine T_keep (kc 1 rfl <| kc 2 rfl <| kc 5 rfl <| kc 6 rfl <| kc 7 rfl <| kn) rfl ?_
 refine T_seq (T_reg ?_)
 refine R_q _ rfl (v_loadA_r (ov rfl) tA35 rfl rfl) ?_
 refine R_q _ rfl (v_move (ov rfl)) ?_
 obtain ⟨y2, h_y2, h⟩ := bnd h
 refine R_q _ rfl (v_call (ok_ref4_FrameAt h_y2) (.cons (ov rfl) (.aggB rfl) <| .cons (ov rfl) (.b rfl) <| .nil)) ?_
 refine R_q _ rfl (v_move (ov rfl)) ?_
 refine R_q _ rfl (v_extract (ov rfl) rfl) ?_
 refine R_q _ rfl (v_extract (ov rfl) rfl) ?_
 refine R_q _ rfl (v_extract (ov rfl) rfl) ?_
 refine R_w _ _ rfl (w_alloc (row := (List.map C36 (Vector.replicate 64 0).toList)) 2 rfl tZ38 rfl tZ_38) ?_
 refine R_w _ _ rfl (w_alloc (row := (List.map C4 (Vector.replicate 64 false).toList)) 3 rfl tZ39 rfl tZ_39) ?_
 refine R_w _ _ rfl (w_store (ov rfl) (ov rfl) (cells_agg tA38 arL) rfl rfl rfl (put_le (at_all arL) arL) (cell1_all (arC fun _ => rfl)) (put_all (Eq.trans arL (Eq.symm arL)))) ?_
 refine R_w _ _ rfl (w_store (ov rfl) (ov rfl) (cells_agg tA39 arL) rfl rfl rfl (put_le (at_all arL) arL) (cell1_all (arC fun _ => rfl)) (put_all (Eq.trans arL (Eq.symm arL)))) ?_
 refine R_q _ rfl (v_assign (ov rfl)) ?_
 refine R_nil ?_
 refine T_keep (kc 5 rfl <| kc 6 rfl <| kc 7 rfl <| kc 8 rfl <| kc 9 rfl <| kc 10 rfl <| kn) rfl ?_
 refine T_seq (T_reg ?_)
 refine R_q _ rfl (v_loadA (ov rfl) rfl rfl rfl tA38 (at_sub (at_all arL)) arL (hns := (nsM fun _ => rfl))) ?_
 refine R_q _ rfl (v_loadA (ov rfl) rfl rfl rfl tA38 (at_sub (at_all arL)) arL (hns := (nsM fun _ => rfl))) ?_
 refine R_q _ rfl (v_eqlX tEq38 (ov rfl) (ov rfl) (.aggB (arD fun _ => rfl)) (.aggB (arD fun _ => rfl)) ((fkV fun _ => rfl)) ((fkV fun _ => rfl)) ((eqV fun _ _ => rfl))) ?_
 refine R_q _ rfl (v_move (ov rfl)) ?_
 refine R_q _ rfl (.guarded ((decide (y.1 = y2.1)) == true) rfl rfl rfl rfl fun h => v_loadA (ov rfl) rfl rfl rfl tA39 (at_sub (at_all arL)) arL (hns := (nsM fun _ => rfl))) ?_
 refine R_q _ rfl (.guarded ((decide (y.1 = y2.1)) == true) rfl rfl rfl rfl fun h => v_loadA (ov rfl) rfl rfl rfl tA39 (at_sub (at_all arL)) arL (hns := (nsM fun _ => rfl))) ?_
 refine R_q _ rfl (.guarded ((decide (y.1 = y2.1)) == true) rfl rfl rfl rfl fun h => v_eqlX tEq39 (ow rfl h) (ow rfl h) (.aggB (arD fun _ => rfl)) (.aggB (arD fun _ => rfl)) ((fkV fun _ => rfl)) ((fkV fun _ => rfl)) ((eqV fun _ _ => rfl))) ?_
 refine R_q _ rfl (v_and (ov rfl) (fun hp => ow rfl (gT hp))) ?_
 refine R_q _ rfl (v_move (ov rfl)) ?_
 refine R_q _ rfl (.guarded (((decide (y.1 = y2.1)) && (decide (y.2.1 = y2.2.1))) == true) rfl rfl rfl rfl fun h => v_move (ov rfl)) ?_
 refine R_q _ rfl (.guarded (((decide (y.1 = y2.1)) && (decide (y.2.1 = y2.2.1))) == true) rfl rfl rfl rfl fun h => v_move (ov rfl)) ?_
 refine R_q _ rfl (.guarded (((decide (y.1 = y2.1)) && (decide (y.2.1 = y2.2.1))) == true) rfl rfl rfl rfl fun h => v_eql (ow rfl h) (ow rfl h)) ?_
 refine R_q _ rfl (v_and (ov rfl) (fun hp => ow rfl (gT hp))) ?_
 refine R_q _ rfl (v_move (ov rfl)) ?_
 obtain ⟨y3, h_y3, h⟩ := bnd h
 refine R_q _ rfl (.guarded ((((decide (y.1 = y2.1)) && (decide (y.2.1 = y2.2.1))) && (decide (y.2.2 = y2.2.2))) == true) rfl rfl rfl rfl fun h => v_call (ok_law4_saved (gdT h_y3 h)) (.nil)) ?_
 refine R_q _ rfl (v_and (ov rfl) (fun hp => ow rfl (gT hp))) ?_
 refine R_q _ rfl (v_assign (ov rfl)) ?_
 refine R_nil ?_
 obtain rfl := rt (v := ((((decide (y.1 = y2.1)) && (decide (y.2.1 = y2.2.1))) && (decide (y.2.2 = y2.2.2))) && y3)) h
 refine T_ret (retq ?_ (.one (.tmp rfl (Dat.view (.b rfl)))))
 rfl
end Go.Proofs.YtciaeohnkfnamaaDoor
