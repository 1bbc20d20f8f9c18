/- A text of the proof: a verified executor of the program form, or the contracts of the functions that the law reaches. -/
import Derived.Test.YtjjlfkjacmhcmaaOkFa
set_option linter.all false
namespace Go.Proofs.Ytjjlfkjacmhcmaa
open Go Go.Vx
set_option maxRecDepth 10000
set_option maxHeartbeats 1000000
set_option linter.unusedVariables false
theorem Zae {xs r : List api_Param} (h : ZeI xs = some r) :
 GSpec Try.prog gl0 17 [.sl 44 (List.map R44 xs)] [] (.own 0 r.length) [some ⟨44, List.map R44 r⟩] := by
 have h2 : app [] xs = some r := h
 refine ZaB (by kernel_rfl) Try.func17 Y Y<|?_
 intro w0 A W φ0
 refine Tr<|Ra Y<|Za<|Zl<|Zl<|Zy<|Rm Y<|ZhU (ov Y) ZlU Y fun b hb=>?_
 refine Za<|Zh3 Y (fun hb2=>?_) fun hb2=>?_
 ·
  obtain rfl : xs = [] := by simpa using hb hb2
  obtain rfl : r = [] := by simpa [app, apz] using h2.symm
  exact Tr<|Ra Y<|Za<|Zk<|ZdZ [none] Y (.cons (.tmp Y) .nil) (.row 44 .nil) Y Y<|.row Y
 ·
  exact Ze<|Tr<|Rx Y (ZdX (r := 0) (xs := []) (f := R44) Y Qy .nil Y Y Y)<|Rm Y<|Rx Y (Xj (ov Y) (ZV (ov Y) tZ_44) Qy Y Y (fun _=>Zb Y) Y h2)<|Ra Y<|Za<|Zk<|ZdZ [some 0] Y (.cons (.tmp Y) .nil) (.cons Y (roM D44) .nil) Y Y<|.own _ Y
theorem Zhd {m : api_Map} {p : api_Param} {r : api_Param × Int} (h : Zcw m p = some r) :
 CSpec Try.prog gl0 14 [.agg [.int .i64 m.Version, .sl 44 (List.map R44 m.Params)], .agg [.str p.Name, .int .i64 p.Kind, .sl 64 (List.map R64 p.Parts), .int .i64 p.First, .int .i64 p.Every, .int .i64 p.Times, .int .i64 p.Step, .sl 9 (List.map R9 p.Names)]] (.tuple [.agg [.str r.1.Name, .int .i64 r.1.Kind, .sl 64 (List.map R64 r.1.Parts), .int .i64 r.1.First, .int .i64 r.1.Every, .int .i64 r.1.Times, .int .i64 r.1.Step, .sl 9 (List.map R9 r.1.Names)], .int .i64 r.2]) := by
 unfold Zcw at h
 replace h := Qf h
 refine So Try.func14 Y fun w0 A=>Tr<|Rx Y (Zic 0 Y (ov Y) Zao Y)<|Rx Y (Zic 1 Y (ov Y) Zw Y)<|Rx Y (Zs (row := [_, _, _, _, _, _, _, _]) 2 Y JZ Y tZ_44)<|Ra Y<|Za<|Zl<|K3 2 3 4 Y<|Tr<|Rq Y (Zn (ov Y) Y Y Y Zao Y Y)<|bE h fun y h_y h=>Rq Y (Zr (Xq h_y)<|.cons (ov Y) (.aggB Y) .nil)<|Rm Y<|Rq Y (Zo (ov Y) Y)<|Rq Y (Zo (ov Y) Y)<|Ra Y<|Ra Y<|Za<|K4 2 3 4 7 Y<|Tr<|Rm Y<|R2 Qp Y<|Za<|K5 2 3 4 7 22 Y<|If h Y (fun h=>?_) fun h=>?_
 ·
  refine K2 4 7 Y<|Tr<|Rq Y (Z7 (ys := [_, _, _, _, _, _, _, _]) Zby ZbA JZ .nil Y)<|Rm Y<|Rx Y (Zg (ov Y) (ov Y) (Zf Zw Y) Y Y Y (Nat.le_of_ble_eq_true Y) (Zb Y) Y)<|Ra Y<|Za<|?_
  obtain rfl := rt h
  exact Zk (Zp Y (.two (.agg Y Y Y Y Zw Y Y<|.cons (Dat.view<|.b Y)<|.cons (Dat.view<|.b Y)<|.cons (View.nils 64)<|.cons (Dat.view<|.b Y)<|.cons (Dat.view<|.b Y)<|.cons (Dat.view<|.b Y)<|.cons (Dat.view<|.b Y)<|.cons (View.nils 9) .nil)<|rb Y))
 ·
  refine Ze<|Zl<|K3 2 3 4 Y<|Tr<|Rq Y (Zn (ov Y) Y Y Y Zw Y Y)<|bE h fun y2 h_y2 h=>Rq Y (Zr (Zb2 h_y2)<|.cons (ov Y) (.aggB Y) .nil)<|Ra Y<|Za<|K4 2 3 4 8 Y<|Tr<|Rm Y<|R2 Qp Y<|Za<|K5 2 3 4 8 28 Y<|If h Y (fun h=>?_) fun h=>?_
  ·
   refine K2 4 8 Y<|Tr<|Rq Y (Z7 (ys := [_, _, _, _, _, _, _, _]) Zby ZbA JZ .nil Y)<|Rm Y<|Rx Y (Zg (ov Y) (ov Y) (Zf Zw Y) Y Y Y (Nat.le_of_ble_eq_true Y) (Zb Y) Y)<|Ra Y<|Za<|?_
   obtain rfl := rt h
   exact Zk (Zp Y (.two (.agg Y Y Y Y Zw Y Y<|.cons (Dat.view<|.b Y)<|.cons (Dat.view<|.b Y)<|.cons (View.nils 64)<|.cons (Dat.view<|.b Y)<|.cons (Dat.view<|.b Y)<|.cons (Dat.view<|.b Y)<|.cons (Dat.view<|.b Y)<|.cons (View.nils 9) .nil)<|rb Y))
  ·
   refine Ze<|Zl<|K3 2 3 4 Y<|Tr<|Rq Y (Zi (ov Y) Y Y QC)<|Rq Y (Zm (ov Y) Y Y Y J5 Y)<|Rq Y (QI<|.cons (ov Y) .nil)<|bE h fun y3 h_y3 h=>Rq Y (Ja (QQ Y (fun z0 _ hz=>Zgo hz) h_y3) .bool<|.cons (ov Y) (Dat.view<|.b Y)<|.cons (ov Y) (View.fn<|.cons (View.ptr Y Y Y<|pwB Y) .nil) .nil)<|Za<|K4 2 3 4 34 Y<|If h Y (fun h=>?_) fun h=>?_
   ·
    refine K1 4 Y<|Tr<|Rq Y (Z7 (ys := [_, _, _, _, _, _, _, _]) Zby ZbA JZ .nil Y)<|Rx Y (Zg (ov Y) (ov Y) (Zf Zw Y) Y Y Y (Nat.le_of_ble_eq_true Y) (Zb Y) Y)<|Ra Y<|Za<|?_
    obtain rfl := rt h
    exact Zk (Zp Y (.two (.agg Y Y Y Y Zw Y Y<|.cons (Dat.view<|.b Y)<|.cons (Dat.view<|.b Y)<|.cons (View.nils 64)<|.cons (Dat.view<|.b Y)<|.cons (Dat.view<|.b Y)<|.cons (Dat.view<|.b Y)<|.cons (Dat.view<|.b Y)<|.cons (View.nils 9) .nil)<|rb Y))
   ·
    refine Ze<|K3 2 3 4 Y<|Tr<|Rq Y (Zn (ov Y) Y Y Y Zw Y Y)<|bE h fun y4 h_y4 h=>Rx Y (QS [] (ZdH h_y4) (.cons (ov Y) (ZN<|rld Y) .nil) .nil Y (.keep Y Y<|.keep Y Y<|.keep Y Y<|.lent 0 (.inr ⟨Nat.le_of_ble_eq_true Y, Y⟩) Y (roM D64)<|.lent 1 (.inr ⟨Nat.le_of_ble_eq_true Y, Y⟩) Y (roM D9) .nil) Y Y<|ZN<|rlc (.dat Y)<|rlc (.dat Y)<|rlc (.own _<|.inr ⟨Nat.le_of_ble_eq_true Y, Y⟩)<|rlc (.dat Y)<|rlc (.dat Y)<|rlc (.dat Y)<|rlc (.dat Y)<|rlc (.own _<|.inr ⟨Nat.le_of_ble_eq_true Y, Y⟩) rln)<|Rx Y (Zg (ov Y) (ov Y) (Zf Zw Y) Y Y Y (Nat.le_of_ble_eq_true Y) (Zb Y) Y)<|Za<|K3 2 3 4 Y<|Tr<|Rq Y (Zn (ov Y) Y Y Y Zao Y Y)<|bE h fun y5 h_y5 h=>Rq Y (Zr (Zcb h_y5)<|.cons (ov Y) (.aggB Y) .nil)<|bE h fun y6 h_y6 h=>Rx Y (QS [] (ZeF h_y6) (.cons (ov Y) (.dat Y) .nil) .nil Y (.keep Y Y<|.keep Y Y<|.keep Y Y<|.keep Y Y<|.keep Y Y<|.lent 0 (.inr ⟨Nat.le_of_ble_eq_true Y, Y⟩) Y (ZD (fk := ZS) (fv := FV3) (m := y6) tZ_60 (fun _=>ZN<|rld Y) fun _=>.ren<|.dat Y) .nil) Y Y<|.mref _<|.inr ⟨Nat.le_of_ble_eq_true Y, Y⟩)<|Ra Y<|Za<|J1 (fun j => (.inr j)) (fun Parts=>⟨[(2, .ptr 0 1 0 0), (3, .ptr 1 1 0 0), (4, .ptr 4 1 0 0)], [some ⟨24, [[.int .i64 m.Version, .sl 44 (List.map R44 m.Params)]]⟩, some ⟨44, [[.str y4.Name, .int .i64 y4.Kind, .own 2 Parts.length, .int .i64 y4.First, .int .i64 y4.Every, .int .i64 y4.Times, .int .i64 y4.Step, .own 3 y4.Names.length]]⟩, some ⟨64, List.map R64 Parts⟩, some ⟨9, List.map R9 y4.Names⟩, some ⟨44, [[.str [], .int .i64 0, .nils, .int .i64 0, .int .i64 0, .int .i64 0, .int .i64 0, .nils]]⟩]⟩) h (fun h=>?_) fun Parts h=>?_
    ·
     refine K4 2 3 4 9 Y<|Tr<|Rq Y (Zi (ov Y) Y Y Q4)<|Rq Y (Zm (ov Y) Y Y Y Zbv Y)<|Rq Y (Zjb (ov Y) Y Y Xs)<|Rm Y<|Za<|Zh<|?_
     obtain ⟨r1, hl1, ho1⟩ := QA h
     refine L3 (fun Parts2 taken i=>⟨[(2, .ptr 0 1 0 0), (3, .ptr 1 1 0 0), (4, .ptr 4 1 0 0), (9, .mref 5 1), (42, .own 2 Parts2.length), (43, .int .i64 (y4.Parts.length : Int)), (44, .int .i64 i)], [some ⟨24, [[.int .i64 m.Version, .sl 44 (List.map R44 m.Params)]]⟩, some ⟨44, [[.str y4.Name, .int .i64 y4.Kind, .own 2 Parts2.length, .int .i64 y4.First, .int .i64 y4.Every, .int .i64 y4.Times, .int .i64 y4.Step, .own 3 y4.Names.length]]⟩, some ⟨64, List.map R64 Parts2⟩, some ⟨9, List.map R9 y4.Names⟩, some ⟨44, [[.str [], .int .i64 0, .nils, .int .i64 0, .int .i64 0, .int .i64 0, .int .i64 0, .nils]]⟩, some ⟨60, [[.mcon (List.map (ZZ ZS FV3) taken)]]⟩]⟩) hl1 (ES [some 0, some 1, some 3, some 4, some 2, some 5] (hhp := .cons Y (ro1 (by exact tZ_24.symm)<|rld Y)<|.cons Y (ro1 (by exact tZ_44.symm)<|rlc (.dat Y)<|rlc (.dat Y)<|rlc (.own _ Y)<|rlc (.dat Y)<|rlc (.dat Y)<|rlc (.dat Y)<|rlc (.dat Y)<|rlc (.own _ Y) rln)<|.cons Y (roM D64)<|.cons Y (roM D9)<|.cons Y (ro1 (by exact tZ_44.symm)<|rld Y)<|.cons Y (ZD (fk := ZS) (fv := FV3) (m := y6) tZ_60 (fun _=>ZN<|rld Y) fun _=>.ren<|.dat Y) .nil)) fun n1 Parts2 taken i h=>?_
     unfold X2 at h
     refine Tr<|R2 ZM Y<|Za<|Zl<|If h Y (fun h=>?_) fun h=>?_
     ·
      refine Ze<|Zl<|Zh<|K7 2 3 4 9 42 43 44 Y<|Tr<|Rm Y<|bE h fun x h_x h=>Rq Y (ZgB (ov Y) (ov Y) Xs Y Y h_x)<|Rq Y (Zk7 (ov Y) Y Y h_x X8 Y Y)<|Rx Y (Zs (row := [_, _, _, _]) 6 Y ZeR Y tZ_64)<|Ra Y<|Rx Y (Zg (ov Y) (ov Y) (Zf X8 Y) Y Y Y (Nat.le_of_ble_eq_true Y) (Zb Y) Y)<|Za<|K9 2 3 4 9 10 11 42 43 44 Y<|Tr<|Rm Y<|Rq Y (Zn (ov Y) Y Y Y Zw Y Y)<|Rq Y (Zn (ov Y) Y Y Y X8 Y Y)<|bE h fun y7 h_y7 h=>Rx Y (Zlx [5] (ZfM h_y7) (.cons (ov Y) (.mref _ Y)<|.view (ov Y) (ViewX.aggL<|.cons (Dat.viewX<|.b Y)<|.cons (Dat.viewX<|.b Y)<|.cons (ViewX.ownM Y Y Y D64)<|.cons (Dat.viewX<|.b Y)<|.cons (Dat.viewX<|.b Y)<|.cons (Dat.viewX<|.b Y)<|.cons (Dat.viewX<|.b Y)<|.cons (ViewX.ownM Y Y Y D9) .nil)<|.cons (ov Y) (ZN<|rld Y) .nil) (.cons Y (ZD (fk := ZS) (fv := FV3) (m := taken) tZ_60 (fun _=>ZN<|rld Y) fun _=>.ren<|.dat Y) .nil) Y (.keep Y Y<|.keep Y Y<|.keep Y Y<|.keep Y Y<|.keep Y Y<|.lent 0 (.inl Y) Y (ZD (fk := ZS) (fv := FV3) (m := y7.2.2) tZ_60 (fun _=>ZN<|rld Y) fun _=>.ren<|.dat Y)<|.keep Y Y .nil) Y Y (ZlB<|rlc (ZN<|rld Y)<|rlc (.dat Y) rln) Y<|.cons (Zmv (fun _=>Y) fun _=>Y) .nil)<|Rm Y<|Rq Y (Zo (ov Y) Y)<|Rq Y (Zo (ov Y) Y)<|Rx Y (Zs (row := [_, _, _, _]) 7 Y ZeR Y tZ_64)<|Rx Y (Zg (ov Y) (ov Y) (Zf X8 Y) Y Y Y (Nat.le_of_ble_eq_true Y) (Zb Y) Y)<|Ra Y<|Za<|Zl<|K10 2 3 4 9 10 12 13 42 43 44 Y<|Tr<|Rm Y<|R1 Xy Y<|Za<|K10 2 3 4 9 10 12 42 43 44 57 Y<|If h Y (fun h=>?_) fun h=>?_
      ·
       refine K1 4 Y<|Tr<|Rq Y (Z7 (ys := [_, _, _, _, _, _, _, _]) Zby ZbA JZ .nil Y)<|Rx Y (Zg (ov Y) (ov Y) (Zf Zw Y) Y Y Y (Nat.le_of_ble_eq_true Y) (Zb Y) Y)<|Ra Y<|Za<|?_
       replace h := lx h ▸ ho1
       obtain rfl := rt h
       exact Zk (Zp Y (.two (.agg Y Y Y Y Zw Y Y<|.cons (Dat.view<|.b Y)<|.cons (Dat.view<|.b Y)<|.cons (View.nils 64)<|.cons (Dat.view<|.b Y)<|.cons (Dat.view<|.b Y)<|.cons (Dat.view<|.b Y)<|.cons (Dat.view<|.b Y)<|.cons (View.nils 9) .nil)<|rb Y))
      ·
       exact Ze<|K9 2 3 4 9 10 12 42 43 44 Y<|Zy<|Rq Y (Zi (ov Y) Y Y Q4)<|Rq Y (Zm (ov Y) Y Y Y Zbv Y)<|Rm Y<|Rq Y (Zn (ov Y) Y Y Y X8 Y Y)<|bE h fun x2 h_x2 h=>Rq Y (ZgB (ov Y) (ov Y) Xs Y Y h_x2)<|Rx Y (Zgz (u' := y7.1) (ov Y) (ov Y) (Zf X8 Y) Y Y h_x2 Y (Zb Y) Y)<|Za<|K7 2 3 4 9 42 43 44 Y<|Zy<|R2 Z5 Y<|Rm Y<|Za<|⟨_, h, Ent.sel [some 0, some 1, some 2, some 3, some 4, some 5] (sr 2 Y (.ptr _ _ _ Y)<|sr 3 Y (.ptr _ _ _ Y)<|sr 4 Y (.ptr _ _ _ Y)<|sr 9 Y (.mref _ Y)<|sr 42 Y (Zmx (Eq.symm<|(List.length_set ..).trans Y) Y)<|sd 43 Y Y<|sd 44 Y Y sn) (.cons Y (ro1 (by exact tZ_24.symm)<|rld Y)<|.cons Y (ro1 (by exact tZ_44.symm)<|rlc (.dat Y)<|rlc (.dat Y)<|rlc (Zmx (Eq.symm<|(List.length_set ..).trans Y) Y)<|rlc (.dat Y)<|rlc (.dat Y)<|rlc (.dat Y)<|rlc (.dat Y)<|rlc (.own _ Y) rln)<|.cons Y (roM D64)<|.cons Y (roM D9)<|.cons Y (ro1 (by exact tZ_44.symm)<|rld Y)<|.cons Y (ZD (fk := ZS) (fv := FV3) (m := y7.2.2) tZ_60 (fun _=>ZN<|rld Y) fun _=>.ren<|.dat Y) .nil) Y Y⟩
     ·
      refine ZC<|?_
      replace h := lx h ▸ ho1
      exact ⟨_, h, ES [some 0, some 1, some 2, some 3, some 4]⟩
    ·
     replace h := elr h
     replace h := t1i h
     refine ZhE (Ent.sel [some 0, some 1, none, none, some 4] (sr 2 Y (.ptr (r' := 0) _ _ _ Y)<|sr 3 Y (.ptr (r' := 1) _ _ _ Y)<|sr 4 Y (.ptr (r' := 4) _ _ _ Y) sn) (.cons Y (ro1 (by exact tZ_24.symm)<|rld Y)<|.cons Y (ro1 (by exact tZ_44.symm)<|rlc (.dat Y)<|rlc (.dat Y)<|rlc (ZiY Y Y Y D64)<|rlc (.dat Y)<|rlc (.dat Y)<|rlc (.dat Y)<|rlc (.dat Y)<|rlc (ZiY Y Y Y D9) rln)<|.row 64<|.row 9<|.cons Y (ro1 (by exact tZ_44.symm)<|rlc (.dat Y)<|rlc (.dat Y)<|rlc (.dat Y)<|rlc (.dat Y)<|rlc (.dat Y)<|rlc (.dat Y)<|rlc (.dat Y)<|rlc (.dat Y) rln) .nil) Y Y)<|Td ⟨true, true, [some ⟨24, [[.int .i64 m.Version, .sl 44 (List.map R44 m.Params)]]⟩, some ⟨44, [[.str y4.Name, .int .i64 y4.Kind, .sl 64 (List.map R64 Parts), .int .i64 y4.First, .int .i64 y4.Every, .int .i64 y4.Times, .int .i64 y4.Step, .sl 9 (List.map R9 y4.Names)]]⟩, some ⟨64, List.map R64 []⟩, some ⟨9, List.map R9 []⟩, some ⟨44, [[.str [], .int .i64 0, .nils, .int .i64 0, .int .i64 0, .int .i64 0, .int .i64 0, .nils]]⟩], [], [0]⟩<|ZcW 0 _ Y (by kernel_rfl) Y Y Y (EL.ext<|.wr Y Y Y<|.keep<|.keep<|.keep<|.keep .nil) (fun hp' hx=>exW (r := 0) hx Y fun _ ho hn => Zi (ov Y) ho hn QC)<|ZcW 3 _ Y (by kernel_rfl) Y Y Y (EL.ext<|.wr Y Y Y<|.keep<|.keep<|.keep<|.keep .nil) (fun hp' hx=>Zn (ov Y) (hx.get Y Y) Y Y Zw Y Y)<|ZhK 1 4 Y Y (by kernel_rfl) Y Y Y Y (fun h=>by cases h) (fun _=>by exact EL.ext (.wr rfl rfl rfl <| .keep <| .keep <| .keep <| .keep <| .nil)) (Zm (ov Y) Y Y Y J5 Y) (ZaO<|X7 Qy (.cons (cva<|ov Y) Y (pwD Y) .nil) Y Y) ?_ ?_
     ·
      refine bE h fun y8 h_y8 h=>ZgO 2 4 Y Y (by kernel_rfl) Y Y Y Y (fun h=>by cases h) (fun h=>by cases h) (fun _=>by exact EL.ext (.wr rfl rfl rfl <| .keep <| .keep <| .keep <| .keep <| .nil)) (fun _=>by exact EL.ext (.wr rfl rfl rfl <| .keep <| .keep <| .keep <| .keep <| .nil)) (QS [] (Zae h_y8) (.cons (ov Y) (.dat Y) .nil) .nil Y (.keep Y Y<|.keep Y Y<|.keep Y Y<|.keep Y Y<|.keep Y Y<|.lent 0 (.inr ⟨Nat.le_of_ble_eq_true Y, Y⟩) Y (roM D44) .nil) Y Y<|.own _<|.inr ⟨Nat.le_of_ble_eq_true Y, Y⟩) (ZaO<|X7 Qy (.cons (cva<|ov Y) Y (pwD Y) .nil) Y Y) ?_ ?_
      ·
       refine QR 4 (.sl 44<|List.map R44 ([(api_Param.mk y4.Name y4.Kind Parts y4.First y4.Every y4.Times y4.Step y4.Names)] : List api_Param)) _ Y (by kernel_rfl) Y Y (fun h=>by cases h) (fun _=>by exact EL.ext (.wr rfl rfl rfl <| .keep <| .keep <| .keep <| .keep <| .nil)) (ZaO<|X7 Qy (.cons (cva<|ov Y) Y (pwD Y) .nil) Y Y)<|bE h fun l h_l h=>QR 5 _ _ Y (by kernel_rfl) Y Y (fun h=>by cases h) (fun _=>by exact EL.ext (.wr rfl rfl rfl <| .keep <| .keep <| .keep <| .keep <| .nil)) (ZX (ov Y) (ZV (ov Y) tZ_44) Qy Y Y Y (fun _=>Zb Y) Y h_l)<|Dq 6 Y (Zi (ov Y) Y Y QC)<|QR 7 _ _ Y (by kernel_rfl) Y Y (fun h=>by cases h) (fun _=>by exact EL.ext (.wr rfl rfl rfl <| .keep <| .keep <| .keep <| .keep <| .nil)) (Zg (ov Y) (ov Y) (Zv J5) Y Y Y (Nat.le_of_ble_eq_true Y) (Zb Y) Y)<|Dd<|Zl<|K3 2 3 4 Y<|Tr<|Rq Y (Zn (ov Y) Y Y Y Zao Y Y)<|bE h fun y9 h_y9 h=>Rq Y (Ja (Xq h_y9) (.tuple<|by simp only [List.mem_cons, List.not_mem_nil, or_false, forall_eq_or_imp, forall_eq]; exact ⟨.int, .int⟩)<|.cons (ov Y) (View.aggL<|.cons (Dat.view<|.b Y)<|.cons (View.ownM Y Y D44) .nil) .nil)<|Rm Y<|Rq Y (Zo (ov Y) Y)<|Rq Y (Zo (ov Y) Y)<|Ra Y<|Ra Y<|Za<|K3 3 4 15 Y<|Tr<|Rm Y<|R2 Qp Y<|Za<|K4 3 4 15 78 Y<|If h Y (fun h=>?_) fun h=>?_
       ·
        refine K2 4 15 Y<|Tr<|Rq Y (Z7 (ys := [_, _, _, _, _, _, _, _]) Zby ZbA JZ .nil Y)<|Rm Y<|Rx Y (Zg (ov Y) (ov Y) (Zf Zw Y) Y Y Y (Nat.le_of_ble_eq_true Y) (Zb Y) Y)<|Ra Y<|Za<|?_
        obtain rfl := rt h
        exact Zk (Zp Y (.two (.agg Y Y Y Y Zw Y Y<|.cons (Dat.view<|.b Y)<|.cons (Dat.view<|.b Y)<|.cons (View.nils 64)<|.cons (Dat.view<|.b Y)<|.cons (Dat.view<|.b Y)<|.cons (Dat.view<|.b Y)<|.cons (Dat.view<|.b Y)<|.cons (View.nils 9) .nil)<|rb Y))
       ·
        refine Ze<|K2 3 4 Y<|Tr<|Rq Y (Zn (ov Y) Y Y Y Zw Y Y)<|Rx Y (Zg (ov Y) (ov Y) (Zf Zw Y) Y Y Y (Nat.le_of_ble_eq_true Y) (Zb Y) Y)<|Ra Y<|Za<|?_
        obtain rfl := rt h
        exact Zk (Zp Y (.two (.agg Y Y Y Y Zw Y Y<|pwB Y)<|rb Y))
      ·
       refine QR 2 _ _ Y (by kernel_rfl) Y Y (fun h=>by cases h) (fun _=>by exact EL.ext (.wr rfl rfl rfl <| .keep <| .keep <| .keep <| .keep <| .nil)) (QS [] (Zae h_y8) (.cons (ov Y) (.dat Y) .nil) .nil Y (.keep Y Y<|.keep Y Y<|.keep Y Y<|.keep Y Y<|.keep Y Y<|.lent 0 (.inr ⟨Nat.le_of_ble_eq_true Y, Y⟩) Y (roM D44) .nil) Y Y<|.own _<|.inr ⟨Nat.le_of_ble_eq_true Y, Y⟩)<|bE h fun l h_l h=>QR 5 _ _ Y (by kernel_rfl) Y Y (fun h=>by cases h) (fun _=>by exact EL.ext (.wr rfl rfl rfl <| .keep <| .keep <| .keep <| .keep <| .nil)) (ZX (ov Y) (ZV (ov Y) tZ_44) Qy Y Y Y (fun _=>Zb Y) Y h_l)<|Dq 6 Y (Zi (ov Y) Y Y QC)<|QR 7 _ _ Y (by kernel_rfl) Y Y (fun h=>by cases h) (fun _=>by exact EL.ext (.wr rfl rfl rfl <| .keep <| .keep <| .keep <| .keep <| .nil)) (Zg (ov Y) (ov Y) (Zv J5) Y Y Y (Nat.le_of_ble_eq_true Y) (Zb Y) Y)<|Dd<|Zl<|K3 2 3 4 Y<|Tr<|Rq Y (Zn (ov Y) Y Y Y Zao Y Y)<|bE h fun y9 h_y9 h=>Rq Y (Ja (Xq h_y9) (.tuple<|by simp only [List.mem_cons, List.not_mem_nil, or_false, forall_eq_or_imp, forall_eq]; exact ⟨.int, .int⟩)<|.cons (ov Y) (View.aggL<|.cons (Dat.view<|.b Y)<|.cons (View.ownM Y Y D44) .nil) .nil)<|Rm Y<|Rq Y (Zo (ov Y) Y)<|Rq Y (Zo (ov Y) Y)<|Ra Y<|Ra Y<|Za<|K3 3 4 15 Y<|Tr<|Rm Y<|R2 Qp Y<|Za<|K4 3 4 15 78 Y<|If h Y (fun h=>?_) fun h=>?_
       ·
        refine K2 4 15 Y<|Tr<|Rq Y (Z7 (ys := [_, _, _, _, _, _, _, _]) Zby ZbA JZ .nil Y)<|Rm Y<|Rx Y (Zg (ov Y) (ov Y) (Zf Zw Y) Y Y Y (Nat.le_of_ble_eq_true Y) (Zb Y) Y)<|Ra Y<|Za<|?_
        obtain rfl := rt h
        exact Zk (Zp Y (.two (.agg Y Y Y Y Zw Y Y<|.cons (Dat.view<|.b Y)<|.cons (Dat.view<|.b Y)<|.cons (View.nils 64)<|.cons (Dat.view<|.b Y)<|.cons (Dat.view<|.b Y)<|.cons (Dat.view<|.b Y)<|.cons (Dat.view<|.b Y)<|.cons (View.nils 9) .nil)<|rb Y))
       ·
        refine Ze<|K2 3 4 Y<|Tr<|Rq Y (Zn (ov Y) Y Y Y Zw Y Y)<|Rx Y (Zg (ov Y) (ov Y) (Zf Zw Y) Y Y Y (Nat.le_of_ble_eq_true Y) (Zb Y) Y)<|Ra Y<|Za<|?_
        obtain rfl := rt h
        exact Zk (Zp Y (.two (.agg Y Y Y Y Zw Y Y<|pwB Y)<|rb Y))
     ·
      refine Dq 1 Y (Zm (ov Y) Y Y Y J5 Y)<|bE h fun y8 h_y8 h=>QR 2 _ _ Y (by kernel_rfl) Y Y (fun h=>by cases h) (fun _=>by exact EL.ext (.wr rfl rfl rfl <| .keep <| .keep <| .keep <| .keep <| .nil)) (QS [] (Zae h_y8) (.cons (ov Y) (.dat Y) .nil) .nil Y (.keep Y Y<|.keep Y Y<|.keep Y Y<|.keep Y Y<|.keep Y Y<|.lent 0 (.inr ⟨Nat.le_of_ble_eq_true Y, Y⟩) Y (roM D44) .nil) Y Y<|.own _<|.inr ⟨Nat.le_of_ble_eq_true Y, Y⟩)<|bE h fun l h_l h=>QR 5 _ _ Y (by kernel_rfl) Y Y (fun h=>by cases h) (fun _=>by exact EL.ext (.wr rfl rfl rfl <| .keep <| .keep <| .keep <| .keep <| .nil)) (ZX (ov Y) (ZV (ov Y) tZ_44) Qy Y Y Y (fun _=>Zb Y) Y h_l)<|Dq 6 Y (Zi (ov Y) Y Y QC)<|QR 7 _ _ Y (by kernel_rfl) Y Y (fun h=>by cases h) (fun _=>by exact EL.ext (.wr rfl rfl rfl <| .keep <| .keep <| .keep <| .keep <| .nil)) (Zg (ov Y) (ov Y) (Zv J5) Y Y Y (Nat.le_of_ble_eq_true Y) (Zb Y) Y)<|Dd<|Zl<|K3 2 3 4 Y<|Tr<|Rq Y (Zn (ov Y) Y Y Y Zao Y Y)<|bE h fun y9 h_y9 h=>Rq Y (Ja (Xq h_y9) (.tuple<|by simp only [List.mem_cons, List.not_mem_nil, or_false, forall_eq_or_imp, forall_eq]; exact ⟨.int, .int⟩)<|.cons (ov Y) (View.aggL<|.cons (Dat.view<|.b Y)<|.cons (View.ownM Y Y D44) .nil) .nil)<|Rm Y<|Rq Y (Zo (ov Y) Y)<|Rq Y (Zo (ov Y) Y)<|Ra Y<|Ra Y<|Za<|K3 3 4 15 Y<|Tr<|Rm Y<|R2 Qp Y<|Za<|K4 3 4 15 78 Y<|If h Y (fun h=>?_) fun h=>?_
      ·
       refine K2 4 15 Y<|Tr<|Rq Y (Z7 (ys := [_, _, _, _, _, _, _, _]) Zby ZbA JZ .nil Y)<|Rm Y<|Rx Y (Zg (ov Y) (ov Y) (Zf Zw Y) Y Y Y (Nat.le_of_ble_eq_true Y) (Zb Y) Y)<|Ra Y<|Za<|?_
       obtain rfl := rt h
       exact Zk (Zp Y (.two (.agg Y Y Y Y Zw Y Y<|.cons (Dat.view<|.b Y)<|.cons (Dat.view<|.b Y)<|.cons (View.nils 64)<|.cons (Dat.view<|.b Y)<|.cons (Dat.view<|.b Y)<|.cons (Dat.view<|.b Y)<|.cons (Dat.view<|.b Y)<|.cons (View.nils 9) .nil)<|rb Y))
      ·
       refine Ze<|K2 3 4 Y<|Tr<|Rq Y (Zn (ov Y) Y Y Y Zw Y Y)<|Rx Y (Zg (ov Y) (ov Y) (Zf Zw Y) Y Y Y (Nat.le_of_ble_eq_true Y) (Zb Y) Y)<|Ra Y<|Za<|?_
       obtain rfl := rt h
       exact Zk (Zp Y (.two (.agg Y Y Y Y Zw Y Y<|pwB Y)<|rb Y))
theorem QY {n : Int} {low : Int} {high : Int} {r : Bool} (h : QF n low high = some r) :
 CSpec Try.prog gl0 19 [.int .i64 n, .int .i64 low, .int .i64 high] (.bool r) := by
 unfold QF at h
 replace h := Qf h
 refine So Try.func19 Y fun w0 A=>Tr<|Ra Y<|Za<|Tr<|Rm Y<|Rm Y<|R2 ZM Y<|Rm Y<|Rq Y (.guarded ((decide (n < low)) == false) Y Y Y Y fun h => Zz<|ov Y)<|Rq Y (.guarded ((decide (n < low)) == false) Y Y Y Y fun h => Zz<|ov Y)<|Rq Y (.guarded ((decide (n < low)) == false) Y Y Y Y fun h => JC (ow Y h)<|ow Y h)<|Rq Y (Jk (ov Y) fun hp=>ow Y<|gF hp)<|Ra Y<|Za<|?_
 obtain rfl := rt h
 exact Zk (Zp Y (.one<|rb Y))
theorem ZdW {s : Str} {r : Bool} (h : Za2 s = some r) :
 CSpec Try.prog gl0 42 [.str s] (.bool r) := by
 unfold Za2 at h
 replace h := Qf h
 refine So Try.func42 Y fun w0 A=>Tr<|Ra Y<|Za<|J0 (fun j => (.inr j)) ⟨[(0, .str s)], []⟩ h (fun h=>?_) fun h=>?_
 ·
  refine K1 0 Y<|Tr<|Ra Y<|Za<|Zh<|?_
  obtain ⟨r1, hl1, ho1⟩ := QA h
  refine L1 (fun i=>⟨[(0, .str s), (3, .int .i64 i)], []⟩) hl1 (ES []) fun n1 i h=>?_
  unfold Jj at h
  refine Zl<|Tr<|Rm Y<|Rm Y<|Rq Y (ZdO (ov Y) Zgj Y)<|R2 ZM Y<|Za<|K3 0 3 8 Y<|If h Y (fun h=>?_) fun h=>?_
  ·
   refine Ze<|Zl<|Zh<|K2 0 3 Y<|Tr<|Rm Y<|Rm Y<|bE h fun b h_b h=>Rq Y (Zg0 (ov Y) (ov Y) Zgj h_b)<|Ra Y<|Za<|K3 0 3 4 Y<|Tr<|Rm Y<|R2 ZcB Y<|Rm Y<|Rq Y (.guarded ((decide (97 ≤ b)) == true) Y Y Y Y fun h => Zz<|ov Y)<|Rq Y (.guarded ((decide (97 ≤ b)) == true) Y Y Y Y fun h => ZdJ (ow Y h)<|ov Y)<|Rq Y (Xx (ov Y) fun hp=>ow Y<|gT hp)<|Rm Y<|Rq Y (.guarded (((decide (97 ≤ b)) && (decide (b ≤ 122))) == false) Y Y Y Y fun h => Zz<|ov Y)<|Rq Y (.guarded (((decide (97 ≤ b)) && (decide (b ≤ 122))) == false) Y Y Y Y fun h => JC (ow Y h)<|ov Y)<|Rq Y (.guarded (((decide (97 ≤ b)) && (decide (b ≤ 122))) == false) Y Y Y Y fun h => Zz<|ow Y h)<|Rq Y (.guarded2 ((((decide (97 ≤ b)) && (decide (b ≤ 122))) == false) && ((decide (0 < i)) == true)) Y Y Y Y fun h => Zz<|ov Y)<|Rq Y (.guarded2 ((((decide (97 ≤ b)) && (decide (b ≤ 122))) == false) && ((decide (0 < i)) == true)) Y Y Y Y fun h => ZcB (ow Y h)<|ov Y)<|Rq Y (.guarded2 ((((decide (97 ≤ b)) && (decide (b ≤ 122))) == false) && ((decide (0 < i)) == true)) Y Y Y Y fun h => Zz<|ow Y h)<|Rq Y (.guarded2 (((((decide (97 ≤ b)) && (decide (b ≤ 122))) == false) && ((decide (0 < i)) == true)) && ((decide (48 ≤ b)) == true)) Y Y Y Y fun h => Zz<|ov Y)<|Rq Y (.guarded2 (((((decide (97 ≤ b)) && (decide (b ≤ 122))) == false) && ((decide (0 < i)) == true)) && ((decide (48 ≤ b)) == true)) Y Y Y Y fun h => ZdJ (ow Y h)<|ov Y)<|Rq Y (.guarded2 ((((decide (97 ≤ b)) && (decide (b ≤ 122))) == false) && ((decide (0 < i)) == true)) Y Y Y Y fun h => Xx (ow Y h) fun hp=>ow Y<|gA h<|gT hp)<|Rq Y (.guarded2 ((((decide (97 ≤ b)) && (decide (b ≤ 122))) == false) && ((decide (0 < i)) == true)) Y Y Y Y fun h => Zz<|ow Y h)<|Rq Y (.guarded2 (((((decide (97 ≤ b)) && (decide (b ≤ 122))) == false) && ((decide (0 < i)) == true)) && (((decide (48 ≤ b)) && (decide (b ≤ 57))) == false)) Y Y Y Y fun h => Zz<|ov Y)<|Rq Y (.guarded2 (((((decide (97 ≤ b)) && (decide (b ≤ 122))) == false) && ((decide (0 < i)) == true)) && (((decide (48 ≤ b)) && (decide (b ≤ 57))) == false)) Y Y Y Y fun h => QZ (ow Y h)<|ov Y)<|Rq Y (.guarded2 ((((decide (97 ≤ b)) && (decide (b ≤ 122))) == false) && ((decide (0 < i)) == true)) Y Y Y Y fun h => Jk (ow Y h) fun hp=>ow Y<|gA h<|gF hp)<|Rq Y (.guarded (((decide (97 ≤ b)) && (decide (b ≤ 122))) == false) Y Y Y Y fun h => Xx (ow Y h) fun hp=>ow Y<|gA h<|gT hp)<|Rq Y (Jk (ov Y) fun hp=>ow Y<|gF hp)<|R1 Xy Y<|Za<|K3 0 3 36 Y<|If h Y (fun h=>?_) fun h=>?_
   ·
    refine K0<|Tr<|Ra Y<|Za<|?_
    replace h := lx h ▸ ho1
    obtain rfl := rt h
    exact Zk (Zp Y (.one<|rb Y))
   ·
    exact Ze<|K2 0 3 Y<|Zy<|Rm Y<|R2 Z5 Y<|Ra Y<|Za<|⟨_, h, ES []⟩
  ·
   refine ZC<|?_
   replace h := lx h ▸ ho1
   exact ⟨(), h, ES []⟩
 ·
  replace h := elr h
  replace h := t0i h
  refine Tr<|Rm Y<|Rq Y (ZdO (ov Y) Zgj Y)<|R2 ZcB Y<|Rm Y<|Rq Y (.guarded ((decide (1 ≤ (s.length : Int))) == true) Y Y Y Y fun h => Zz<|ov Y)<|Rq Y (.guarded ((decide (1 ≤ (s.length : Int))) == true) Y Y Y Y fun h => ZdO (ow Y h) Zgj Y)<|Rq Y (.guarded ((decide (1 ≤ (s.length : Int))) == true) Y Y Y Y fun h => ZdJ (ow Y h)<|ov Y)<|Rq Y (Xx (ov Y) fun hp=>ow Y<|gT hp)<|Ra Y<|Za<|?_
  obtain rfl := rt h
  exact Zk (Zp Y (.one<|rb Y))
theorem Zfr {p : api_Param} {r : Int} (h : Zc6 p = some r) :
 CSpec Try.prog gl0 65 [.agg [.str p.Name, .int .i64 p.Kind, .sl 64 (List.map R64 p.Parts), .int .i64 p.First, .int .i64 p.Every, .int .i64 p.Times, .int .i64 p.Step, .sl 9 (List.map R9 p.Names)]] (.int .i64 r) := by
 unfold Zc6 at h
 replace h := Qf h
 refine So Try.func65 Y fun w0 A=>Tr<|Rq Y (ZY (cva<|ov Y) Y tZ_44 Y)<|Ra Y<|Za<|K1 1 Y<|Tr<|Ra Y<|Za<|I1 (fun n=>⟨[(3, .int .i64 n)], []⟩) h (fun h=>?_) fun n h=>?_
 ·
  refine Tr<|Rq Y (Zd (ov Y) Q4)<|Rq Y (Zc (ov Y) Zbv Y)<|Rl tZ_64 Xs Y<|Rm Y<|Za<|Zh<|?_
  obtain ⟨r1, hl1, ho1⟩ := QA h
  refine L2 (fun n2 i=>⟨[(3, .int .i64 n2), (7, .sl 64 (List.map R64 p.Parts)), (8, .int .i64 (p.Parts.length : Int)), (9, .int .i64 i)], []⟩) hl1 (ES []) fun n1 n2 i h=>?_
  unfold Zfy at h
  refine Tr<|R2 ZM Y<|Za<|Zl<|If h Y (fun h=>?_) fun h=>?_
  ·
   exact Ze<|Zl<|Zh<|K4 3 7 8 9 Y<|Tr<|bE h fun x h_x h=>Rq Y (ZE (ov Y) (ov Y) Xs h_x)<|Rq Y (Zj (ov Y) X8 Y Y)<|Rx Y (Zs (row := [_, _, _, _]) 0 Y ZeR Y tZ_64)<|Rx Y (Zg (ov Y) (ov Y) (Zf X8 Y) Y Y Y (Nat.le_of_ble_eq_true Y) (Zb Y) Y)<|Za<|K5 3 5 7 8 9 Y<|Zy<|Rm Y<|Rq Y (Zi (ov Y) Y Y Zdm)<|Rq Y (Zm (ov Y) Y Y Y tS3 Y)<|R2 Z5 Y<|Ra Y<|Za<|K4 3 7 8 9 Y<|Zy<|R2 Z5 Y<|Rm Y<|Za<|⟨_, h, ES []⟩
  ·
   refine ZC<|?_
   replace h := lx h ▸ ho1
   exact ⟨_, h, ES []⟩
 ·
  refine Tr<|Rm Y<|Ra Y<|Za<|?_
  obtain rfl := rt h
  exact Zk (Zp Y (.one<|rb Y))
theorem Ze1 {p : api_Param} {r : Int} (h : JB p = some r) :
 CSpec Try.prog gl0 43 [.agg [.str p.Name, .int .i64 p.Kind, .sl 64 (List.map R64 p.Parts), .int .i64 p.First, .int .i64 p.Every, .int .i64 p.Times, .int .i64 p.Step, .sl 9 (List.map R9 p.Names)]] (.int .i64 r) := by
 unfold JB at h
 replace h := Qf h
 refine So Try.func43 Y fun w0 A=>Tr<|Rq Y (ZY (cva<|ov Y) Y tZ_44 Y)<|Ra Y<|Za<|Zl<|K1 1 Y<|Tr<|Rq Y (Zd (ov Y) Q4)<|Rq Y (Zc (ov Y) Zbv Y)<|Rl tZ_64 Xs Y<|R2 QZ Y<|Za<|K2 1 8 Y<|If h Y (fun h=>?_) fun h=>?_
 ·
  refine K0<|Tr<|Ra Y<|Za<|?_
  obtain rfl := rt h
  exact Zk (Zp Y (.one<|rb Y))
 ·
  refine Ze<|Zl<|K1 1 Y<|Tr<|Rq Y (Zd (ov Y) Q4)<|Rq Y (Zc (ov Y) Zbv Y)<|Rl tZ_64 Xs Y<|R2 JC Y<|Za<|K2 1 12 Y<|If h Y (fun h=>?_) fun h=>?_
  ·
   refine K0<|Tr<|Ra Y<|Za<|?_
   obtain rfl := rt h
   exact Zk (Zp Y (.one<|rb Y))
  ·
   refine Ze<|J0 (fun j => (.inr j)) ⟨[(1, .rp [.str p.Name, .int .i64 p.Kind, .sl 64 (List.map R64 p.Parts), .int .i64 p.First, .int .i64 p.Every, .int .i64 p.Times, .int .i64 p.Step, .sl 9 (List.map R9 p.Names)] 0)], []⟩ h (fun h=>?_) fun h=>?_
   ·
    refine K1 1 Y<|Tr<|Rq Y (Zd (ov Y) Q4)<|Rq Y (Zc (ov Y) Zbv Y)<|Rl tZ_64 Xs Y<|Rm Y<|Za<|Zh<|?_
    obtain ⟨r1, hl1, ho1⟩ := QA h
    refine L1 (fun i=>⟨[(1, .rp [.str p.Name, .int .i64 p.Kind, .sl 64 (List.map R64 p.Parts), .int .i64 p.First, .int .i64 p.Every, .int .i64 p.Times, .int .i64 p.Step, .sl 9 (List.map R9 p.Names)] 0), (14, .sl 64 (List.map R64 p.Parts)), (15, .int .i64 (p.Parts.length : Int)), (16, .int .i64 i)], []⟩) hl1 (ES []) fun n1 i h=>?_
    unfold Jq at h
    refine Tr<|R2 ZM Y<|Za<|Zl<|If h Y (fun h=>?_) fun h=>?_
    ·
     refine Ze<|Zl<|Zh<|K4 1 14 15 16 Y<|Tr<|bE h fun x h_x h=>Rq Y (ZE (ov Y) (ov Y) Xs h_x)<|Rq Y (Zj (ov Y) X8 Y Y)<|Rx Y (Zs (row := [_, _, _, _]) 0 Y ZeR Y tZ_64)<|Rx Y (Zg (ov Y) (ov Y) (Zf X8 Y) Y Y Y (Nat.le_of_ble_eq_true Y) (Zb Y) Y)<|Za<|K5 1 4 14 15 16 Y<|Tr<|Rq Y (Zi (ov Y) Y Y Ze2)<|Rq Y (Zm (ov Y) Y Y Y tS3 Y)<|bE h fun y h_y h=>Rq Y (Zr (QY h_y)<|.cons (ov Y) (.b Y)<|.cons (ov Y) (.b Y)<|.cons (ov Y) (.b Y) .nil)<|Rm Y<|Rq Y (.guarded (y == false) Y Y Y Y fun h => Zi (ov Y) Y Y Zb9)<|Rq Y (.guarded (y == false) Y Y Y Y fun h => Zm (ow Y h) Y Y Y tS3 Y)<|bE h fun y2 h_y2 h=>Rq Y (.guarded (y == false) Y Y Y Y fun h => Zr (QY<|gdT h_y2 h)<|.cons (ow Y h) (.b Y)<|.cons (ov Y) (.b Y)<|.cons (ov Y) (.b Y) .nil)<|Rq Y (Jk (ov Y) fun hp=>ow Y<|gF hp)<|Rm Y<|Rq Y (.guarded ((y || y2) == false) Y Y Y Y fun h => Zi (ov Y) Y Y Zcd)<|Rq Y (.guarded ((y || y2) == false) Y Y Y Y fun h => Zm (ow Y h) Y Y Y tS3 Y)<|bE h fun y3 h_y3 h=>Rq Y (.guarded ((y || y2) == false) Y Y Y Y fun h => Zr (QY<|gdT h_y3 h)<|.cons (ow Y h) (.b Y)<|.cons (ov Y) (.b Y)<|.cons (ov Y) (.b Y) .nil)<|Rq Y (Jk (ov Y) fun hp=>ow Y<|gF hp)<|Rm Y<|Rq Y (.guarded (((y || y2) || y3) == false) Y Y Y Y fun h => Zi (ov Y) Y Y Zdm)<|Rq Y (.guarded (((y || y2) || y3) == false) Y Y Y Y fun h => Zm (ow Y h) Y Y Y tS3 Y)<|Rq Y (.guarded (((y || y2) || y3) == false) Y Y Y Y fun h => Zi (ov Y) Y Y Zcd)<|Rq Y (.guarded (((y || y2) || y3) == false) Y Y Y Y fun h => Zm (ow Y h) Y Y Y tS3 Y)<|Rq Y (.guarded (((y || y2) || y3) == false) Y Y Y Y fun h => Zhv (ov Y) (ow Y h) Y)<|bE h fun y4 h_y4 h=>Rq Y (.guarded (((y || y2) || y3) == false) Y Y Y Y fun h => Zr (QY<|gdT h_y4 h)<|.cons (ow Y h) (.b Y)<|.cons (ov Y) (.b Y)<|.cons (ow Y h) (.b Y) .nil)<|Rq Y (Jk (ov Y) fun hp=>ow Y<|gF hp)<|Za<|K5 1 14 15 16 40 Y<|If h Y (fun h=>?_) fun h=>?_
     ·
      refine K0<|Tr<|Ra Y<|Za<|?_
      replace h := lx h ▸ ho1
      obtain rfl := rt h
      exact Zk (Zp Y (.one<|rb Y))
     ·
      exact Ze<|K4 1 14 15 16 Y<|Zy<|R2 Z5 Y<|Rm Y<|Za<|⟨_, h, ES []⟩
    ·
     refine ZC<|?_
     replace h := lx h ▸ ho1
     exact ⟨(), h, ES []⟩
   ·
    replace h := elr h
    replace h := t0i h
    refine Zl<|Tr<|Rq Y (Zj (ov Y) Zw Y Y)<|bE h fun y5 h_y5 h=>Rq Y (Zr (Zfr h_y5)<|.cons (ov Y) (.aggB Y) .nil)<|R2 JC Y<|Za<|K1 44 Y<|If h Y (fun h=>?_) fun h=>?_
    ·
     refine K0<|Tr<|Ra Y<|Za<|?_
     obtain rfl := rt h
     exact Zk (Zp Y (.one<|rb Y))
    ·
     refine Ze<|K0<|Tr<|Ra Y<|Za<|?_
     obtain rfl := rt h
     exact Zk (Zp Y (.one<|rb Y))
theorem Zcv {p : api_Param} {r : Int} (h : XS p = some r) :
 CSpec Try.prog gl0 44 [.agg [.str p.Name, .int .i64 p.Kind, .sl 64 (List.map R64 p.Parts), .int .i64 p.First, .int .i64 p.Every, .int .i64 p.Times, .int .i64 p.Step, .sl 9 (List.map R9 p.Names)]] (.int .i64 r) := by
 unfold XS at h
 replace h := Qf h
 refine So Try.func44 Y fun w0 A=>Tr<|Rq Y (ZY (cva<|ov Y) Y tZ_44 Y)<|Ra Y<|Za<|J0 (fun j => (.inr j)) ⟨[(1, .rp [.str p.Name, .int .i64 p.Kind, .sl 64 (List.map R64 p.Parts), .int .i64 p.First, .int .i64 p.Every, .int .i64 p.Times, .int .i64 p.Step, .sl 9 (List.map R9 p.Names)] 0)], []⟩ h (fun h=>?_) fun h=>?_
 ·
  refine K1 1 Y<|Tr<|Rq Y (Zd (ov Y) ZdS)<|Rq Y (Zc (ov Y) tS3 Y)<|Za<|Zh<|Zl<|K2 1 6 Y<|Tr<|R2 QZ Y<|Ra Y<|Za<|K3 1 6 7 Y<|ZkD h Y (fun b7 h=>?_) fun b7 h=>?_
  ·
   refine Ze<|K2 1 7 Y<|If h Y (fun h=>?_) fun h=>?_
   ·
    exact Ze<|⟨(), h, ES []⟩
   ·
    refine K0<|Tr<|Ra Y<|Za<|?_
    obtain rfl := rt h
    exact Zk (Zp Y (.one<|rb Y))
  ·
   refine Tr<|R2 QZ Y<|Ra Y<|Za<|K3 1 6 7 Y<|ZkD h Y (fun b7 h=>?_) fun b7 h=>?_
   ·
    refine Ze<|K2 1 7 Y<|If h Y (fun h=>?_) fun h=>?_
    ·
     exact Ze<|⟨(), h, ES []⟩
    ·
     refine K0<|Tr<|Ra Y<|Za<|?_
     obtain rfl := rt h
     exact Zk (Zp Y (.one<|rb Y))
   ·
    refine Tr<|R2 QZ Y<|Ra Y<|Za<|K3 1 6 7 Y<|ZkD h Y (fun b7 h=>?_) fun b7 h=>?_
    ·
     refine Ze<|K2 1 7 Y<|If h Y (fun h=>?_) fun h=>?_
     ·
      exact Ze<|⟨(), h, ES []⟩
     ·
      refine K0<|Tr<|Ra Y<|Za<|?_
      obtain rfl := rt h
      exact Zk (Zp Y (.one<|rb Y))
    ·
     refine Tr<|R2 QZ Y<|Ra Y<|Za<|K3 1 6 7 Y<|ZkD h Y (fun b7 h=>?_) fun b7 h=>?_
     ·
      refine Ze<|K2 1 7 Y<|If h Y (fun h=>?_) fun h=>?_
      ·
       exact Ze<|⟨(), h, ES []⟩
      ·
       refine K0<|Tr<|Ra Y<|Za<|?_
       obtain rfl := rt h
       exact Zk (Zp Y (.one<|rb Y))
     ·
      refine Zy<|R2 QZ Y<|Ra Y<|Za<|K2 1 7 Y<|If h Y (fun h=>?_) fun h=>?_
      ·
       exact Ze<|⟨(), h, ES []⟩
      ·
       refine K0<|Tr<|Ra Y<|Za<|?_
       obtain rfl := rt h
       exact Zk (Zp Y (.one<|rb Y))
 ·
  replace h := elr h
  replace h := t0i h
  refine Zl<|Tr<|Rq Y (Zd (ov Y) ZfY)<|Rq Y (Zc (ov Y) tS3 Y)<|Rq Y (Zd (ov Y) ZdS)<|Rq Y (Zc (ov Y) tS3 Y)<|R2 Zdo Y<|bE h fun y h_y h=>Rq Y (Zr (QY h_y)<|.cons (ov Y) (.b Y)<|.cons (ov Y) (.b Y)<|.cons (ov Y) (.b Y) .nil)<|Rm Y<|Rq Y (.guarded (y == false) Y Y Y Y fun h => Zd (ov Y) ZaQ)<|Rq Y (.guarded (y == false) Y Y Y Y fun h => Zc (ow Y h) tS3 Y)<|bE h fun y2 h_y2 h=>Rq Y (.guarded (y == false) Y Y Y Y fun h => Zr (QY<|gdT h_y2 h)<|.cons (ow Y h) (.b Y)<|.cons (ov Y) (.b Y)<|.cons (ov Y) (.b Y) .nil)<|Rq Y (Jk (ov Y) fun hp=>ow Y<|gF hp)<|Rm Y<|Rq Y (.guarded ((y || y2) == false) Y Y Y Y fun h => Zd (ov Y) Zbp)<|Rq Y (.guarded ((y || y2) == false) Y Y Y Y fun h => Zc (ow Y h) tS3 Y)<|Rq Y (.guarded ((y || y2) == false) Y Y Y Y fun h => ZM (ow Y h)<|ov Y)<|Rq Y (Jk (ov Y) fun hp=>ow Y<|gF hp)<|Rm Y<|Rq Y (.guarded (((y || y2) || (decide (p.Step < 0))) == false) Y Y Y Y fun h => Zd (ov Y) Zbp)<|Rq Y (.guarded (((y || y2) || (decide (p.Step < 0))) == false) Y Y Y Y fun h => Zc (ow Y h) tS3 Y)<|Rq Y (.guarded (((y || y2) || (decide (p.Step < 0))) == false) Y Y Y Y fun h => QZ (ow Y h)<|ov Y)<|Rq Y (.guarded (((y || y2) || (decide (p.Step < 0))) == false) Y Y Y Y fun h => Zd (ov Y) ZaQ)<|Rq Y (.guarded (((y || y2) || (decide (p.Step < 0))) == false) Y Y Y Y fun h => Zc (ow Y h) tS3 Y)<|Rq Y (.guarded (((y || y2) || (decide (p.Step < 0))) == false) Y Y Y Y fun h => QZ (ow Y h)<|ov Y)<|Rq Y (.guarded (((y || y2) || (decide (p.Step < 0))) == false) Y Y Y Y fun h => ZiF .neq (by simp) (ow Y h) (ow Y h) tB4)<|Rq Y (Jk (ov Y) fun hp=>ow Y<|gF hp)<|Za<|K2 1 37 Y<|If h Y (fun h=>?_) fun h=>?_
  ·
   refine K0<|Tr<|Ra Y<|Za<|?_
   obtain rfl := rt h
   exact Zk (Zp Y (.one<|rb Y))
  ·
   refine Ze<|J0 (fun j => (.inr j)) ⟨[], []⟩ h (fun h=>?_) fun h=>?_
   ·
    refine K1 1 Y<|Tr<|Rq Y (Zd (ov Y) Q4)<|Rq Y (Zc (ov Y) Zbv Y)<|Rl tZ_64 Xs Y<|Rm Y<|Za<|Zh<|?_
    obtain ⟨r1, hl1, ho1⟩ := QA h
    refine L1 (fun i=>⟨[(1, .rp [.str p.Name, .int .i64 p.Kind, .sl 64 (List.map R64 p.Parts), .int .i64 p.First, .int .i64 p.Every, .int .i64 p.Times, .int .i64 p.Step, .sl 9 (List.map R9 p.Names)] 0), (39, .sl 64 (List.map R64 p.Parts)), (40, .int .i64 (p.Parts.length : Int)), (41, .int .i64 i)], []⟩) hl1 (ES []) fun n1 i h=>?_
    unfold XB at h
    refine Tr<|R2 ZM Y<|Za<|Zl<|If h Y (fun h=>?_) fun h=>?_
    ·
     refine Ze<|Zl<|Zh<|K4 1 39 40 41 Y<|Tr<|bE h fun x h_x h=>Rq Y (ZE (ov Y) (ov Y) Xs h_x)<|Rq Y (Zj (ov Y) X8 Y Y)<|Rx Y (Zs (row := [_, _, _, _]) 0 Y ZeR Y tZ_64)<|Rx Y (Zg (ov Y) (ov Y) (Zf X8 Y) Y Y Y (Nat.le_of_ble_eq_true Y) (Zb Y) Y)<|Za<|K5 1 4 39 40 41 Y<|Tr<|Rq Y (Zd (ov Y) ZaQ)<|Rq Y (Zc (ov Y) tS3 Y)<|R2 JC Y<|Rm Y<|Rq Y (.guarded ((decide (1 < p.Times)) == true) Y Y Y Y fun h => Zd (ov Y) Zbp)<|Rq Y (.guarded ((decide (1 < p.Times)) == true) Y Y Y Y fun h => Zc (ow Y h) tS3 Y)<|Rq Y (.guarded ((decide (1 < p.Times)) == true) Y Y Y Y fun h => JC (ow Y h)<|ov Y)<|Rq Y (Xx (ov Y) fun hp=>ow Y<|gT hp)<|Rm Y<|Rq Y (.guarded (((decide (1 < p.Times)) && (decide (57 < p.Step))) == false) Y Y Y Y fun h => Zi (ov Y) Y Y Zb9)<|Rq Y (.guarded (((decide (1 < p.Times)) && (decide (57 < p.Step))) == false) Y Y Y Y fun h => Zm (ow Y h) Y Y Y tS3 Y)<|Rq Y (.guarded (((decide (1 < p.Times)) && (decide (57 < p.Step))) == false) Y Y Y Y fun h => Zd (ov Y) ZaQ)<|Rq Y (.guarded (((decide (1 < p.Times)) && (decide (57 < p.Step))) == false) Y Y Y Y fun h => Zc (ow Y h) tS3 Y)<|Rq Y (.guarded (((decide (1 < p.Times)) && (decide (57 < p.Step))) == false) Y Y Y Y fun h => Zhv (ow Y h) (ov Y) Y)<|Rq Y (.guarded (((decide (1 < p.Times)) && (decide (57 < p.Step))) == false) Y Y Y Y fun h => Zd (ov Y) Zbp)<|Rq Y (.guarded (((decide (1 < p.Times)) && (decide (57 < p.Step))) == false) Y Y Y Y fun h => Zc (ow Y h) tS3 Y)<|Rq Y (.guarded (((decide (1 < p.Times)) && (decide (57 < p.Step))) == false) Y Y Y Y fun h => Zle (ow Y h) (ow Y h) Y)<|Rq Y (.guarded (((decide (1 < p.Times)) && (decide (57 < p.Step))) == false) Y Y Y Y fun h => Zjp (ow Y h) (ow Y h) Y)<|Rq Y (.guarded (((decide (1 < p.Times)) && (decide (57 < p.Step))) == false) Y Y Y Y fun h => JC (ow Y h)<|ov Y)<|Rq Y (Jk (ov Y) fun hp=>ow Y<|gF hp)<|Za<|K5 1 39 40 41 64 Y<|If h Y (fun h=>?_) fun h=>?_
     ·
      refine K0<|Tr<|Ra Y<|Za<|?_
      replace h := lx h ▸ ho1
      obtain rfl := rt h
      exact Zk (Zp Y (.one<|rb Y))
     ·
      exact Ze<|K4 1 39 40 41 Y<|Zy<|R2 Z5 Y<|Rm Y<|Za<|⟨_, h, ES []⟩
    ·
     refine ZC<|?_
     replace h := lx h ▸ ho1
     exact ⟨(), h, ES []⟩
   ·
    replace h := elr h
    replace h := t0i h
    refine Tr<|Ra Y<|Za<|?_
    obtain rfl := rt h
    exact Zk (Zp Y (.one<|rb Y))
theorem ZfG {p : api_Param} {r : Int} (h : JW p = some r) :
 CSpec Try.prog gl0 45 [.agg [.str p.Name, .int .i64 p.Kind, .sl 64 (List.map R64 p.Parts), .int .i64 p.First, .int .i64 p.Every, .int .i64 p.Times, .int .i64 p.Step, .sl 9 (List.map R9 p.Names)]] (.int .i64 r) := by
 unfold JW at h
 replace h := Qf h
 refine So Try.func45 Y fun w0 A=>Tr<|Rq Y (ZY (cva<|ov Y) Y tZ_44 Y)<|Ra Y<|Za<|K1 1 Y<|Tr<|Rq Y (Zj (ov Y) Zw Y Y)<|bE h fun y h_y h=>Rq Y (Zr (Zfr h_y)<|.cons (ov Y) (.aggB Y) .nil)<|Ra Y<|Za<|Zl<|K2 1 3 Y<|Tr<|Rq Y (Zd (ov Y) ZaR)<|Rq Y (Zc (ov Y) tS3 Y)<|R2 QZ Y<|Rm Y<|Rq Y (.guarded ((decide (p.Kind = 4)) == true) Y Y Y Y fun h => Zz<|ov Y)<|bE h fun q h_q h=>Rq Y (.guarded ((decide (p.Kind = 4)) == true) Y Y Y Y fun h => Zh0 (ow Y h) (ov Y)<|gdT h_q h)<|Rq Y (.guarded ((decide (p.Kind = 4)) == true) Y Y Y Y fun h => Qp (ow Y h)<|ov Y)<|Rq Y (Xx (ov Y) fun hp=>ow Y<|gT hp)<|Rm Y<|Rq Y (.guarded (((decide (p.Kind = 4)) && (!decide (q = 0))) == false) Y Y Y Y fun h => Zd (ov Y) ZaR)<|Rq Y (.guarded (((decide (p.Kind = 4)) && (!decide (q = 0))) == false) Y Y Y Y fun h => Zc (ow Y h) tS3 Y)<|Rq Y (.guarded (((decide (p.Kind = 4)) && (!decide (q = 0))) == false) Y Y Y Y fun h => QZ (ow Y h)<|ov Y)<|Rq Y (.guarded (((decide (p.Kind = 4)) && (!decide (q = 0))) == false) Y Y Y Y fun h => Zz<|ow Y h)<|Rq Y (.guarded2 ((((decide (p.Kind = 4)) && (!decide (q = 0))) == false) && ((decide (p.Kind = 5)) == true)) Y Y Y Y fun h => Zz<|ov Y)<|Rq Y (.guarded2 ((((decide (p.Kind = 4)) && (!decide (q = 0))) == false) && ((decide (p.Kind = 5)) == true)) Y Y Y Y fun h => Qp (ow Y h)<|ov Y)<|Rq Y (.guarded (((decide (p.Kind = 4)) && (!decide (q = 0))) == false) Y Y Y Y fun h => Xx (ow Y h) fun hp=>ow Y<|gA h<|gT hp)<|Rq Y (Jk (ov Y) fun hp=>ow Y<|gF hp)<|Rm Y<|Rq Y (.guarded ((((decide (p.Kind = 4)) && (!decide (q = 0))) || ((decide (p.Kind = 5)) && (!decide (y = 1)))) == false) Y Y Y Y fun h => Zd (ov Y) ZaR)<|Rq Y (.guarded ((((decide (p.Kind = 4)) && (!decide (q = 0))) || ((decide (p.Kind = 5)) && (!decide (y = 1)))) == false) Y Y Y Y fun h => Zc (ow Y h) tS3 Y)<|Rq Y (.guarded ((((decide (p.Kind = 4)) && (!decide (q = 0))) || ((decide (p.Kind = 5)) && (!decide (y = 1)))) == false) Y Y Y Y fun h => QZ (ow Y h)<|ov Y)<|Rq Y (.guarded ((((decide (p.Kind = 4)) && (!decide (q = 0))) || ((decide (p.Kind = 5)) && (!decide (y = 1)))) == false) Y Y Y Y fun h => Zz<|ow Y h)<|Rq Y (.guarded2 (((((decide (p.Kind = 4)) && (!decide (q = 0))) || ((decide (p.Kind = 5)) && (!decide (y = 1)))) == false) && ((decide (p.Kind = 2)) == false)) Y Y Y Y fun h => Zd (ov Y) ZaR)<|Rq Y (.guarded2 (((((decide (p.Kind = 4)) && (!decide (q = 0))) || ((decide (p.Kind = 5)) && (!decide (y = 1)))) == false) && ((decide (p.Kind = 2)) == false)) Y Y Y Y fun h => Zc (ow Y h) tS3 Y)<|Rq Y (.guarded2 (((((decide (p.Kind = 4)) && (!decide (q = 0))) || ((decide (p.Kind = 5)) && (!decide (y = 1)))) == false) && ((decide (p.Kind = 2)) == false)) Y Y Y Y fun h => QZ (ow Y h)<|ov Y)<|Rq Y (.guarded ((((decide (p.Kind = 4)) && (!decide (q = 0))) || ((decide (p.Kind = 5)) && (!decide (y = 1)))) == false) Y Y Y Y fun h => Jk (ow Y h) fun hp=>ow Y<|gA h<|gF hp)<|Rq Y (.guarded ((((decide (p.Kind = 4)) && (!decide (q = 0))) || ((decide (p.Kind = 5)) && (!decide (y = 1)))) == false) Y Y Y Y fun h => Zz<|ow Y h)<|Rq Y (.guarded2 (((((decide (p.Kind = 4)) && (!decide (q = 0))) || ((decide (p.Kind = 5)) && (!decide (y = 1)))) == false) && (((decide (p.Kind = 2)) || (decide (p.Kind = 3))) == true)) Y Y Y Y fun h => Zz<|ov Y)<|Rq Y (.guarded2 (((((decide (p.Kind = 4)) && (!decide (q = 0))) || ((decide (p.Kind = 5)) && (!decide (y = 1)))) == false) && (((decide (p.Kind = 2)) || (decide (p.Kind = 3))) == true)) Y Y Y Y fun h => QZ (ow Y h)<|ov Y)<|Rq Y (.guarded ((((decide (p.Kind = 4)) && (!decide (q = 0))) || ((decide (p.Kind = 5)) && (!decide (y = 1)))) == false) Y Y Y Y fun h => Xx (ow Y h) fun hp=>ow Y<|gA h<|gT hp)<|Rq Y (Jk (ov Y) fun hp=>ow Y<|gF hp)<|Za<|K3 1 3 40 Y<|If h Y (fun h=>?_) fun h=>?_
 ·
  refine K0<|Tr<|Ra Y<|Za<|?_
  obtain rfl := rt h
  exact Zk (Zp Y (.one<|rb Y))
 ·
  refine Ze<|Zl<|K2 1 3 Y<|Tr<|Rq Y (Zd (ov Y) ZaR)<|Rq Y (Zc (ov Y) tS3 Y)<|R2 Qp Y<|Za<|K3 1 3 43 Y<|If h Y (fun h=>?_) fun h=>?_
  ·
   refine Zl<|K1 1 Y<|Tr<|Rq Y (Zd (ov Y) JI)<|Rq Y (Zc (ov Y) Zdj Y)<|Rl tZ_9 ZbX Y<|R2 JC Y<|Za<|K1 47 Y<|If h Y (fun h=>?_) fun h=>?_
   ·
    refine K0<|Tr<|Ra Y<|Za<|?_
    obtain rfl := rt h
    exact Zk (Zp Y (.one<|rb Y))
   ·
    refine Ze<|K0<|Tr<|Ra Y<|Za<|?_
    obtain rfl := rt h
    exact Zk (Zp Y (.one<|rb Y))
  ·
   refine Ze<|Zl<|K2 1 3 Y<|Tr<|Rq Y (Zd (ov Y) JI)<|Rq Y (Zc (ov Y) Zdj Y)<|Rl tZ_9 ZbX Y<|R2 QZ Y<|Za<|K3 1 3 51 Y<|If h Y (fun h=>?_) fun h=>?_
   ·
    refine K0<|Tr<|Ra Y<|Za<|?_
    obtain rfl := rt h
    exact Zk (Zp Y (.one<|rb Y))
   ·
    refine Ze<|Zl<|K2 1 3 Y<|Td md0<|Dq 0 Y (Zd (ov Y) JI)<|Dq 1 Y (Zc (ov Y) Zdj Y)<|Dq 2 Y (ZeJ (ZV (ov Y) tZ_9) ZbX<|ZbU _ _)<|D2 3 JC Y<|D1 4 Zz Y<|Dq 5 Y (.guarded ((decide (64 < (p.Names.length : Int))) == false) Y Y Y Y fun h => Zd (ov Y) JI)<|Dq 6 Y (.guarded ((decide (64 < (p.Names.length : Int))) == false) Y Y Y Y fun h => Zc (ow Y h) Zdj Y)<|Dq 7 Y (.guarded ((decide (64 < (p.Names.length : Int))) == false) Y Y Y Y fun h => ZeJ (ZV (ow Y h) tZ_9) ZbX<|ZbU _ _)<|Dq 8 Y (.guarded ((decide (64 < (p.Names.length : Int))) == false) Y Y Y Y fun h => Zz<|ov Y)<|bE h fun q2 h_q2 h=>Dq 9 Y (.guarded ((decide (64 < (p.Names.length : Int))) == false) Y Y Y Y fun h => Zec (ov Y) (ow Y h)<|gdT h_q2 h)<|Dq 10 Y (.guarded ((decide (64 < (p.Names.length : Int))) == false) Y Y Y Y fun h => JC (ow Y h)<|ow Y h)<|Dq 11 Y (Jk (ov Y) fun hp=>ow Y<|gF hp)<|Dd<|K2 1 63 Y<|If h Y (fun h=>?_) fun h=>?_
    ·
     refine K0<|Tr<|Ra Y<|Za<|?_
     obtain rfl := rt h
     exact Zk (Zp Y (.one<|rb Y))
    ·
     refine Ze<|J0 (fun j => (.inr j)) ⟨[], []⟩ h (fun h=>?_) fun h=>?_
     ·
      refine K1 1 Y<|Tr<|Rq Y (Zd (ov Y) JI)<|Rq Y (Zc (ov Y) Zdj Y)<|Rl tZ_9 ZbX Y<|Rm Y<|Za<|Zh<|?_
      obtain ⟨r1, hl1, ho1⟩ := QA h
      refine L1 (fun i=>⟨[(1, .rp [.str p.Name, .int .i64 p.Kind, .sl 64 (List.map R64 p.Parts), .int .i64 p.First, .int .i64 p.Every, .int .i64 p.Times, .int .i64 p.Step, .sl 9 (List.map R9 p.Names)] 0), (65, .sl 9 (List.map R9 p.Names)), (66, .int .i64 (p.Names.length : Int)), (67, .int .i64 i)], []⟩) hl1 (ES []) fun n1 i h=>?_
      unfold XZ at h
      refine Tr<|R2 ZM Y<|Za<|Zl<|If h Y (fun h=>?_) fun h=>?_
      ·
       refine Ze<|J0 (fun j => (.inr j)) ⟨[(1, .rp [.str p.Name, .int .i64 p.Kind, .sl 64 (List.map R64 p.Parts), .int .i64 p.First, .int .i64 p.Every, .int .i64 p.Times, .int .i64 p.Step, .sl 9 (List.map R9 p.Names)] 0), (65, .sl 9 (List.map R9 p.Names)), (66, .int .i64 (p.Names.length : Int)), (67, .int .i64 i)], []⟩ h (fun h=>?_) fun h=>?_
       ·
        refine Zh<|K4 1 65 66 67 Y<|Tr<|Rm Y<|bE h fun x h_x h=>Rq Y (ZE (ov Y) (ov Y) ZbX h_x)<|Rq Y (Zc (ov Y) tS9 Y)<|Ra Y<|Ra Y<|Za<|Zl<|K6 1 4 5 65 66 67 Y<|Tr<|Rm Y<|bE h fun y2 h_y2 h=>Rq Y (Zr (ZdW h_y2)<|.cons (ov Y) (.b Y) .nil)<|R1 Xy Y<|Za<|K7 1 4 5 65 66 67 74 Y<|If h Y (fun h=>?_) fun h=>?_
        ·
         refine K0<|Tr<|Ra Y<|Za<|?_
         replace h := lx h ▸ ho1
         obtain rfl := rt h
         exact Zk (Zp Y (.one<|rb Y))
        ·
         refine Ze<|K6 1 4 5 65 66 67 Y<|Tr<|Rq Y (Zd (ov Y) JI)<|Rq Y (Zc (ov Y) Zdj Y)<|Rm Y<|bE h fun l h_l h=>Rq Y (Zff (ov Y) ZbX on (oi<|ov Y) h_l)<|Rl tZ_9 ZbX Y<|Rm Y<|Za<|Zh<|?_
         obtain ⟨r2, hl2, ho2⟩ := QA h
         refine L1 (fun i2=>⟨[(1, .rp [.str p.Name, .int .i64 p.Kind, .sl 64 (List.map R64 p.Parts), .int .i64 p.First, .int .i64 p.Every, .int .i64 p.Times, .int .i64 p.Step, .sl 9 (List.map R9 p.Names)] 0), (5, .str x), (65, .sl 9 (List.map R9 p.Names)), (66, .int .i64 (p.Names.length : Int)), (67, .int .i64 i), (78, .sl 9 (List.map R9 l)), (79, .int .i64 (l.length : Int)), (80, .int .i64 i2)], []⟩) hl2 (ES []) fun n2 i2 h=>?_
         unfold XT at h
         refine Tr<|R2 ZM Y<|Za<|Zl<|If h Y (fun h=>?_) fun h=>?_
         ·
          refine Ze<|Zl<|Zh<|K8 1 5 65 66 67 78 79 80 Y<|Tr<|bE h fun x2 h_x2 h=>Rq Y (ZE (ov Y) (ov Y) ZbX h_x2)<|Rq Y (Zc (ov Y) tS9 Y)<|Ra Y<|Za<|K9 1 5 7 65 66 67 78 79 80 Y<|Tr<|Rm Y<|Rm Y<|R2 Zcz Y<|Za<|K9 1 5 65 66 67 78 79 80 86 Y<|If h Y (fun h=>?_) fun h=>?_
          ·
           refine K0<|Tr<|Ra Y<|Za<|?_
           replace h := lx h ▸ ho2
           replace h := lx h ▸ ho1
           obtain rfl := rt h
           exact Zk (Zp Y (.one<|rb Y))
          ·
           exact Ze<|K8 1 5 65 66 67 78 79 80 Y<|Zy<|R2 Z5 Y<|Rm Y<|Za<|⟨_, h, ES []⟩
         ·
          refine ZC<|?_
          replace h := lx h ▸ ho2
          exact ⟨(), h, ES []⟩
       ·
        replace h := elr h
        replace h := t0i h
        exact Zy<|R2 Z5 Y<|Rm Y<|Za<|⟨_, h, ES []⟩
      ·
       refine ZC<|?_
       replace h := lx h ▸ ho1
       exact ⟨(), h, ES []⟩
     ·
      replace h := elr h
      replace h := t0i h
      refine Tr<|Ra Y<|Za<|?_
      obtain rfl := rt h
      exact Zk (Zp Y (.one<|rb Y))
theorem ZaD {p : api_Param} {number : Int} {r : (List api_Cell)} (h : X3 p number = some r) :
 CSpec Try.prog gl0 21 [.agg [.str p.Name, .int .i64 p.Kind, .sl 64 (List.map R64 p.Parts), .int .i64 p.First, .int .i64 p.Every, .int .i64 p.Times, .int .i64 p.Step, .sl 9 (List.map R9 p.Names)], .int .i64 number] (.sl 34 (List.map R34 r)) := by
 unfold X3 at h
 replace h := Qf h
 refine So Try.func21 Y fun w0 A=>Tr<|Rq Y (ZY (cva<|ov Y) Y tZ_44 Y)<|Ra Y<|Za<|K2 1 2 Y<|Tr<|Ra Y<|Za<|I1 (fun out=>⟨[(5, .own 0 out.length)], [some ⟨34, List.map R34 out⟩]⟩) h (fun h=>?_) fun out h=>?_
 ·
  refine Tr<|Rq Y (Zd (ov Y) ZfY)<|Rq Y (Zc (ov Y) tS3 Y)<|Ra Y<|Za<|Zh<|?_
  obtain ⟨r1, hl1, ho1⟩ := QA h
  refine L2 (fun out2 f=>⟨[(1, .int .i64 number), (2, .rp [.str p.Name, .int .i64 p.Kind, .sl 64 (List.map R64 p.Parts), .int .i64 p.First, .int .i64 p.Every, .int .i64 p.Times, .int .i64 p.Step, .sl 9 (List.map R9 p.Names)] 0), (5, .own 0 out2.length), (6, .int .i64 f)], [some ⟨34, List.map R34 out2⟩]⟩) hl1 (ES [none]) fun n1 out2 f h=>?_
  unfold Xw at h
  refine Zl<|Tr<|Rm Y<|R2 ZM Y<|Za<|K5 1 2 5 6 17 Y<|If h Y (fun h=>?_) fun h=>?_
  ·
   refine Ze<|I1 (fun out3=>⟨[(1, .int .i64 number), (2, .rp [.str p.Name, .int .i64 p.Kind, .sl 64 (List.map R64 p.Parts), .int .i64 p.First, .int .i64 p.Every, .int .i64 p.Times, .int .i64 p.Step, .sl 9 (List.map R9 p.Names)] 0), (5, .own 0 out3.length), (6, .int .i64 f)], [some ⟨34, List.map R34 out3⟩]⟩) h (fun h=>?_) fun out3 h=>?_
   ·
    refine Zh<|K4 1 2 5 6 Y<|Tr<|Ra Y<|Za<|I1 (fun XO=>⟨[(1, .int .i64 number), (2, .rp [.str p.Name, .int .i64 p.Kind, .sl 64 (List.map R64 p.Parts), .int .i64 p.First, .int .i64 p.Every, .int .i64 p.Times, .int .i64 p.Step, .sl 9 (List.map R9 p.Names)] 0), (5, .own 0 out2.length), (6, .int .i64 f), (7, .bool XO)], [some ⟨34, List.map R34 out2⟩]⟩) h (fun h=>?_) fun XO h=>?_
    ·
     refine Tr<|Rq Y (Zd (ov Y) Q4)<|Rq Y (Zc (ov Y) Zbv Y)<|Rl tZ_64 Xs Y<|Rm Y<|Za<|Zh<|?_
     obtain ⟨r2, hl2, ho2⟩ := QA h
     refine L2 (fun inside2 i=>⟨[(1, .int .i64 number), (2, .rp [.str p.Name, .int .i64 p.Kind, .sl 64 (List.map R64 p.Parts), .int .i64 p.First, .int .i64 p.Every, .int .i64 p.Times, .int .i64 p.Step, .sl 9 (List.map R9 p.Names)] 0), (5, .own 0 out2.length), (6, .int .i64 f), (7, .bool inside2), (23, .sl 64 (List.map R64 p.Parts)), (24, .int .i64 (p.Parts.length : Int)), (25, .int .i64 i)], [some ⟨34, List.map R34 out2⟩]⟩) hl2 (ES [some 0]) fun n2 inside2 i h=>?_
     unfold JH at h
     refine Tr<|R2 ZM Y<|Za<|Zl<|If h Y (fun h=>?_) fun h=>?_
     ·
      exact Ze<|Zl<|Zh<|K8 1 2 5 6 7 23 24 25 Y<|Tr<|bE h fun x h_x h=>Rq Y (ZE (ov Y) (ov Y) Xs h_x)<|Rq Y (Zj (ov Y) X8 Y Y)<|Rx Y (Zs (row := [_, _, _, _]) 1 Y ZeR Y tZ_64)<|Rx Y (Zg (ov Y) (ov Y) (Zf X8 Y) Y Y Y (Nat.le_of_ble_eq_true Y) (Zb Y) Y)<|Za<|K9 1 2 5 6 7 9 23 24 25 Y<|Zy<|Rm Y<|Rm Y<|Rq Y (.guarded (inside2 == true) Y Y Y Y fun h => Zz<|ov Y)<|Rq Y (.guarded (inside2 == true) Y Y Y Y fun h => Zi (ov Y) Y Y Ze2)<|Rq Y (.guarded (inside2 == true) Y Y Y Y fun h => Zm (ow Y h) Y Y Y tS3 Y)<|Rq Y (.guarded (inside2 == true) Y Y Y Y fun h => Zjp (ow Y h) (ow Y h) Y)<|Rq Y (.guarded (inside2 == true) Y Y Y Y fun h => ZM (ow Y h)<|ov Y)<|Rq Y (Xx (ov Y) fun hp=>ow Y<|gT hp)<|Ra Y<|Za<|K8 1 2 5 6 7 23 24 25 Y<|Zy<|R2 Z5 Y<|Rm Y<|Za<|⟨_, h, ES [some 0]⟩
     ·
      refine ZC<|?_
      replace h := lx h ▸ ho2
      exact ⟨_, h, ES [some 0]⟩
    ·
     refine Tr<|Ra Y<|Za<|Zh<|?_
     obtain ⟨r3, hl3, ho3⟩ := QA h
     refine L2 (fun out4 j=>⟨[(1, .int .i64 number), (2, .rp [.str p.Name, .int .i64 p.Kind, .sl 64 (List.map R64 p.Parts), .int .i64 p.First, .int .i64 p.Every, .int .i64 p.Times, .int .i64 p.Step, .sl 9 (List.map R9 p.Names)] 0), (5, .own 0 out4.length), (6, .int .i64 f), (7, .bool XO), (10, .int .i64 j)], [some ⟨34, List.map R34 out4⟩]⟩) hl3 (ES [some 0]) fun n3 out4 j h=>?_
     unfold JG at h
     refine Zl<|Tr<|Rm Y<|Rq Y (Zd (ov Y) ZaQ)<|Rq Y (Zc (ov Y) tS3 Y)<|R2 ZM Y<|Rm Y<|Rq Y (.guarded ((decide (j < p.Times)) == true) Y Y Y Y fun h => Zz<|ov Y)<|Rq Y (Xx (ov Y) fun hp=>ow Y<|gT hp)<|Za<|K7 1 2 5 6 7 10 44 Y<|If h Y (fun h=>?_) fun h=>?_
     ·
      refine Ze<|Zl<|Zh<|K6 1 2 5 6 7 10 Y<|Tr<|Rm Y<|Rm Y<|Rq Y (Zjb (ov Y) Y Y Zb6)<|Rm Y<|Rq Y (Z7 (ys := [_, _, _, _]) ZlN ZlL ZgJ (.cons (cvs (ov Y)<|Zq Y)<|.cons (cvs (ov Y)<|Zq Y)<|.cons (cvs (ov Y)<|Zq Y) .nil) Y)<|Rx Y (Zs (row := [_, _, _, _]) 1 Y ZgJ Y tZ_34)<|Rx Y (Zg (ov Y) (ov Y) (Zf Zdn Y) Y Y Y (Nat.le_of_ble_eq_true Y) (Zb Y) Y)<|Za<|I1 (fun Places=>⟨[(1, .int .i64 number), (2, .rp [.str p.Name, .int .i64 p.Kind, .sl 64 (List.map R64 p.Parts), .int .i64 p.First, .int .i64 p.Every, .int .i64 p.Times, .int .i64 p.Step, .sl 9 (List.map R9 p.Names)] 0), (5, .own 0 out4.length), (6, .int .i64 f), (7, .bool XO), (10, .int .i64 j), (11, .ptr 1 1 0 0)], [some ⟨34, List.map R34 out4⟩, some ⟨34, [[.int .i64 number, .int .i64 (out4.length : Int), .int .i64 f, .own 2 Places.length]]⟩, some ⟨59, List.map R59 Places⟩]⟩) h (fun h=>?_) fun Places h=>?_
      ·
       refine K7 1 2 5 6 7 10 11 Y<|Tr<|Rq Y (Zd (ov Y) Q4)<|Rq Y (Zc (ov Y) Zbv Y)<|Rl tZ_64 Xs Y<|Rm Y<|Za<|Zh<|?_
       obtain ⟨r4, hl4, ho4⟩ := QA h
       refine L2 (fun Places2 i2=>⟨[(1, .int .i64 number), (2, .rp [.str p.Name, .int .i64 p.Kind, .sl 64 (List.map R64 p.Parts), .int .i64 p.First, .int .i64 p.Every, .int .i64 p.Times, .int .i64 p.Step, .sl 9 (List.map R9 p.Names)] 0), (5, .own 0 out4.length), (6, .int .i64 f), (7, .bool XO), (10, .int .i64 j), (11, .ptr 1 1 0 0), (53, .sl 64 (List.map R64 p.Parts)), (54, .int .i64 (p.Parts.length : Int)), (55, .int .i64 i2)], [some ⟨34, List.map R34 out4⟩, some ⟨34, [[.int .i64 number, .int .i64 (out4.length : Int), .int .i64 f, .own 2 Places2.length]]⟩, some ⟨59, List.map R59 Places2⟩]⟩) hl4 (ES [some 0, some 1, none]) fun n4 Places2 i2 h=>?_
       unfold ZbT at h
       refine Tr<|R2 ZM Y<|Za<|Zl<|If h Y (fun h=>?_) fun h=>?_
       ·
        exact Ze<|Zl<|Zh<|K10 1 2 5 6 7 10 11 53 54 55 Y<|Tr<|bE h fun x2 h_x2 h=>Rq Y (ZE (ov Y) (ov Y) Xs h_x2)<|Rq Y (Zj (ov Y) X8 Y Y)<|Rx Y (Zs (row := [_, _, _, _]) 3 Y ZeR Y tZ_64)<|Rx Y (Zg (ov Y) (ov Y) (Zf X8 Y) Y Y Y (Nat.le_of_ble_eq_true Y) (Zb Y) Y)<|Za<|K11 1 2 5 6 7 10 11 13 53 54 55 Y<|Zy<|Rq Y (Zi (ov Y) Y Y ZcX)<|Rq Y (Zm (ov Y) Y Y Y Zhe Y)<|Rm Y<|Rq Y (Zi (ov Y) Y Y Ze2)<|Rq Y (Zm (ov Y) Y Y Y tS3 Y)<|R2 Z5 Y<|Rq Y (Zi (ov Y) Y Y Zb9)<|Rq Y (Zm (ov Y) Y Y Y tS3 Y)<|Rm Y<|Rq Y (Zd (ov Y) Zbp)<|Rq Y (Zc (ov Y) tS3 Y)<|R2 Zhc Y<|R2 Z5 Y<|Rq Y (Zi (ov Y) Y Y Zcd)<|Rq Y (Zm (ov Y) Y Y Y tS3 Y)<|Rq Y (Zi (ov Y) Y Y Zdm)<|Rq Y (Zm (ov Y) Y Y Y tS3 Y)<|Rq Y (Z7 (ys := [_, _, _, _]) Zkg Zlb ZhQ (.cons (cvs (ov Y)<|Zq Y)<|.cons (cvs (ov Y)<|Zq Y)<|.cons (cvs (ov Y)<|Zq Y)<|.cons (cvs (ov Y)<|Zq Y) .nil) Y)<|R_q (.sl 59<|List.map R59 ([(api_Place.mk (i64 (f + x2.Frame)) (i64 (x2.Word + (i64 (j * p.Step)))) x2.Low x2.Bits)] : List api_Place)) Y (X7 ZdL (.cons (cva<|ov Y) Y (pwD Y) .nil) Y Y)<|bE h fun l h_l h=>Rx Y (ZX (ov Y) (ZV (ov Y) tZ_59) ZdL Y Y Y (fun _=>Zb Y) Y h_l)<|Rq Y (Zi (ov Y) Y Y ZcX)<|Rx Y (Zg (ov Y) (ov Y) (Zv Zhe) Y Y Y (Nat.le_of_ble_eq_true Y) (Zb Y) Y)<|Za<|K10 1 2 5 6 7 10 11 53 54 55 Y<|Zy<|R2 Z5 Y<|Rm Y<|Za<|⟨_, h, ES [some 0, some 1, some 2]⟩
       ·
        refine ZC<|?_
        replace h := lx h ▸ ho4
        exact ⟨_, h, ES [some 0, some 1, some 2]⟩
      ·
       exact Zy<|Rm Y<|Rq Y (Zn (ov Y) Y Y Y Zdn Y Y)<|ZeH (Ent.sel [some 0, some 1, none] (sd 1 Y Y<|sd 2 Y Y<|sr 5 Y (.own (r' := 0) _ Y)<|sd 6 Y Y<|sd 7 Y Y<|sd 10 Y Y<|sr 11 Y (.ptr (r' := 1) _ _ _ Y)<|sr 81 Y (.own (r' := 0) _ Y)<|sr 82 Y (ZN<|rlc (.dat Y)<|rlc (.dat Y)<|rlc (.dat Y)<|rlc (ZiY Y Y Y D59) rln) sn) (.cons Y (roM D34)<|.cons Y (ro1 (by exact tZ_34.symm)<|rlc (.dat Y)<|rlc (.dat Y)<|rlc (.dat Y)<|rlc (ZiY Y Y Y D59) rln)<|.row 59 .nil) Y Y)<|R_q (.sl 34<|List.map R34 ([(api_Cell.mk number (out4.length : Int) f Places)] : List api_Cell)) Y (X7 Zb6 (.cons (cva<|ov Y) Y (pwD Y) .nil) Y Y)<|bE h fun l2 h_l2 h=>Rx Y (ZX (ov Y) (ZV (ov Y) tZ_34) Zb6 Y Y Y (fun _=>Zb Y) Y h_l2)<|Ra Y<|Za<|K6 1 2 5 6 7 10 Y<|Zy<|Rm Y<|R2 Z5 Y<|Ra Y<|Za<|⟨_, h, ES [some 0]⟩
     ·
      refine ZC<|?_
      replace h := lx h ▸ ho3
      exact ⟨_, h, ES [some 0]⟩
   ·
    exact Zy<|Rm Y<|Rq Y (Zd (ov Y) ZdS)<|Rq Y (Zc (ov Y) tS3 Y)<|R2 Z5 Y<|Ra Y<|Za<|⟨_, h, ES [some 0]⟩
  ·
   refine ZC<|?_
   replace h := lx h ▸ ho1
   exact ⟨_, h, ES [some 0]⟩
 ·
  refine Tr<|Rm Y<|Ra Y<|Za<|?_
  obtain rfl := rt h
  exact Zk (Zp Y (.one<|.tmp Y<|View.ownM Y Y D34))
theorem Zct {t : List ((Vector Int 3) × Bool)} {l : List api_Place} {r : Bool × (List ((Vector Int 3) × Bool))} (h : Xp t l = some r) :
 GSpec Try.prog gl0 46 [.mref 0 1, .sl 59 (List.map R59 l)] [some ⟨54, [[.mcon (List.map (ZZ Qn FV4) t)]]⟩] (.bool r.1) [some ⟨54, [[.mcon (List.map (ZZ Qn FV4) r.2)]]⟩] := by
 unfold Xp at h
 replace h := Qf h
 refine ZaB (by kernel_rfl) Try.func46 Y Y<|?_
 intro w0 A W φ0
 refine Tr<|Ra Y<|Za<|K2 0 1 Y<|Tr<|Ra Y<|Za<|I2 (fun o ok=>⟨[(5, .bool ok)], [some ⟨54, [[.mcon (List.map (ZZ Qn FV4) o)]]⟩]⟩) h (fun h=>?_) fun o ok h=>?_
 ·
  refine Tr<|Rm Y<|Rl tZ_59 ZdL Y<|Rm Y<|Za<|Zh<|?_
  obtain ⟨r1, hl1, ho1⟩ := QA h
  refine L3 (fun o2 ok2 i=>⟨[(0, .mref 0 1), (5, .bool ok2), (10, .sl 59 (List.map R59 l)), (11, .int .i64 (l.length : Int)), (12, .int .i64 i)], [some ⟨54, [[.mcon (List.map (ZZ Qn FV4) o2)]]⟩]⟩) hl1 (ES [some 0] (hhp := .cons Y (ZD (fk := Qn) (fv := FV4) (m := t) tZ_54 (fun _=>ZN<|rld<|arD fun _ => Y) fun _=>.ren<|.dat Y) .nil)) fun n1 o2 ok2 i h=>?_
  unfold Q9 at h
  refine Tr<|R2 ZM Y<|Za<|Zl<|If h Y (fun h=>?_) fun h=>?_
  ·
   refine Ze<|I2 (fun o3 ok3=>⟨[(0, .mref 0 1), (5, .bool ok3), (10, .sl 59 (List.map R59 l)), (11, .int .i64 (l.length : Int)), (12, .int .i64 i)], [some ⟨54, [[.mcon (List.map (ZZ Qn FV4) o3)]]⟩]⟩) h (fun h=>?_) fun o3 ok3 h=>?_
   ·
    refine Zh<|K5 0 5 10 11 12 Y<|Tr<|bE h fun x h_x h=>Rq Y (ZE (ov Y) (ov Y) ZdL h_x)<|Rq Y (Zj (ov Y) Zfp Y Y)<|Rx Y (Zs (row := [_, _, _, _]) 1 Y ZhQ Y tZ_59)<|Rx Y (Zg (ov Y) (ov Y) (Zf Zfp Y) Y Y Y (Nat.le_of_ble_eq_true Y) (Zb Y) Y)<|Za<|K6 0 5 7 10 11 12 Y<|Tr<|Rq Y (Zi (ov Y) Y Y ZgI)<|Rq Y (Zm (ov Y) Y Y Y tS3 Y)<|Ra Y<|Za<|Zh<|?_
    obtain ⟨r2, hl2, ho2⟩ := QA h
    refine L3 (fun o4 ok4 b=>⟨[(0, .mref 0 1), (5, .bool ok4), (7, .ptr 1 1 0 0), (8, .int .i64 b), (10, .sl 59 (List.map R59 l)), (11, .int .i64 (l.length : Int)), (12, .int .i64 i)], [some ⟨54, [[.mcon (List.map (ZZ Qn FV4) o4)]]⟩, some ⟨59, [[.int .i64 x.Frame, .int .i64 x.Word, .int .i64 x.Low, .int .i64 x.Bits]]⟩]⟩) hl2 (ES [some 0, some 1] (hhp := .cons Y (ZD (fk := Qn) (fv := FV4) (m := o2) tZ_54 (fun _=>ZN<|rld<|arD fun _ => Y) fun _=>.ren<|.dat Y)<|.cons Y (ro1 (by exact tZ_59.symm)<|rld Y) .nil)) fun n2 o4 ok4 b h=>?_
    unfold Q8 at h
    refine Zl<|Tr<|Rm Y<|Rq Y (Zi (ov Y) Y Y ZgI)<|Rq Y (Zm (ov Y) Y Y Y tS3 Y)<|Rq Y (Zi (ov Y) Y Y ZfU)<|Rq Y (Zm (ov Y) Y Y Y tS3 Y)<|R2 Z5 Y<|R2 ZM Y<|Za<|K8 0 5 7 8 10 11 12 24 Y<|If h Y (fun h=>?_) fun h=>?_
    ·
     exact Ze<|Zl<|Zh<|K7 0 5 7 8 10 11 12 Y<|Tr<|Rq Y (Zi (ov Y) Y Y Zh7)<|Rq Y (Zm (ov Y) Y Y Y tS3 Y)<|Rq Y (Zi (ov Y) Y Y ZhP)<|Rq Y (Zm (ov Y) Y Y Y tS3 Y)<|Rm Y<|R_q (.agg<|List.map C3 (#v[x.Frame, x.Word, b] : Vector Int 3).toList) Y (Zla (ys := [_, _, _]) ZmM ZlP (.cons (cvs (ov Y)<|Zq Y)<|.cons (cvs (ov Y)<|Zq Y)<|.cons (cvs (ov Y)<|Zq Y) .nil) Y)<|Rx Y (Zs (row := (List.map C3 (Vector.replicate 3 0).toList)) 2 Y ZlP Y tZ_108)<|Rx Y (Zg (ov Y) (ov Y) (Zf Zkr arL) Y Y Y (Zji (Jw arL) arL) (Zb<|arC fun _ => Y)<|ZhZ<|Eq.trans arL<|Eq.symm arL)<|Za<|K8 0 5 7 8 9 10 11 12 Y<|Tr<|Rm Y<|Rm Y<|Rq Y (.guarded (ok4 == true) Y Y Y Y fun h => Zz<|ov Y)<|Rq Y (.guarded (ok4 == true) Y Y Y Y fun h => Zn (ov Y) Y Y Y Zkr (Ze9<|Jw arL) arL (hns := (nsM fun _ => Y)))<|bE h fun o5 h_o5 h=>Rq Y (.guarded (ok4 == true) Y Y Y Y fun h => ZgX (m := o4) (fk := Qn) (fv := FV4) (k := (#v[x.Frame, x.Word, b] : Vector Int 3)) (z0 := false) (ow Y h) (ow Y h) Zia Zkp Y (fun _=>.aggB<|arD fun _ => Y) (J8 Zng Y) (fun _ _=>Y)<|gdT h_o5 h)<|Rq Y (.guarded (ok4 == true) Y Y Y Y fun h => Xy<|ow Y h)<|Rq Y (Xx (ov Y) fun hp=>ow Y<|gT hp)<|Ra Y<|Za<|K8 0 5 7 8 9 10 11 12 Y<|Zy<|Rm Y<|Rq Y (Zn (ov Y) Y Y Y Zkr (Ze9<|Jw arL) arL (hns := (nsM fun _ => Y)))<|Rx Y (ZgY (m := o4) (fk := Qn) (fv := FV4) (k := (#v[x.Frame, x.Word, b] : Vector Int 3)) (v := true) (ov Y) (ov Y) (ov Y) Zia Zkp Y fun _=>.aggB<|arD fun _ => Y)<|Za<|K7 0 5 7 8 10 11 12 Y<|Zy<|Rm Y<|R2 Z5 Y<|Ra Y<|Za<|⟨_, h, ES [some 0, some 1] (hhp := .cons Y (ZD (fk := Qn) (fv := FV4) (m := (ZeB kqV o4 (#v[x.Frame, x.Word, b] : Vector Int 3) true)) tZ_54 (fun _=>ZN<|rld<|arD fun _ => Y) fun _=>.ren<|.dat Y)<|.cons Y (ro1 (by exact tZ_59.symm)<|rld Y) .nil)⟩
    ·
     refine ZC<|?_
     replace h := lx h ▸ ho2
     exact ⟨_, h, ES [some 0] (hhp := .cons Y (ZD (fk := Qn) (fv := FV4) (m := o4) tZ_54 (fun _=>ZN<|rld<|arD fun _ => Y) fun _=>.ren<|.dat Y) .nil)⟩
   ·
    exact Zy<|R2 Z5 Y<|Rm Y<|Za<|⟨_, h, ES [some 0] (hhp := .cons Y (ZD (fk := Qn) (fv := FV4) (m := o3) tZ_54 (fun _=>ZN<|rld<|arD fun _ => Y) fun _=>.ren<|.dat Y) .nil)⟩
  ·
   refine ZC<|?_
   replace h := lx h ▸ ho1
   exact ⟨_, h, ES [some 0] (hhp := .cons Y (ZD (fk := Qn) (fv := FV4) (m := o2) tZ_54 (fun _=>ZN<|rld<|arD fun _ => Y) fun _=>.ren<|.dat Y) .nil)⟩
 ·
  refine Tr<|Rm Y<|Ra Y<|Za<|?_
  obtain rfl := rt h
  exact Zk<|ZdZ [some 0] Y (.cons (.tmp Y) .nil) (.cons Y (ZD (fk := Qn) (fv := FV4) (m := o) tZ_54 (fun _=>ZN<|rld<|arD fun _ => Y) fun _=>.ren<|.dat Y) .nil) Y Y<|.dat Y
theorem JM {t : List ((Vector Int 3) × Bool)} {l : List api_Cell} {r : Bool × (List ((Vector Int 3) × Bool))} (h : QH t l = some r) :
 GSpec Try.prog gl0 22 [.mref 0 1, .sl 34 (List.map R34 l)] [some ⟨54, [[.mcon (List.map (ZZ Qn FV4) t)]]⟩] (.bool r.1) [some ⟨54, [[.mcon (List.map (ZZ Qn FV4) r.2)]]⟩] := by
 unfold QH at h
 replace h := Qf h
 refine ZaB (by kernel_rfl) Try.func22 Y Y<|?_
 intro w0 A W φ0
 refine Tr<|Ra Y<|Za<|K2 0 1 Y<|Tr<|Ra Y<|Za<|I2 (fun o ok=>⟨[(5, .bool ok)], [some ⟨54, [[.mcon (List.map (ZZ Qn FV4) o)]]⟩]⟩) h (fun h=>?_) fun o ok h=>?_
 ·
  refine Tr<|Rm Y<|Rl tZ_34 Zb6 Y<|Rm Y<|Za<|Zh<|?_
  obtain ⟨r1, hl1, ho1⟩ := QA h
  refine L3 (fun o2 ok2 i=>⟨[(0, .mref 0 1), (5, .bool ok2), (8, .sl 34 (List.map R34 l)), (9, .int .i64 (l.length : Int)), (10, .int .i64 i)], [some ⟨54, [[.mcon (List.map (ZZ Qn FV4) o2)]]⟩]⟩) hl1 (ES [some 0] (hhp := .cons Y (ZD (fk := Qn) (fv := FV4) (m := t) tZ_54 (fun _=>ZN<|rld<|arD fun _ => Y) fun _=>.ren<|.dat Y) .nil)) fun n1 o2 ok2 i h=>?_
  unfold Qw at h
  refine Tr<|R2 ZM Y<|Za<|Zl<|If h Y (fun h=>?_) fun h=>?_
  ·
   refine Ze<|Zl<|Zh<|K5 0 5 8 9 10 Y<|Tr<|bE h fun x h_x h=>Rq Y (ZE (ov Y) (ov Y) Zb6 h_x)<|Rq Y (Zj (ov Y) Zdn Y Y)<|Rx Y (Zs (row := [_, _, _, _]) 1 Y ZgJ Y tZ_34)<|Rx Y (Zg (ov Y) (ov Y) (Zf Zdn Y) Y Y Y (Nat.le_of_ble_eq_true Y) (Zb Y) Y)<|Za<|K6 0 5 7 8 9 10 Y<|Tr<|Rm Y<|Rq Y (Zi (ov Y) Y Y ZcX)<|Rq Y (Zm (ov Y) Y Y Y Zhe Y)<|bE h fun y h_y h=>Rx Y (QS [0] (Zct h_y) (.cons (ov Y) (.mref _ Y)<|.cons (ov Y) (.dat Y) .nil) (.cons Y (ZD (fk := Qn) (fv := FV4) (m := o2) tZ_54 (fun _=>ZN<|rld<|arD fun _ => Y) fun _=>.ren<|.dat Y) .nil) Y (.lent 0 (.inl Y) Y (ZD (fk := Qn) (fv := FV4) (m := y.2) tZ_54 (fun _=>ZN<|rld<|arD fun _ => Y) fun _=>.ren<|.dat Y)<|.keep Y Y .nil) Y Y<|.dat Y)<|R1 Xy Y<|Za<|K6 0 5 8 9 10 18 Y<|If h Y (fun h=>?_) fun h=>?_
   ·
    exact K5 0 5 8 9 10 Y<|Zy<|Ra Y<|Za<|Zy<|R2 Z5 Y<|Rm Y<|Za<|⟨_, h, ES [some 0] (hhp := .cons Y (ZD (fk := Qn) (fv := FV4) (m := y.2) tZ_54 (fun _=>ZN<|rld<|arD fun _ => Y) fun _=>.ren<|.dat Y) .nil)⟩
   ·
    exact Ze<|K5 0 5 8 9 10 Y<|Zy<|R2 Z5 Y<|Rm Y<|Za<|⟨_, h, ES [some 0] (hhp := .cons Y (ZD (fk := Qn) (fv := FV4) (m := y.2) tZ_54 (fun _=>ZN<|rld<|arD fun _ => Y) fun _=>.ren<|.dat Y) .nil)⟩
  ·
   refine ZC<|?_
   replace h := lx h ▸ ho1
   exact ⟨_, h, ES [some 0] (hhp := .cons Y (ZD (fk := Qn) (fv := FV4) (m := o2) tZ_54 (fun _=>ZN<|rld<|arD fun _ => Y) fun _=>.ren<|.dat Y) .nil)⟩
 ·
  refine Tr<|Rm Y<|Ra Y<|Za<|?_
  obtain rfl := rt h
  exact Zk<|ZdZ [some 0] Y (.cons (.tmp Y) .nil) (.cons Y (ZD (fk := Qn) (fv := FV4) (m := o) tZ_54 (fun _=>ZN<|rld<|arD fun _ => Y) fun _=>.ren<|.dat Y) .nil) Y Y<|.dat Y
theorem Zcu {p : api_Param} {r : Int} (h : XR p = some r) :
 CSpec Try.prog gl0 20 [.agg [.str p.Name, .int .i64 p.Kind, .sl 64 (List.map R64 p.Parts), .int .i64 p.First, .int .i64 p.Every, .int .i64 p.Times, .int .i64 p.Step, .sl 9 (List.map R9 p.Names)]] (.int .i64 r) := by
 unfold XR at h
 replace h := Qf h
 refine So Try.func20 Y fun w0 A=>Tr<|Rq Y (ZY (cva<|ov Y) Y tZ_44 Y)<|Ra Y<|Za<|Zl<|K1 1 Y<|Tr<|Rq Y (Zd (ov Y) Zch)<|Rq Y (Zc (ov Y) tS9 Y)<|bE h fun y h_y h=>Rq Y (Zr (ZdW h_y)<|.cons (ov Y) (.b Y) .nil)<|R1 Xy Y<|Za<|K2 1 10 Y<|If h Y (fun h=>?_) fun h=>?_
 ·
  refine K0<|Tr<|Ra Y<|Za<|?_
  obtain rfl := rt h
  exact Zk (Zp Y (.one<|rb Y))
 ·
  refine Ze<|Zl<|K1 1 Y<|Tr<|Rq Y (Zd (ov Y) ZaR)<|Rq Y (Zc (ov Y) tS3 Y)<|bE h fun y2 h_y2 h=>Rq Y (Zr (QY h_y2)<|.cons (ov Y) (.b Y)<|.cons (ov Y) (.b Y)<|.cons (ov Y) (.b Y) .nil)<|Za<|K2 1 13 Y<|If h Y (fun h=>?_) fun h=>?_
  ·
   refine K0<|Tr<|Ra Y<|Za<|?_
   obtain rfl := rt h
   exact Zk (Zp Y (.one<|rb Y))
  ·
   refine Ze<|Zl<|K1 1 Y<|Tr<|Rq Y (Zj (ov Y) Zw Y Y)<|bE h fun y3 h_y3 h=>Rq Y (Zr (Ze1 h_y3)<|.cons (ov Y) (.aggB Y) .nil)<|Ra Y<|Za<|K2 1 3 Y<|Tr<|Rm Y<|R2 Qp Y<|Za<|K3 1 3 17 Y<|If h Y (fun h=>?_) fun h=>?_
   ·
    refine K1 3 Y<|Tr<|Rm Y<|Ra Y<|Za<|?_
    obtain rfl := rt h
    exact Zk (Zp Y (.one<|rb Y))
   ·
    refine Ze<|Zl<|K1 1 Y<|Tr<|Rq Y (Zj (ov Y) Zw Y Y)<|bE h fun y4 h_y4 h=>Rq Y (Zr (Zcv h_y4)<|.cons (ov Y) (.aggB Y) .nil)<|Ra Y<|Za<|K2 1 4 Y<|Tr<|Rm Y<|R2 Qp Y<|Za<|K3 1 4 22 Y<|If h Y (fun h=>?_) fun h=>?_
    ·
     refine K1 4 Y<|Tr<|Rm Y<|Ra Y<|Za<|?_
     obtain rfl := rt h
     exact Zk (Zp Y (.one<|rb Y))
    ·
     refine Ze<|Zl<|K1 1 Y<|Tr<|Rq Y (Zj (ov Y) Zw Y Y)<|bE h fun y5 h_y5 h=>Rq Y (Zr (ZfG h_y5)<|.cons (ov Y) (.aggB Y) .nil)<|Ra Y<|Za<|K2 1 5 Y<|Tr<|Rm Y<|R2 Qp Y<|Za<|K3 1 5 27 Y<|If h Y (fun h=>?_) fun h=>?_
     ·
      refine K1 5 Y<|Tr<|Rm Y<|Ra Y<|Za<|?_
      obtain rfl := rt h
      exact Zk (Zp Y (.one<|rb Y))
     ·
      refine Ze<|K1 1 Y<|Tr<|Rq Y (Zj (ov Y) Zw Y Y)<|bE h fun y6 h_y6 h=>Rq Y (Zr (ZaD h_y6)<|.cons (ov Y) (.aggB Y)<|.cons (ov Y) (.b Y) .nil)<|Ra Y<|Za<|Zl<|K1 6 Y<|Tr<|Rx Y (ZaZ 0 Y Zia)<|Rm Y<|bE h fun y7 h_y7 h=>Rx Y (QS [0] (JM h_y7) (.cons (ov Y) (.mref _ Y)<|.cons (ov Y) (.dat Y) .nil) (.cons Y (ZD (fk := Qn) (fv := FV4) (m := ([] : List ((Vector Int 3) × Bool))) tZ_54 (fun _=>ZN<|rld<|arD fun _ => Y) fun _=>.ren<|.dat Y) .nil) Y (.lent 0 (.inl Y) Y (ZD (fk := Qn) (fv := FV4) (m := y7.2) tZ_54 (fun _=>ZN<|rld<|arD fun _ => Y) fun _=>.ren<|.dat Y) .nil) Y Y<|.dat Y)<|R1 Xy Y<|Za<|K2 6 34 Y<|If h Y (fun h=>?_) fun h=>?_
      ·
       refine K0<|Tr<|Ra Y<|Za<|?_
       obtain rfl := rt h
       exact Zk (Zp Y (.one<|rb Y))
      ·
       refine Ze<|Zl<|K1 6 Y<|Tr<|Rm Y<|Rl tZ_34 Zb6 Y<|R2 QZ Y<|Za<|K1 37 Y<|If h Y (fun h=>?_) fun h=>?_
       ·
        refine K0<|Tr<|Ra Y<|Za<|?_
        obtain rfl := rt h
        exact Zk (Zp Y (.one<|rb Y))
       ·
        refine Ze<|K0<|Tr<|Ra Y<|Za<|?_
        obtain rfl := rt h
        exact Zk (Zp Y (.one<|rb Y))
theorem X0 {m : api_Map} {r : Int × Int} (h : ZaW m = some r) :
 CSpec Try.prog gl0 6 [.agg [.int .i64 m.Version, .sl 44 (List.map R44 m.Params)]] (.tuple [.int .i64 r.1, .int .i64 r.2]) := by
 unfold ZaW at h
 replace h := Qf h
 refine So Try.func6 Y fun w0 A=>Tr<|Rq Y (ZY (cva<|ov Y) Y tZ_24 Y)<|Ra Y<|Ra Y<|Za<|Zl<|K1 1 Y<|Tr<|Rq Y (Zd (ov Y) ZhL)<|Rq Y (Zc (ov Y) tS3 Y)<|bE h fun y h_y h=>Rq Y (Zr (QY h_y)<|.cons (ov Y) (.b Y)<|.cons (ov Y) (.b Y)<|.cons (ov Y) (.b Y) .nil)<|Za<|K2 1 17 Y<|If h Y (fun h=>?_) fun h=>?_
 ·
  refine K0<|Tr<|Ra Y<|Ra Y<|Za<|?_
  obtain rfl := rt h
  exact Zk (Zp Y (.two (rb Y)<|rb Y))
 ·
  refine Ze<|Zl<|K1 1 Y<|Tr<|Rq Y (Zd (ov Y) QC)<|Rq Y (Zc (ov Y) J5 Y)<|Rl tZ_44 Qy Y<|R2 JC Y<|Za<|K2 1 21 Y<|If h Y (fun h=>?_) fun h=>?_
  ·
   refine K0<|Tr<|Ra Y<|Ra Y<|Za<|?_
   obtain rfl := rt h
   exact Zk (Zp Y (.two (rb Y)<|rb Y))
  ·
   refine Ze<|K1 1 Y<|Tr<|Ra Y<|Za<|J0 (fun j => (.inr j)) ⟨[(1, .rp [.int .i64 m.Version, .sl 44 (List.map R44 m.Params)] 0), (4, .int .i64 0)], []⟩ h (fun h=>?_) fun h=>?_
   ·
    refine Tr<|Rq Y (Zd (ov Y) QC)<|Rq Y (Zc (ov Y) J5 Y)<|Rl tZ_44 Qy Y<|Rm Y<|Za<|Zh<|?_
    obtain ⟨r1, hl1, ho1⟩ := QA h
    refine L1 (fun i=>⟨[(1, .rp [.int .i64 m.Version, .sl 44 (List.map R44 m.Params)] 0), (4, .int .i64 0), (23, .sl 44 (List.map R44 m.Params)), (24, .int .i64 (m.Params.length : Int)), (25, .int .i64 i)], []⟩) hl1 (ES []) fun n1 i h=>?_
    unfold ZaF at h
    refine Tr<|R2 ZM Y<|Za<|Zl<|If h Y (fun h=>?_) fun h=>?_
    ·
     refine Ze<|J0 (fun j => (.inr j)) ⟨[(1, .rp [.int .i64 m.Version, .sl 44 (List.map R44 m.Params)] 0), (4, .int .i64 0), (23, .sl 44 (List.map R44 m.Params)), (24, .int .i64 (m.Params.length : Int)), (25, .int .i64 i)], []⟩ h (fun h=>?_) fun h=>?_
     ·
      refine Zh<|K5 1 4 23 24 25 Y<|Tr<|Rm Y<|bE h fun x h_x h=>Rq Y (ZE (ov Y) (ov Y) Qy h_x)<|Rq Y (Zj (ov Y) Zw Y Y)<|Rx Y (Zs (row := [_, _, _, _, _, _, _, _]) 0 Y JZ Y tZ_44)<|Ra Y<|Rx Y (Zg (ov Y) (ov Y) (Zf Zw Y) Y Y Y (Nat.le_of_ble_eq_true Y) (Zb Y) Y)<|Za<|Zl<|K7 1 4 5 6 23 24 25 Y<|Tr<|Rq Y (Zn (ov Y) Y Y Y Zw Y Y)<|bE h fun y2 h_y2 h=>Rq Y (Zr (Zcu h_y2)<|.cons (ov Y) (.aggB Y) .nil)<|Ra Y<|Za<|K8 1 4 5 6 7 23 24 25 Y<|Tr<|Rm Y<|R2 Qp Y<|Za<|K9 1 4 5 6 7 23 24 25 33 Y<|If h Y (fun h=>?_) fun h=>?_
      ·
       refine K2 5 7 Y<|Tr<|Rm Y<|Rm Y<|Ra Y<|Ra Y<|Za<|?_
       replace h := lx h ▸ ho1
       obtain rfl := rt h
       exact Zk (Zp Y (.two (rb Y)<|rb Y))
      ·
       refine Ze<|K7 1 4 5 6 23 24 25 Y<|Tr<|Rq Y (Zd (ov Y) QC)<|Rq Y (Zc (ov Y) J5 Y)<|Rm Y<|bE h fun l h_l h=>Rq Y (Zff (ov Y) Qy on (oi<|ov Y) h_l)<|Rl tZ_44 Qy Y<|Rm Y<|Za<|Zh<|?_
       obtain ⟨r2, hl2, ho2⟩ := QA h
       refine L1 (fun i2=>⟨[(1, .rp [.int .i64 m.Version, .sl 44 (List.map R44 m.Params)] 0), (4, .int .i64 0), (5, .int .i64 i), (6, .ptr 0 1 0 0), (23, .sl 44 (List.map R44 m.Params)), (24, .int .i64 (m.Params.length : Int)), (25, .int .i64 i), (39, .sl 44 (List.map R44 l)), (40, .int .i64 (l.length : Int)), (41, .int .i64 i2)], [some ⟨44, [[.str x.Name, .int .i64 x.Kind, .sl 64 (List.map R64 x.Parts), .int .i64 x.First, .int .i64 x.Every, .int .i64 x.Times, .int .i64 x.Step, .sl 9 (List.map R9 x.Names)]]⟩]⟩) hl2 (ES [some 0]) fun n2 i2 h=>?_
       unfold ZaG at h
       refine Tr<|R2 ZM Y<|Za<|Zl<|If h Y (fun h=>?_) fun h=>?_
       ·
        refine Ze<|Zl<|Zh<|K10 1 4 5 6 23 24 25 39 40 41 Y<|Tr<|bE h fun x2 h_x2 h=>Rq Y (ZE (ov Y) (ov Y) Qy h_x2)<|Rq Y (Zj (ov Y) Zw Y Y)<|Rx Y (Zs (row := [_, _, _, _, _, _, _, _]) 1 Y JZ Y tZ_44)<|Rx Y (Zg (ov Y) (ov Y) (Zf Zw Y) Y Y Y (Nat.le_of_ble_eq_true Y) (Zb Y) Y)<|Za<|K11 1 4 5 6 9 23 24 25 39 40 41 Y<|Tr<|Rq Y (Zi (ov Y) Y Y Zch)<|Rq Y (Zm (ov Y) Y Y Y tS9 Y)<|Rq Y (Zi (ov Y) Y Y Zch)<|Rq Y (Zm (ov Y) Y Y Y tS9 Y)<|R2 Zcz Y<|Za<|K11 1 4 5 6 23 24 25 39 40 41 49 Y<|If h Y (fun h=>?_) fun h=>?_
        ·
         refine K1 5 Y<|Tr<|Rm Y<|Ra Y<|Ra Y<|Za<|?_
         replace h := lx h ▸ ho2
         replace h := lx h ▸ ho1
         obtain rfl := rt h
         exact Zk (Zp Y (.two (rb Y)<|rb Y))
        ·
         exact Ze<|K10 1 4 5 6 23 24 25 39 40 41 Y<|Zy<|R2 Z5 Y<|Rm Y<|Za<|⟨_, h, ES [some 0]⟩
       ·
        refine ZC<|?_
        replace h := lx h ▸ ho2
        exact ⟨(), h, ES []⟩
     ·
      replace h := elr h
      replace h := t0i h
      exact Zy<|R2 Z5 Y<|Rm Y<|Za<|⟨_, h, ES []⟩
    ·
     refine ZC<|?_
     replace h := lx h ▸ ho1
     exact ⟨(), h, ES []⟩
   ·
    replace h := elr h
    replace h := t0i h
    refine J0 (fun j => (.inr j)) ⟨[(1, .rp [.int .i64 m.Version, .sl 44 (List.map R44 m.Params)] 0)], []⟩ h (fun h=>?_) fun h=>?_
    ·
     refine Tr<|Rq Y (Zd (ov Y) QC)<|Rq Y (Zc (ov Y) J5 Y)<|Rl tZ_44 Qy Y<|Rm Y<|Za<|Zh<|?_
     obtain ⟨r3, hl3, ho3⟩ := QA h
     refine L2 (fun n i3=>⟨[(1, .rp [.int .i64 m.Version, .sl 44 (List.map R44 m.Params)] 0), (4, .int .i64 n), (54, .sl 44 (List.map R44 m.Params)), (55, .int .i64 (m.Params.length : Int)), (56, .int .i64 i3)], []⟩) hl3 (ES []) fun n3 n i3 h=>?_
     unfold JF at h
     refine Tr<|R2 ZM Y<|Za<|Zl<|If h Y (fun h=>?_) fun h=>?_
     ·
      refine Ze<|Zl<|Zh<|K5 1 4 54 55 56 Y<|Tr<|Rm Y<|bE h fun x3 h_x3 h=>Rq Y (ZE (ov Y) (ov Y) Qy h_x3)<|Rq Y (Zj (ov Y) Zw Y Y)<|Rx Y (Zs (row := [_, _, _, _, _, _, _, _]) 0 Y JZ Y tZ_44)<|Ra Y<|Rx Y (Zg (ov Y) (ov Y) (Zf Zw Y) Y Y Y (Nat.le_of_ble_eq_true Y) (Zb Y) Y)<|Za<|K7 1 4 10 11 54 55 56 Y<|Tr<|Rm Y<|Rq Y (Zn (ov Y) Y Y Y Zw Y Y)<|Rm Y<|bE h fun y3 h_y3 h=>Rq Y (Zr (ZaD h_y3)<|.cons (ov Y) (.aggB Y)<|.cons (ov Y) (.b Y) .nil)<|Rl tZ_34 Zb6 Y<|R2 Z5 Y<|Ra Y<|Za<|K6 1 4 10 54 55 56 Y<|Tr<|Rm Y<|R2 JC Y<|Za<|K7 1 4 10 54 55 56 68 Y<|If h Y (fun h=>?_) fun h=>?_
      ·
       refine K1 10 Y<|Tr<|Rm Y<|Ra Y<|Ra Y<|Za<|?_
       replace h := lx h ▸ ho3
       obtain rfl := rt h
       exact Zk (Zp Y (.two (rb Y)<|rb Y))
      ·
       exact Ze<|K5 1 4 54 55 56 Y<|Zy<|R2 Z5 Y<|Rm Y<|Za<|⟨_, h, ES []⟩
     ·
      refine ZC<|?_
      replace h := lx h ▸ ho3
      exact ⟨(), h, ES []⟩
    ·
     replace h := elr h
     replace h := t0i h
     refine Tr<|Rx Y (ZaZ 0 Y Zia)<|Ra Y<|Za<|J0 (fun j => (.inr j)) ⟨[], []⟩ h (fun h=>?_) fun h=>?_
     ·
      refine K2 1 12 Y<|Tr<|Rq Y (Zd (ov Y) QC)<|Rq Y (Zc (ov Y) J5 Y)<|Rl tZ_44 Qy Y<|Rm Y<|Za<|Zh<|?_
      obtain ⟨r4, hl4, ho4⟩ := QA h
      refine L2 (fun t i4=>⟨[(12, .mref 0 1), (73, .sl 44 (List.map R44 m.Params)), (74, .int .i64 (m.Params.length : Int)), (75, .int .i64 i4)], [some ⟨54, [[.mcon (List.map (ZZ Qn FV4) t)]]⟩]⟩) hl4 (ES [some 0] (hhp := .cons Y (ZD (fk := Qn) (fv := FV4) (m := ([] : List ((Vector Int 3) × Bool))) tZ_54 (fun _=>ZN<|rld<|arD fun _ => Y) fun _=>.ren<|.dat Y) .nil)) fun n4 t i4 h=>?_
      unfold JE at h
      refine Tr<|R2 ZM Y<|Za<|Zl<|If h Y (fun h=>?_) fun h=>?_
      ·
       refine Ze<|Zl<|Zh<|K4 12 73 74 75 Y<|Tr<|Rm Y<|bE h fun x4 h_x4 h=>Rq Y (ZE (ov Y) (ov Y) Qy h_x4)<|Rq Y (Zj (ov Y) Zw Y Y)<|Rx Y (Zs (row := [_, _, _, _, _, _, _, _]) 1 Y JZ Y tZ_44)<|Ra Y<|Rx Y (Zg (ov Y) (ov Y) (Zf Zw Y) Y Y Y (Nat.le_of_ble_eq_true Y) (Zb Y) Y)<|Za<|K6 12 13 14 73 74 75 Y<|Tr<|Rm Y<|Rq Y (Zn (ov Y) Y Y Y Zw Y Y)<|Rm Y<|bE h fun y4 h_y4 h=>Rq Y (Zr (ZaD h_y4)<|.cons (ov Y) (.aggB Y)<|.cons (ov Y) (.b Y) .nil)<|bE h fun y5 h_y5 h=>Rx Y (QS [0] (JM h_y5) (.cons (ov Y) (.mref _ Y)<|.cons (ov Y) (.dat Y) .nil) (.cons Y (ZD (fk := Qn) (fv := FV4) (m := t) tZ_54 (fun _=>ZN<|rld<|arD fun _ => Y) fun _=>.ren<|.dat Y) .nil) Y (.lent 0 (.inl Y) Y (ZD (fk := Qn) (fv := FV4) (m := y5.2) tZ_54 (fun _=>ZN<|rld<|arD fun _ => Y) fun _=>.ren<|.dat Y)<|.keep Y Y .nil) Y Y<|.dat Y)<|R1 Xy Y<|Za<|K6 12 13 73 74 75 85 Y<|If h Y (fun h=>?_) fun h=>?_
       ·
        refine K1 13 Y<|Tr<|Rm Y<|Ra Y<|Ra Y<|Za<|?_
        replace h := lx h ▸ ho4
        obtain rfl := rt h
        exact Zk (Zp Y (.two (rb Y)<|rb Y))
       ·
        exact Ze<|K4 12 73 74 75 Y<|Zy<|R2 Z5 Y<|Rm Y<|Za<|⟨_, h, ES [some 0] (hhp := .cons Y (ZD (fk := Qn) (fv := FV4) (m := y5.2) tZ_54 (fun _=>ZN<|rld<|arD fun _ => Y) fun _=>.ren<|.dat Y) .nil)⟩
      ·
       refine ZC<|?_
       replace h := lx h ▸ ho4
       exact ⟨(), h, ES []⟩
     ·
      replace h := elr h
      replace h := t0i h
      refine Tr<|Ra Y<|Ra Y<|Za<|?_
      obtain rfl := rt h
      exact Zk (Zp Y (.two (rb Y)<|rb Y))
theorem ZfQ {m : api_Map} {r : (List api_Cell)} (h : ZaC m = some r) :
 CSpec Try.prog gl0 24 [.agg [.int .i64 m.Version, .sl 44 (List.map R44 m.Params)]] (.sl 34 (List.map R34 r)) := by
 unfold ZaC at h
 replace h := Qf h
 refine So Try.func24 Y fun w0 A=>Tr<|Rq Y (ZY (cva<|ov Y) Y tZ_24 Y)<|Ra Y<|Za<|K1 1 Y<|Tr<|Ra Y<|Za<|I1 (fun out=>⟨[(3, .own 0 out.length)], [some ⟨34, List.map R34 out⟩]⟩) h (fun h=>?_) fun out h=>?_
 ·
  refine Tr<|Rq Y (Zd (ov Y) QC)<|Rq Y (Zc (ov Y) J5 Y)<|Rl tZ_44 Qy Y<|Rm Y<|Za<|Zh<|?_
  obtain ⟨r1, hl1, ho1⟩ := QA h
  refine L2 (fun out2 i=>⟨[(3, .own 0 out2.length), (7, .sl 44 (List.map R44 m.Params)), (8, .int .i64 (m.Params.length : Int)), (9, .int .i64 i)], [some ⟨34, List.map R34 out2⟩]⟩) hl1 (ES [none]) fun n1 out2 i h=>?_
  unfold ZbQ at h
  refine Tr<|R2 ZM Y<|Za<|Zl<|If h Y (fun h=>?_) fun h=>?_
  ·
   exact Ze<|Zl<|Zh<|K4 3 7 8 9 Y<|Tr<|Rm Y<|bE h fun x h_x h=>Rq Y (ZE (ov Y) (ov Y) Qy h_x)<|Rq Y (Zj (ov Y) Zw Y Y)<|Rx Y (Zs (row := [_, _, _, _, _, _, _, _]) 1 Y JZ Y tZ_44)<|Ra Y<|Rx Y (Zg (ov Y) (ov Y) (Zf Zw Y) Y Y Y (Nat.le_of_ble_eq_true Y) (Zb Y) Y)<|Za<|K6 3 4 5 7 8 9 Y<|Zy<|Rm Y<|Rq Y (Zn (ov Y) Y Y Y Zw Y Y)<|Rm Y<|bE h fun y h_y h=>Rq Y (Zr (ZaD h_y)<|.cons (ov Y) (.aggB Y)<|.cons (ov Y) (.b Y) .nil)<|bE h fun l h_l h=>Rx Y (Xj (ov Y) (ZV (ov Y) tZ_34) Zb6 Y Y (fun _=>Zb Y) Y h_l)<|Ra Y<|Za<|K4 3 7 8 9 Y<|Zy<|R2 Z5 Y<|Rm Y<|Za<|⟨_, h, ES [some 0]⟩
  ·
   refine ZC<|?_
   replace h := lx h ▸ ho1
   exact ⟨_, h, ES [some 0]⟩
 ·
  refine Tr<|Rm Y<|Ra Y<|Za<|?_
  obtain rfl := rt h
  exact Zk (Zp Y (.one<|.tmp Y<|View.ownM Y Y D34))
theorem ZcH {m : api_Map} {p : api_Param} {q : api_Param} {r : Bool} (h : ZbZ m p q = some r) :
 CSpec Try.prog gl0 34 [.agg [.int .i64 m.Version, .sl 44 (List.map R44 m.Params)], .agg [.str p.Name, .int .i64 p.Kind, .sl 64 (List.map R64 p.Parts), .int .i64 p.First, .int .i64 p.Every, .int .i64 p.Times, .int .i64 p.Step, .sl 9 (List.map R9 p.Names)], .agg [.str q.Name, .int .i64 q.Kind, .sl 64 (List.map R64 q.Parts), .int .i64 q.First, .int .i64 q.Every, .int .i64 q.Times, .int .i64 q.Step, .sl 9 (List.map R9 q.Names)]] (.bool r) := by
 unfold ZbZ at h
 replace h := Qf h
 refine So Try.func34 Y fun w0 A=>Tr<|Rq Y (ZY (cva<|ov Y) Y tZ_24 Y)<|Rq Y (ZY (cva<|ov Y) Y tZ_44 Y)<|Rq Y (ZY (cva<|ov Y) Y tZ_44 Y)<|Ra Y<|Za<|Zl<|K3 3 4 5 Y<|Tr<|Rq Y (Zj (ov Y) Zw Y Y)<|bE h fun y h_y h=>Rq Y (Zr (Zcv h_y)<|.cons (ov Y) (.aggB Y) .nil)<|R2 Qp Y<|Za<|K4 3 4 5 15 Y<|If h Y (fun h=>?_) fun h=>?_
 ·
  refine K0<|Tr<|Ra Y<|Za<|?_
  obtain rfl := rt h
  exact Zk (Zp Y (.one<|rb Y))
 ·
  refine Ze<|K3 3 4 5 Y<|Tr<|Rx Y (ZaZ 0 Y Zia)<|Ra Y<|Za<|K4 3 4 5 7 Y<|Tr<|Rm Y<|Rq Y (Zj (ov Y) Zao Y Y)<|bE h fun y2 h_y2 h=>Rq Y (Zr (ZfQ h_y2)<|.cons (ov Y) (.aggB Y) .nil)<|bE h fun y3 h_y3 h=>Rx Y (QS [0] (JM h_y3) (.cons (ov Y) (.mref _ Y)<|.cons (ov Y) (.dat Y) .nil) (.cons Y (ZD (fk := Qn) (fv := FV4) (m := ([] : List ((Vector Int 3) × Bool))) tZ_54 (fun _=>ZN<|rld<|arD fun _ => Y) fun _=>.ren<|.dat Y) .nil) Y (.lent 0 (.inl Y) Y (ZD (fk := Qn) (fv := FV4) (m := y3.2) tZ_54 (fun _=>ZN<|rld<|arD fun _ => Y) fun _=>.ren<|.dat Y) .nil) Y Y<|.dat Y)<|Za<|J0 (fun j => (.inr j)) ⟨[], []⟩ h (fun h=>?_) fun h=>?_
  ·
   refine K3 4 5 7 Y<|Tr<|Rq Y (Zj (ov Y) Zw Y Y)<|bE h fun y4 h_y4 h=>Rq Y (Zr (ZaD h_y4)<|.cons (ov Y) (.aggB Y)<|.cons (ov Y) (.b Y) .nil)<|Rl tZ_34 Zb6 Y<|Rm Y<|Za<|Zh<|?_
   obtain ⟨r1, hl1, ho1⟩ := QA h
   refine L2 (fun t i=>⟨[(4, .rp [.str p.Name, .int .i64 p.Kind, .sl 64 (List.map R64 p.Parts), .int .i64 p.First, .int .i64 p.Every, .int .i64 p.Times, .int .i64 p.Step, .sl 9 (List.map R9 p.Names)] 0), (5, .rp [.str q.Name, .int .i64 q.Kind, .sl 64 (List.map R64 q.Parts), .int .i64 q.First, .int .i64 q.Every, .int .i64 q.Times, .int .i64 q.Step, .sl 9 (List.map R9 q.Names)] 0), (7, .mref 0 1), (22, .sl 34 (List.map R34 y4)), (23, .int .i64 (y4.length : Int)), (24, .int .i64 i)], [some ⟨54, [[.mcon (List.map (ZZ Qn FV4) t)]]⟩]⟩) hl1 (ES [some 0] (hhp := .cons Y (ZD (fk := Qn) (fv := FV4) (m := y3.2) tZ_54 (fun _=>ZN<|rld<|arD fun _ => Y) fun _=>.ren<|.dat Y) .nil)) fun n1 t i h=>?_
   unfold Jd at h
   refine Tr<|R2 ZM Y<|Za<|Zl<|If h Y (fun h=>?_) fun h=>?_
   ·
    refine Ze<|J1 (fun j => (.inr j)) (fun t2=>⟨[(4, .rp [.str p.Name, .int .i64 p.Kind, .sl 64 (List.map R64 p.Parts), .int .i64 p.First, .int .i64 p.Every, .int .i64 p.Times, .int .i64 p.Step, .sl 9 (List.map R9 p.Names)] 0), (5, .rp [.str q.Name, .int .i64 q.Kind, .sl 64 (List.map R64 q.Parts), .int .i64 q.First, .int .i64 q.Every, .int .i64 q.Times, .int .i64 q.Step, .sl 9 (List.map R9 q.Names)] 0), (7, .mref 0 1), (22, .sl 34 (List.map R34 y4)), (23, .int .i64 (y4.length : Int)), (24, .int .i64 i)], [some ⟨54, [[.mcon (List.map (ZZ Qn FV4) t2)]]⟩]⟩) h (fun h=>?_) fun t2 h=>?_
    ·
     refine Zh<|K6 4 5 7 22 23 24 Y<|Tr<|bE h fun x h_x h=>Rq Y (ZE (ov Y) (ov Y) Zb6 h_x)<|Rq Y (Zj (ov Y) Zdn Y Y)<|Rx Y (Zs (row := [_, _, _, _]) 1 Y ZgJ Y tZ_34)<|Rx Y (Zg (ov Y) (ov Y) (Zf Zdn Y) Y Y Y (Nat.le_of_ble_eq_true Y) (Zb Y) Y)<|Za<|K7 4 5 7 9 22 23 24 Y<|Tr<|Rq Y (Zi (ov Y) Y Y Zk5)<|Rq Y (Zm (ov Y) Y Y Y tS3 Y)<|Rq Y (Zd (ov Y) ZaQ)<|Rq Y (Zc (ov Y) tS3 Y)<|bE h fun q2 h_q2 h=>Rq Y (Zh0 (ov Y) (ov Y) h_q2)<|Ra Y<|Za<|K8 4 5 7 9 10 22 23 24 Y<|Tr<|Rq Y (Zd (ov Y) Q4)<|Rq Y (Zc (ov Y) Zbv Y)<|Rl tZ_64 Xs Y<|Rm Y<|Za<|Zh<|?_
     obtain ⟨r2, hl2, ho2⟩ := QA h
     refine L2 (fun t3 i2=>⟨[(4, .rp [.str p.Name, .int .i64 p.Kind, .sl 64 (List.map R64 p.Parts), .int .i64 p.First, .int .i64 p.Every, .int .i64 p.Times, .int .i64 p.Step, .sl 9 (List.map R9 p.Names)] 0), (5, .rp [.str q.Name, .int .i64 q.Kind, .sl 64 (List.map R64 q.Parts), .int .i64 q.First, .int .i64 q.Every, .int .i64 q.Times, .int .i64 q.Step, .sl 9 (List.map R9 q.Names)] 0), (7, .mref 0 1), (9, .ptr 1 1 0 0), (10, .int .i64 q2), (22, .sl 34 (List.map R34 y4)), (23, .int .i64 (y4.length : Int)), (24, .int .i64 i), (34, .sl 64 (List.map R64 q.Parts)), (35, .int .i64 (q.Parts.length : Int)), (36, .int .i64 i2)], [some ⟨54, [[.mcon (List.map (ZZ Qn FV4) t3)]]⟩, some ⟨34, [[.int .i64 x.Param, .int .i64 x.Index, .int .i64 x.Frame, .sl 59 (List.map R59 x.Places)]]⟩]⟩) hl2 (ES [some 0, some 1] (hhp := .cons Y (ZD (fk := Qn) (fv := FV4) (m := t) tZ_54 (fun _=>ZN<|rld<|arD fun _ => Y) fun _=>.ren<|.dat Y)<|.cons Y (ro1 (by exact tZ_34.symm)<|rld Y) .nil)) fun n2 t3 i2 h=>?_
     unfold Jh at h
     refine Tr<|R2 ZM Y<|Za<|Zl<|If h Y (fun h=>?_) fun h=>?_
     ·
      refine Ze<|Zl<|Zh<|K11 4 5 7 9 10 22 23 24 34 35 36 Y<|Tr<|bE h fun x2 h_x2 h=>Rq Y (ZE (ov Y) (ov Y) Xs h_x2)<|Rq Y (Zj (ov Y) X8 Y Y)<|Rx Y (Zs (row := [_, _, _, _]) 2 Y ZeR Y tZ_64)<|Rx Y (Zg (ov Y) (ov Y) (Zf X8 Y) Y Y Y (Nat.le_of_ble_eq_true Y) (Zb Y) Y)<|Za<|K12 4 5 7 9 10 12 22 23 24 34 35 36 Y<|Tr<|Rm Y<|Rq Y (Zi (ov Y) Y Y Zmk)<|Rq Y (Zm (ov Y) Y Y Y tS3 Y)<|Rq Y (Zi (ov Y) Y Y Ze2)<|Rq Y (Zm (ov Y) Y Y Y tS3 Y)<|R2 Z5 Y<|Rq Y (Zi (ov Y) Y Y Zb9)<|Rq Y (Zm (ov Y) Y Y Y tS3 Y)<|Rm Y<|Rq Y (Zd (ov Y) Zbp)<|Rq Y (Zc (ov Y) tS3 Y)<|R2 Zhc Y<|R2 Z5 Y<|Rq Y (Zi (ov Y) Y Y Zcd)<|Rq Y (Zm (ov Y) Y Y Y tS3 Y)<|Rq Y (Zi (ov Y) Y Y Zdm)<|Rq Y (Zm (ov Y) Y Y Y tS3 Y)<|Rq Y (Z7 (ys := [_, _, _, _]) Zkg Zlb ZhQ (.cons (cvs (ov Y)<|Zq Y)<|.cons (cvs (ov Y)<|Zq Y)<|.cons (cvs (ov Y)<|Zq Y)<|.cons (cvs (ov Y)<|Zq Y) .nil) Y)<|R_q (.sl 59<|List.map R59 ([(api_Place.mk (i64 (x.Frame + x2.Frame)) (i64 (x2.Word + (i64 (q2 * q.Step)))) x2.Low x2.Bits)] : List api_Place)) Y (X7 ZdL (.cons (cva<|ov Y) Y (pwD Y) .nil) Y Y)<|bE h fun y5 h_y5 h=>Rx Y (QS [0] (Zct h_y5) (.cons (ov Y) (.mref _ Y)<|.cons (ov Y) (.dat Y) .nil) (.cons Y (ZD (fk := Qn) (fv := FV4) (m := t3) tZ_54 (fun _=>ZN<|rld<|arD fun _ => Y) fun _=>.ren<|.dat Y) .nil) Y (.lent 0 (.inl Y) Y (ZD (fk := Qn) (fv := FV4) (m := y5.2) tZ_54 (fun _=>ZN<|rld<|arD fun _ => Y) fun _=>.ren<|.dat Y)<|.keep Y Y<|.keep Y Y .nil) Y Y<|.dat Y)<|R1 Xy Y<|Za<|K12 4 5 7 9 10 22 23 24 34 35 36 60 Y<|If h Y (fun h=>?_) fun h=>?_
      ·
       refine K0<|Tr<|Ra Y<|Za<|?_
       replace h := lx h ▸ ho2
       replace h := lx h ▸ ho1
       obtain rfl := rt h
       exact Zk (Zp Y (.one<|rb Y))
      ·
       exact Ze<|K11 4 5 7 9 10 22 23 24 34 35 36 Y<|Zy<|R2 Z5 Y<|Rm Y<|Za<|⟨_, h, ES [some 0, some 1] (hhp := .cons Y (ZD (fk := Qn) (fv := FV4) (m := y5.2) tZ_54 (fun _=>ZN<|rld<|arD fun _ => Y) fun _=>.ren<|.dat Y)<|.cons Y (ro1 (by exact tZ_34.symm)<|rld Y) .nil)⟩
     ·
      refine ZC<|?_
      replace h := lx h ▸ ho2
      exact ⟨_, h, ES [some 0] (hhp := .cons Y (ZD (fk := Qn) (fv := FV4) (m := t3) tZ_54 (fun _=>ZN<|rld<|arD fun _ => Y) fun _=>.ren<|.dat Y) .nil)⟩
    ·
     replace h := elr h
     replace h := t1i h
     exact Zy<|R2 Z5 Y<|Rm Y<|Za<|⟨_, h, ES [some 0] (hhp := .cons Y (ZD (fk := Qn) (fv := FV4) (m := t2) tZ_54 (fun _=>ZN<|rld<|arD fun _ => Y) fun _=>.ren<|.dat Y) .nil)⟩
   ·
    refine ZC<|?_
    replace h := lx h ▸ ho1
    exact ⟨(), h, ES []⟩
  ·
   replace h := elr h
   replace h := t0i h
   refine Tr<|Ra Y<|Za<|?_
   obtain rfl := rt h
   exact Zk (Zp Y (.one<|rb Y))
theorem ZiQ {m : api_Map} {p : api_Param} {r : api_Param × Int} (h : Zeg m p = some r) :
 CSpec Try.prog gl0 15 [.agg [.int .i64 m.Version, .sl 44 (List.map R44 m.Params)], .agg [.str p.Name, .int .i64 p.Kind, .sl 64 (List.map R64 p.Parts), .int .i64 p.First, .int .i64 p.Every, .int .i64 p.Times, .int .i64 p.Step, .sl 9 (List.map R9 p.Names)]] (.tuple [.agg [.str r.1.Name, .int .i64 r.1.Kind, .sl 64 (List.map R64 r.1.Parts), .int .i64 r.1.First, .int .i64 r.1.Every, .int .i64 r.1.Times, .int .i64 r.1.Step, .sl 9 (List.map R9 r.1.Names)], .int .i64 r.2]) := by
 unfold Zeg at h
 replace h := Qf h
 refine So Try.func15 Y fun w0 A=>Tr<|Rq Y (ZY (cva<|ov Y) Y tZ_24 Y)<|Rq Y (ZY (cva<|ov Y) Y tZ_44 Y)<|Rx Y (Zs (row := [_, _, _, _, _, _, _, _]) 0 Y JZ Y tZ_44)<|Ra Y<|Za<|Zl<|K3 2 3 4 Y<|Tr<|Rq Y (Zj (ov Y) Zao Y Y)<|bE h fun y h_y h=>Rq Y (Zr (X0 h_y)<|.cons (ov Y) (.aggB Y) .nil)<|Rm Y<|Rq Y (Zo (ov Y) Y)<|Rq Y (Zo (ov Y) Y)<|Ra Y<|Ra Y<|Za<|K4 2 3 4 7 Y<|Tr<|Rm Y<|R2 Qp Y<|Za<|K5 2 3 4 7 27 Y<|If h Y (fun h=>?_) fun h=>?_
 ·
  refine K2 4 7 Y<|Tr<|Rq Y (Z7 (ys := [_, _, _, _, _, _, _, _]) Zby ZbA JZ .nil Y)<|Rm Y<|Rx Y (Zg (ov Y) (ov Y) (Zf Zw Y) Y Y Y (Nat.le_of_ble_eq_true Y) (Zb Y) Y)<|Ra Y<|Za<|?_
  obtain rfl := rt h
  exact Zk (Zp Y (.two (.agg Y Y Y Y Zw Y Y<|.cons (Dat.view<|.b Y)<|.cons (Dat.view<|.b Y)<|.cons (View.nils 64)<|.cons (Dat.view<|.b Y)<|.cons (Dat.view<|.b Y)<|.cons (Dat.view<|.b Y)<|.cons (Dat.view<|.b Y)<|.cons (View.nils 9) .nil)<|rb Y))
 ·
  refine Ze<|Zl<|K3 2 3 4 Y<|Tr<|Rq Y (Zj (ov Y) Zw Y Y)<|bE h fun y2 h_y2 h=>Rq Y (Zr (Zcu h_y2)<|.cons (ov Y) (.aggB Y) .nil)<|Ra Y<|Za<|K4 2 3 4 8 Y<|Tr<|Rm Y<|R2 Qp Y<|Za<|K5 2 3 4 8 33 Y<|If h Y (fun h=>?_) fun h=>?_
  ·
   refine K2 4 8 Y<|Tr<|Rq Y (Z7 (ys := [_, _, _, _, _, _, _, _]) Zby ZbA JZ .nil Y)<|Rm Y<|Rx Y (Zg (ov Y) (ov Y) (Zf Zw Y) Y Y Y (Nat.le_of_ble_eq_true Y) (Zb Y) Y)<|Ra Y<|Za<|?_
   obtain rfl := rt h
   exact Zk (Zp Y (.two (.agg Y Y Y Y Zw Y Y<|.cons (Dat.view<|.b Y)<|.cons (Dat.view<|.b Y)<|.cons (View.nils 64)<|.cons (Dat.view<|.b Y)<|.cons (Dat.view<|.b Y)<|.cons (Dat.view<|.b Y)<|.cons (Dat.view<|.b Y)<|.cons (View.nils 9) .nil)<|rb Y))
  ·
   refine Ze<|J0 (fun j => (.inr j)) ⟨[(2, .rp [.int .i64 m.Version, .sl 44 (List.map R44 m.Params)] 0), (3, .rp [.str p.Name, .int .i64 p.Kind, .sl 64 (List.map R64 p.Parts), .int .i64 p.First, .int .i64 p.Every, .int .i64 p.Times, .int .i64 p.Step, .sl 9 (List.map R9 p.Names)] 0), (4, .ptr 0 1 0 0)], [some ⟨44, [[.str [], .int .i64 0, .nils, .int .i64 0, .int .i64 0, .int .i64 0, .int .i64 0, .nils]]⟩]⟩ h (fun h=>?_) fun h=>?_
   ·
    refine K3 2 3 4 Y<|Tr<|Rq Y (Zd (ov Y) QC)<|Rq Y (Zc (ov Y) J5 Y)<|Rl tZ_44 Qy Y<|Rm Y<|Za<|Zh<|?_
    obtain ⟨r1, hl1, ho1⟩ := QA h
    refine L1 (fun i=>⟨[(2, .rp [.int .i64 m.Version, .sl 44 (List.map R44 m.Params)] 0), (3, .rp [.str p.Name, .int .i64 p.Kind, .sl 64 (List.map R64 p.Parts), .int .i64 p.First, .int .i64 p.Every, .int .i64 p.Times, .int .i64 p.Step, .sl 9 (List.map R9 p.Names)] 0), (4, .ptr 0 1 0 0), (37, .sl 44 (List.map R44 m.Params)), (38, .int .i64 (m.Params.length : Int)), (39, .int .i64 i)], [some ⟨44, [[.str [], .int .i64 0, .nils, .int .i64 0, .int .i64 0, .int .i64 0, .int .i64 0, .nils]]⟩]⟩) hl1 (ES [some 0]) fun n1 i h=>?_
    unfold Zb7 at h
    refine Tr<|R2 ZM Y<|Za<|Zl<|If h Y (fun h=>?_) fun h=>?_
    ·
     refine Ze<|Zl<|Zh<|K6 2 3 4 37 38 39 Y<|Tr<|bE h fun x h_x h=>Rq Y (ZE (ov Y) (ov Y) Qy h_x)<|Rq Y (Zj (ov Y) Zw Y Y)<|Rx Y (Zs (row := [_, _, _, _, _, _, _, _]) 1 Y JZ Y tZ_44)<|Rx Y (Zg (ov Y) (ov Y) (Zf Zw Y) Y Y Y (Nat.le_of_ble_eq_true Y) (Zb Y) Y)<|Za<|K7 2 3 4 10 37 38 39 Y<|Tr<|Rq Y (Zi (ov Y) Y Y Zch)<|Rq Y (Zm (ov Y) Y Y Y tS9 Y)<|Rq Y (Zd (ov Y) Zch)<|Rq Y (Zc (ov Y) tS9 Y)<|R2 Zcz Y<|Za<|K7 2 3 4 37 38 39 47 Y<|If h Y (fun h=>?_) fun h=>?_
     ·
      refine K1 4 Y<|Tr<|Rq Y (Z7 (ys := [_, _, _, _, _, _, _, _]) Zby ZbA JZ .nil Y)<|Rx Y (Zg (ov Y) (ov Y) (Zf Zw Y) Y Y Y (Nat.le_of_ble_eq_true Y) (Zb Y) Y)<|Ra Y<|Za<|?_
      replace h := lx h ▸ ho1
      obtain rfl := rt h
      exact Zk (Zp Y (.two (.agg Y Y Y Y Zw Y Y<|.cons (Dat.view<|.b Y)<|.cons (Dat.view<|.b Y)<|.cons (View.nils 64)<|.cons (Dat.view<|.b Y)<|.cons (Dat.view<|.b Y)<|.cons (Dat.view<|.b Y)<|.cons (Dat.view<|.b Y)<|.cons (View.nils 9) .nil)<|rb Y))
     ·
      exact Ze<|K6 2 3 4 37 38 39 Y<|Zy<|R2 Z5 Y<|Rm Y<|Za<|⟨_, h, ES [some 0]⟩
    ·
     refine ZC<|?_
     replace h := lx h ▸ ho1
     exact ⟨(), h, ES [some 0]⟩
   ·
    replace h := elr h
    replace h := t0i h
    refine Tr<|Rq Y (Zj (ov Y) Zw Y Y)<|Rx Y (Zs (row := [_, _, _, _, _, _, _, _]) 1 Y JZ Y tZ_44)<|Rx Y (Zg (ov Y) (ov Y) (Zf Zw Y) Y Y Y (Nat.le_of_ble_eq_true Y) (Zb Y) Y)<|Za<|K4 2 3 4 11 Y<|Tr<|Rq Y (Zi (ov Y) Y Y Q4)<|Rx Y (Zg (ov Y) (ov Y) (Zv Zbv) Y Y Y (Nat.le_of_ble_eq_true Y) (Zb Y) Y)<|Za<|J1 (fun j => (.inr j)) (fun Parts=>⟨[(2, .rp [.int .i64 m.Version, .sl 44 (List.map R44 m.Params)] 0), (4, .ptr 0 1 0 0), (11, .ptr 1 1 0 0)], [some ⟨44, [[.str [], .int .i64 0, .nils, .int .i64 0, .int .i64 0, .int .i64 0, .int .i64 0, .nils]]⟩, some ⟨44, [[.str p.Name, .int .i64 p.Kind, .own 2 Parts.length, .int .i64 p.First, .int .i64 p.Every, .int .i64 p.Times, .int .i64 p.Step, .sl 9 (List.map R9 p.Names)]]⟩, some ⟨64, List.map R64 Parts⟩]⟩) h (fun h=>?_) fun Parts h=>?_
    ·
     refine K4 2 3 4 11 Y<|Tr<|Rq Y (Zd (ov Y) Q4)<|Rq Y (Zc (ov Y) Zbv Y)<|Rl tZ_64 Xs Y<|Rm Y<|Za<|Zh<|?_
     obtain ⟨r2, hl2, ho2⟩ := QA h
     refine L2 (fun Parts2 i2=>⟨[(2, .rp [.int .i64 m.Version, .sl 44 (List.map R44 m.Params)] 0), (3, .rp [.str p.Name, .int .i64 p.Kind, .sl 64 (List.map R64 p.Parts), .int .i64 p.First, .int .i64 p.Every, .int .i64 p.Times, .int .i64 p.Step, .sl 9 (List.map R9 p.Names)] 0), (4, .ptr 0 1 0 0), (11, .ptr 1 1 0 0), (53, .sl 64 (List.map R64 p.Parts)), (54, .int .i64 (p.Parts.length : Int)), (55, .int .i64 i2)], [some ⟨44, [[.str [], .int .i64 0, .nils, .int .i64 0, .int .i64 0, .int .i64 0, .int .i64 0, .nils]]⟩, some ⟨44, [[.str p.Name, .int .i64 p.Kind, .own 2 Parts2.length, .int .i64 p.First, .int .i64 p.Every, .int .i64 p.Times, .int .i64 p.Step, .sl 9 (List.map R9 p.Names)]]⟩, some ⟨64, List.map R64 Parts2⟩]⟩) hl2 (ES [some 0, some 1, none]) fun n2 Parts2 i2 h=>?_
     unfold J2 at h
     refine Tr<|R2 ZM Y<|Za<|Zl<|If h Y (fun h=>?_) fun h=>?_
     ·
      refine Ze<|Zl<|Zh<|K7 2 3 4 11 53 54 55 Y<|Tr<|bE h fun x2 h_x2 h=>Rq Y (ZE (ov Y) (ov Y) Xs h_x2)<|Rq Y (Zj (ov Y) X8 Y Y)<|Rx Y (Zs (row := [_, _, _, _]) 3 Y ZeR Y tZ_64)<|Rx Y (Zg (ov Y) (ov Y) (Zf X8 Y) Y Y Y (Nat.le_of_ble_eq_true Y) (Zb Y) Y)<|Za<|K8 2 3 4 11 13 53 54 55 Y<|Tr<|Ra Y<|Za<|I2 (fun Parts3 found=>⟨[(2, .rp [.int .i64 m.Version, .sl 44 (List.map R44 m.Params)] 0), (3, .rp [.str p.Name, .int .i64 p.Kind, .sl 64 (List.map R64 p.Parts), .int .i64 p.First, .int .i64 p.Every, .int .i64 p.Times, .int .i64 p.Step, .sl 9 (List.map R9 p.Names)] 0), (4, .ptr 0 1 0 0), (11, .ptr 1 1 0 0), (14, .bool found), (53, .sl 64 (List.map R64 p.Parts)), (54, .int .i64 (p.Parts.length : Int)), (55, .int .i64 i2)], [some ⟨44, [[.str [], .int .i64 0, .nils, .int .i64 0, .int .i64 0, .int .i64 0, .int .i64 0, .nils]]⟩, some ⟨44, [[.str p.Name, .int .i64 p.Kind, .own 2 Parts3.length, .int .i64 p.First, .int .i64 p.Every, .int .i64 p.Times, .int .i64 p.Step, .sl 9 (List.map R9 p.Names)]]⟩, some ⟨64, List.map R64 Parts3⟩]⟩) h (fun h=>?_) fun Parts3 found h=>?_
      ·
       refine Tr<|Ra Y<|Za<|Zh<|?_
       obtain ⟨r3, hl3, ho3⟩ := QA h
       refine L4 (fun Parts4 x3 found2 w=>⟨[(2, .rp [.int .i64 m.Version, .sl 44 (List.map R44 m.Params)] 0), (3, .rp [.str p.Name, .int .i64 p.Kind, .sl 64 (List.map R64 p.Parts), .int .i64 p.First, .int .i64 p.Every, .int .i64 p.Times, .int .i64 p.Step, .sl 9 (List.map R9 p.Names)] 0), (4, .ptr 0 1 0 0), (11, .ptr 1 1 0 0), (13, .ptr 3 1 0 0), (14, .bool found2), (15, .int .i64 w), (53, .sl 64 (List.map R64 p.Parts)), (54, .int .i64 (p.Parts.length : Int)), (55, .int .i64 i2)], [some ⟨44, [[.str [], .int .i64 0, .nils, .int .i64 0, .int .i64 0, .int .i64 0, .int .i64 0, .nils]]⟩, some ⟨44, [[.str p.Name, .int .i64 p.Kind, .own 2 Parts4.length, .int .i64 p.First, .int .i64 p.Every, .int .i64 p.Times, .int .i64 p.Step, .sl 9 (List.map R9 p.Names)]]⟩, some ⟨64, List.map R64 Parts4⟩, some ⟨64, [[.int .i64 x3.Frame, .int .i64 x3.Word, .int .i64 x3.Low, .int .i64 x3.Bits]]⟩]⟩) hl3 (ES [some 0, some 1, some 2, some 3]) fun n3 Parts4 x3 found2 w h=>?_
       unfold Jl at h
       refine Zl<|Tr<|Rm Y<|R2 ZdJ Y<|Rm Y<|Rq Y (.guarded ((decide (w ≤ 60)) == true) Y Y Y Y fun h => Zz<|ov Y)<|Rq Y (.guarded ((decide (w ≤ 60)) == true) Y Y Y Y fun h => Xy<|ow Y h)<|Rq Y (Xx (ov Y) fun hp=>ow Y<|gT hp)<|Za<|K11 2 3 4 11 13 14 15 53 54 55 64 Y<|If h Y (fun h=>?_) fun h=>?_
       ·
        refine Ze<|I3 (fun Parts5 x4 found3=>⟨[(2, .rp [.int .i64 m.Version, .sl 44 (List.map R44 m.Params)] 0), (3, .rp [.str p.Name, .int .i64 p.Kind, .sl 64 (List.map R64 p.Parts), .int .i64 p.First, .int .i64 p.Every, .int .i64 p.Times, .int .i64 p.Step, .sl 9 (List.map R9 p.Names)] 0), (4, .ptr 0 1 0 0), (11, .ptr 1 1 0 0), (13, .ptr 3 1 0 0), (14, .bool found3), (15, .int .i64 w), (53, .sl 64 (List.map R64 p.Parts)), (54, .int .i64 (p.Parts.length : Int)), (55, .int .i64 i2)], [some ⟨44, [[.str [], .int .i64 0, .nils, .int .i64 0, .int .i64 0, .int .i64 0, .int .i64 0, .nils]]⟩, some ⟨44, [[.str p.Name, .int .i64 p.Kind, .own 2 Parts5.length, .int .i64 p.First, .int .i64 p.Every, .int .i64 p.Times, .int .i64 p.Step, .sl 9 (List.map R9 p.Names)]]⟩, some ⟨64, List.map R64 Parts5⟩, some ⟨64, [[.int .i64 x4.Frame, .int .i64 x4.Word, .int .i64 x4.Low, .int .i64 x4.Bits]]⟩]⟩) h (fun h=>?_) fun Parts5 x4 found3 h=>?_
        ·
         refine Zh<|K10 2 3 4 11 13 14 15 53 54 55 Y<|Tr<|Ra Y<|Za<|Zh<|?_
         obtain ⟨r4, hl4, ho4⟩ := QA h
         refine L4 (fun Parts6 x5 found4 low=>⟨[(2, .rp [.int .i64 m.Version, .sl 44 (List.map R44 m.Params)] 0), (3, .rp [.str p.Name, .int .i64 p.Kind, .sl 64 (List.map R64 p.Parts), .int .i64 p.First, .int .i64 p.Every, .int .i64 p.Times, .int .i64 p.Step, .sl 9 (List.map R9 p.Names)] 0), (4, .ptr 0 1 0 0), (11, .ptr 1 1 0 0), (13, .ptr 3 1 0 0), (14, .bool found4), (15, .int .i64 w), (16, .int .i64 low), (53, .sl 64 (List.map R64 p.Parts)), (54, .int .i64 (p.Parts.length : Int)), (55, .int .i64 i2)], [some ⟨44, [[.str [], .int .i64 0, .nils, .int .i64 0, .int .i64 0, .int .i64 0, .int .i64 0, .nils]]⟩, some ⟨44, [[.str p.Name, .int .i64 p.Kind, .own 2 Parts6.length, .int .i64 p.First, .int .i64 p.Every, .int .i64 p.Times, .int .i64 p.Step, .sl 9 (List.map R9 p.Names)]]⟩, some ⟨64, List.map R64 Parts6⟩, some ⟨64, [[.int .i64 x5.Frame, .int .i64 x5.Word, .int .i64 x5.Low, .int .i64 x5.Bits]]⟩]⟩) hl4 (ES [some 0, some 1, some 2, some 3]) fun n4 Parts6 x5 found4 low h=>?_
         unfold Jm at h
         refine Zl<|Tr<|Rm Y<|Rq Y (Zi (ov Y) Y Y Zdm)<|Rq Y (Zm (ov Y) Y Y Y tS3 Y)<|R2 Z5 Y<|R2 ZdJ Y<|Rm Y<|Rq Y (.guarded ((decide ((i64 (low + x5.Bits)) ≤ 11)) == true) Y Y Y Y fun h => Zz<|ov Y)<|Rq Y (.guarded ((decide ((i64 (low + x5.Bits)) ≤ 11)) == true) Y Y Y Y fun h => Xy<|ow Y h)<|Rq Y (Xx (ov Y) fun hp=>ow Y<|gT hp)<|Za<|K12 2 3 4 11 13 14 15 16 53 54 55 75 Y<|If h Y (fun h=>?_) fun h=>?_
         ·
          refine Ze<|I2 (fun Parts7 found5=>⟨[(2, .rp [.int .i64 m.Version, .sl 44 (List.map R44 m.Params)] 0), (3, .rp [.str p.Name, .int .i64 p.Kind, .sl 64 (List.map R64 p.Parts), .int .i64 p.First, .int .i64 p.Every, .int .i64 p.Times, .int .i64 p.Step, .sl 9 (List.map R9 p.Names)] 0), (4, .ptr 0 1 0 0), (11, .ptr 1 1 0 0), (13, .ptr 3 1 0 0), (14, .bool found5), (15, .int .i64 w), (16, .int .i64 low), (53, .sl 64 (List.map R64 p.Parts)), (54, .int .i64 (p.Parts.length : Int)), (55, .int .i64 i2)], [some ⟨44, [[.str [], .int .i64 0, .nils, .int .i64 0, .int .i64 0, .int .i64 0, .int .i64 0, .nils]]⟩, some ⟨44, [[.str p.Name, .int .i64 p.Kind, .own 2 Parts7.length, .int .i64 p.First, .int .i64 p.Every, .int .i64 p.Times, .int .i64 p.Step, .sl 9 (List.map R9 p.Names)]]⟩, some ⟨64, List.map R64 Parts7⟩, some ⟨64, [[.int .i64 x5.Frame, .int .i64 w, .int .i64 low, .int .i64 x5.Bits]]⟩]⟩) h (fun h=>?_) fun Parts7 found5 h=>?_
          ·
           refine Zh<|K11 2 3 4 11 13 14 15 16 53 54 55 Y<|Tr<|Rm Y<|Rm Y<|Rq Y (Zi (ov Y) Y Y Zb9)<|Rx Y (Zg (ov Y) (ov Y) (Zv tS3) Y Y Y (Nat.le_of_ble_eq_true Y) (Zb Y) Y)<|Rq Y (Zi (ov Y) Y Y Zcd)<|Rx Y (Zg (ov Y) (ov Y) (Zv tS3) Y Y Y (Nat.le_of_ble_eq_true Y) (Zb Y) Y)<|Za<|K11 2 3 4 11 13 14 15 16 53 54 55 Y<|Tr<|Rq Y (Zn (ov Y) Y Y Y Zw Y Y)<|Rx Y (Zs (row := [_, _, _, _, _, _, _, _]) 4 Y JZ Y tZ_44)<|Rx Y (Zg (ov Y) (ov Y) (Zf Zw Y) Y Y Y (Nat.le_of_ble_eq_true Y) (Zb Y) Y)<|Za<|K12 2 3 4 11 13 14 15 16 17 53 54 55 Y<|Td ⟨true, true, [some ⟨44, [[.str [], .int .i64 0, .nils, .int .i64 0, .int .i64 0, .int .i64 0, .int .i64 0, .nils]]⟩, some ⟨44, [[.str p.Name, .int .i64 p.Kind, .own 2 Parts6.length, .int .i64 p.First, .int .i64 p.Every, .int .i64 p.Times, .int .i64 p.Step, .sl 9 (List.map R9 p.Names)]]⟩, some ⟨64, List.map R64 Parts6⟩, some ⟨64, [[.int .i64 x5.Frame, .int .i64 w, .int .i64 low, .int .i64 x5.Bits]]⟩, some ⟨44, [[.str p.Name, .int .i64 p.Kind, .own 2 Parts6.length, .int .i64 p.First, .int .i64 p.Every, .int .i64 p.Times, .int .i64 p.Step, .sl 9 (List.map R9 p.Names)]]⟩], [], [4]⟩<|ZcW 1 _ Y (by kernel_rfl) Y Y Y (EL.ext<|.keep<|.keep<|.keep<|.keep<|.wr Y Y Y .nil) (fun hp' hx=>Zi (ov Y) (hx.get Y Y) Y Q4)<|ZcW 2 _ Y (by kernel_rfl) Y Y Y (EL.ext<|.keep<|.keep<|.keep<|.keep<|.wr Y Y Y .nil) (fun hp' hx=>Zm (ov Y) (hx.get Y Y) Y Y Zbv Y)<|ZcW 4 _ Y (by kernel_rfl) Y Y Y (EL.ext<|.keep<|.keep<|.keep<|.keep<|.wr Y Y Y .nil) (fun hp' hx=>Zn (ov Y) (hx.get Y Y) Y Y X8 Y Y)<|ZgO 0 5 Y Y (by kernel_rfl) Y Y Y Y (fun h=>by cases h) (fun h=>by cases h) (fun _=>by exact EL.ext (.keep <| .keep <| .keep <| .keep <| .wr rfl rfl rfl <| .nil)) (fun _=>by exact EL.ext (.keep <| .keep <| .keep <| .keep <| .wr rfl rfl rfl <| .nil)) (ZdX (r := 5) (xs := ([] : List api_Part)) (f := R64) Y Xs .nil Y Y Y) (ZaO<|X7 Xs (.cons (cva<|ov Y) Y (pwD Y) .nil) Y Y) ?_ ?_
           ·
            refine bE h fun l h_l h=>ZgO 3 5 Y Y (by kernel_rfl) Y Y Y Y (fun h=>by cases h) (fun h=>by cases h) (fun _=>by exact EL.ext (.keep <| .keep <| .keep <| .keep <| .wr rfl rfl rfl <| .nil)) (fun _=>by exact EL.ext (.keep <| .keep <| .keep <| .keep <| .wr rfl rfl rfl <| .nil)) (Xj (ov Y) (Zh9 (o := ⟨64, List.map R64 Parts6⟩) (ov Y) Y (List.length_map ..) tZ_64) Xs Y Y (fun _=>Zb Y) Y h_l) (ZaO<|X7 Xs (.cons (cva<|ov Y) Y (pwD Y) .nil) Y Y) ?_ ?_
            ·
             refine QR 5 (.sl 64<|List.map R64 ([(api_Part.mk x5.Frame w low x5.Bits)] : List api_Part)) _ Y (by kernel_rfl) Y Y (fun h=>by cases h) (fun _=>by exact EL.ext (.keep <| .keep <| .keep <| .keep <| .wr rfl rfl rfl <| .nil)) (ZaO<|X7 Xs (.cons (cva<|ov Y) Y (pwD Y) .nil) Y Y)<|bE h fun l2 h_l2 h=>QR 6 _ _ Y (by kernel_rfl) Y Y (fun h=>by cases h) (fun _=>by exact EL.ext (.keep <| .keep <| .keep <| .keep <| .wr rfl rfl rfl <| .nil)) (ZX (ov Y) (ZV (ov Y) tZ_64) Xs Y Y Y (fun _=>Zb Y) Y h_l2)<|Dq 7 Y (Zi (ov Y) Y Y Q4)<|QR 8 _ _ Y (by kernel_rfl) Y Y (fun h=>by cases h) (fun _=>by exact EL.ext (.keep <| .keep <| .keep <| .keep <| .wr rfl rfl rfl <| .nil)) (Zg (ov Y) (ov Y) (Zv Zbv) Y Y Y (Nat.le_of_ble_eq_true Y) (Zb Y) Y)<|Dd<|K12 2 3 4 11 13 14 15 16 17 53 54 55 Y<|Tr<|Rq Y (Zj (ov Y) Zao Y Y)<|Rq Y (Zj (ov Y) Zw Y Y)<|Rq Y (Zn (ov Y) Y Y Y Zw Y Y)<|bE h fun y3 h_y3 h=>Rq Y (Ja (ZcH h_y3) .bool<|.cons (ov Y) (Dat.view<|.aggB Y)<|.cons (ov Y) (Dat.view<|.aggB Y)<|.cons (ov Y) (View.aggL<|.cons (Dat.view<|.b Y)<|.cons (Dat.view<|.b Y)<|.cons (View.ownM Y Y D64)<|.cons (Dat.view<|.b Y)<|.cons (Dat.view<|.b Y)<|.cons (Dat.view<|.b Y)<|.cons (Dat.view<|.b Y)<|.cons (Dat.view<|.b Y) .nil) .nil)<|Za<|XE (kc 2 Y<|kc 3 Y<|kc 4 Y<|kc 11 Y<|kc 13 Y<|kc 14 Y<|kc 15 Y<|kc 16 Y<|kc 17 Y<|kc 53 Y<|kc 54 Y<|kc 55 Y<|kc 94 Y kn) Y<|If h Y (fun h=>?_) fun h=>?_
             ·
              exact K12 2 3 4 11 13 14 15 16 17 53 54 55 Y<|Zy<|Rq Y (Zn (ov Y) Y Y Y Zw Y Y)<|Rx Y (Zg (ov Y) (ov Y) (Zf Zw Y) Y Y Y (Nat.le_of_ble_eq_true Y) (Zb Y) Y)<|Ra Y<|Za<|⟨_, h, ES [some 0, some 1, some 5, some 3]⟩
             ·
              exact Ze<|⟨_, h, ES [some 0, some 1, some 2, some 3]⟩
            ·
             refine QR 3 _ _ Y (by kernel_rfl) Y Y (fun h=>by cases h) (fun _=>by exact EL.ext (.keep <| .keep <| .keep <| .keep <| .wr rfl rfl rfl <| .nil)) (Xj (ov Y) (Zh9 (o := ⟨64, List.map R64 Parts6⟩) (ov Y) Y (List.length_map ..) tZ_64) Xs Y Y (fun _=>Zb Y) Y h_l)<|bE h fun l2 h_l2 h=>QR 6 _ _ Y (by kernel_rfl) Y Y (fun h=>by cases h) (fun _=>by exact EL.ext (.keep <| .keep <| .keep <| .keep <| .wr rfl rfl rfl <| .nil)) (ZX (ov Y) (ZV (ov Y) tZ_64) Xs Y Y Y (fun _=>Zb Y) Y h_l2)<|Dq 7 Y (Zi (ov Y) Y Y Q4)<|QR 8 _ _ Y (by kernel_rfl) Y Y (fun h=>by cases h) (fun _=>by exact EL.ext (.keep <| .keep <| .keep <| .keep <| .wr rfl rfl rfl <| .nil)) (Zg (ov Y) (ov Y) (Zv Zbv) Y Y Y (Nat.le_of_ble_eq_true Y) (Zb Y) Y)<|Dd<|K12 2 3 4 11 13 14 15 16 17 53 54 55 Y<|Tr<|Rq Y (Zj (ov Y) Zao Y Y)<|Rq Y (Zj (ov Y) Zw Y Y)<|Rq Y (Zn (ov Y) Y Y Y Zw Y Y)<|bE h fun y3 h_y3 h=>Rq Y (Ja (ZcH h_y3) .bool<|.cons (ov Y) (Dat.view<|.aggB Y)<|.cons (ov Y) (Dat.view<|.aggB Y)<|.cons (ov Y) (View.aggL<|.cons (Dat.view<|.b Y)<|.cons (Dat.view<|.b Y)<|.cons (View.ownM Y Y D64)<|.cons (Dat.view<|.b Y)<|.cons (Dat.view<|.b Y)<|.cons (Dat.view<|.b Y)<|.cons (Dat.view<|.b Y)<|.cons (Dat.view<|.b Y) .nil) .nil)<|Za<|XE (kc 2 Y<|kc 3 Y<|kc 4 Y<|kc 11 Y<|kc 13 Y<|kc 14 Y<|kc 15 Y<|kc 16 Y<|kc 17 Y<|kc 53 Y<|kc 54 Y<|kc 55 Y<|kc 94 Y kn) Y<|If h Y (fun h=>?_) fun h=>?_
             ·
              exact K12 2 3 4 11 13 14 15 16 17 53 54 55 Y<|Zy<|Rq Y (Zn (ov Y) Y Y Y Zw Y Y)<|Rx Y (Zg (ov Y) (ov Y) (Zf Zw Y) Y Y Y (Nat.le_of_ble_eq_true Y) (Zb Y) Y)<|Ra Y<|Za<|⟨_, h, ES [some 0, some 1, some 5, some 3]⟩
             ·
              exact Ze<|⟨_, h, ES [some 0, some 1, some 2, some 3]⟩
           ·
            refine QR 0 _ _ Y (by kernel_rfl) Y Y (fun h=>by cases h) (fun _=>by exact EL.ext (.keep <| .keep <| .keep <| .keep <| .wr rfl rfl rfl <| .nil)) (ZdX (r := 5) (xs := ([] : List api_Part)) (f := R64) Y Xs .nil Y Y Y)<|bE h fun l h_l h=>QR 3 _ _ Y (by kernel_rfl) Y Y (fun h=>by cases h) (fun _=>by exact EL.ext (.keep <| .keep <| .keep <| .keep <| .wr rfl rfl rfl <| .nil)) (Xj (ov Y) (Zh9 (o := ⟨64, List.map R64 Parts6⟩) (ov Y) Y (List.length_map ..) tZ_64) Xs Y Y (fun _=>Zb Y) Y h_l)<|bE h fun l2 h_l2 h=>QR 6 _ _ Y (by kernel_rfl) Y Y (fun h=>by cases h) (fun _=>by exact EL.ext (.keep <| .keep <| .keep <| .keep <| .wr rfl rfl rfl <| .nil)) (ZX (ov Y) (ZV (ov Y) tZ_64) Xs Y Y Y (fun _=>Zb Y) Y h_l2)<|Dq 7 Y (Zi (ov Y) Y Y Q4)<|QR 8 _ _ Y (by kernel_rfl) Y Y (fun h=>by cases h) (fun _=>by exact EL.ext (.keep <| .keep <| .keep <| .keep <| .wr rfl rfl rfl <| .nil)) (Zg (ov Y) (ov Y) (Zv Zbv) Y Y Y (Nat.le_of_ble_eq_true Y) (Zb Y) Y)<|Dd<|K12 2 3 4 11 13 14 15 16 17 53 54 55 Y<|Tr<|Rq Y (Zj (ov Y) Zao Y Y)<|Rq Y (Zj (ov Y) Zw Y Y)<|Rq Y (Zn (ov Y) Y Y Y Zw Y Y)<|bE h fun y3 h_y3 h=>Rq Y (Ja (ZcH h_y3) .bool<|.cons (ov Y) (Dat.view<|.aggB Y)<|.cons (ov Y) (Dat.view<|.aggB Y)<|.cons (ov Y) (View.aggL<|.cons (Dat.view<|.b Y)<|.cons (Dat.view<|.b Y)<|.cons (View.ownM Y Y D64)<|.cons (Dat.view<|.b Y)<|.cons (Dat.view<|.b Y)<|.cons (Dat.view<|.b Y)<|.cons (Dat.view<|.b Y)<|.cons (Dat.view<|.b Y) .nil) .nil)<|Za<|XE (kc 2 Y<|kc 3 Y<|kc 4 Y<|kc 11 Y<|kc 13 Y<|kc 14 Y<|kc 15 Y<|kc 16 Y<|kc 17 Y<|kc 53 Y<|kc 54 Y<|kc 55 Y<|kc 94 Y kn) Y<|If h Y (fun h=>?_) fun h=>?_
            ·
             exact K12 2 3 4 11 13 14 15 16 17 53 54 55 Y<|Zy<|Rq Y (Zn (ov Y) Y Y Y Zw Y Y)<|Rx Y (Zg (ov Y) (ov Y) (Zf Zw Y) Y Y Y (Nat.le_of_ble_eq_true Y) (Zb Y) Y)<|Ra Y<|Za<|⟨_, h, ES [some 0, some 1, some 5, some 3]⟩
            ·
             exact Ze<|⟨_, h, ES [some 0, some 1, some 2, some 3]⟩
          ·
           exact Zy<|Rm Y<|R2 Z5 Y<|Ra Y<|Za<|⟨_, h, ES [some 0, some 1, some 2, some 3]⟩
         ·
          refine ZC<|?_
          replace h := lx h ▸ ho4
          exact ⟨_, h, ES [some 0, some 1, some 2, some 3]⟩
        ·
         exact Zy<|Rm Y<|R2 Z5 Y<|Ra Y<|Za<|⟨_, h, ES [some 0, some 1, some 2, some 3]⟩
       ·
        refine ZC<|?_
        replace h := lx h ▸ ho3
        exact ⟨_, h, ES [some 0, some 1, some 2]⟩
      ·
       refine Tr<|Rm Y<|R1 Xy Y<|Za<|K8 2 3 4 11 53 54 55 97 Y<|If h Y (fun h=>?_) fun h=>?_
       ·
        refine K1 4 Y<|Tr<|Rq Y (Z7 (ys := [_, _, _, _, _, _, _, _]) Zby ZbA JZ .nil Y)<|Rx Y (Zg (ov Y) (ov Y) (Zf Zw Y) Y Y Y (Nat.le_of_ble_eq_true Y) (Zb Y) Y)<|Ra Y<|Za<|?_
        replace h := lx h ▸ ho2
        obtain rfl := rt h
        exact Zk (Zp Y (.two (.agg Y Y Y Y Zw Y Y<|.cons (Dat.view<|.b Y)<|.cons (Dat.view<|.b Y)<|.cons (View.nils 64)<|.cons (Dat.view<|.b Y)<|.cons (Dat.view<|.b Y)<|.cons (Dat.view<|.b Y)<|.cons (Dat.view<|.b Y)<|.cons (View.nils 9) .nil)<|rb Y))
       ·
        exact Ze<|K7 2 3 4 11 53 54 55 Y<|Zy<|R2 Z5 Y<|Rm Y<|Za<|⟨_, h, ES [some 0, some 1, some 2]⟩
     ·
      refine ZC<|?_
      replace h := lx h ▸ ho2
      exact ⟨_, h, ES [some 0, some 1, some 2]⟩
    ·
     replace h := elr h
     replace h := t1i h
     refine Tr<|Rq Y (Zj (ov Y) Zao Y Y)<|Rx Y (Zs (row := [_, _]) 3 Y ZlW Y tZ_24)<|Rx Y (Zg (ov Y) (ov Y) (Zf Zao Y) Y Y Y (Nat.le_of_ble_eq_true Y) (Zb Y) Y)<|Za<|K4 2 4 11 18 Y<|ZhE (Ent.sel [some 0, some 1, none, some 3] (sd 2 Y Y<|sr 4 Y (.ptr (r' := 0) _ _ _ Y)<|sr 11 Y (.ptr (r' := 1) _ _ _ Y)<|sr 18 Y (.ptr (r' := 3) _ _ _ Y) sn) (.cons Y (ro1 (by exact tZ_44.symm)<|rlc (.dat Y)<|rlc (.dat Y)<|rlc (.dat Y)<|rlc (.dat Y)<|rlc (.dat Y)<|rlc (.dat Y)<|rlc (.dat Y)<|rlc (.dat Y) rln)<|.cons Y (ro1 (by exact tZ_44.symm)<|rlc (.dat Y)<|rlc (.dat Y)<|rlc (ZiY Y Y Y D64)<|rlc (.dat Y)<|rlc (.dat Y)<|rlc (.dat Y)<|rlc (.dat Y)<|rlc (.dat Y) rln)<|.row 64<|.cons Y (ro1 (by exact tZ_24.symm)<|rld Y) .nil) Y Y)<|Td ⟨true, false, [], [102, 103], []⟩<|ZkG 1 _ Y (by kernel_rfl) Y Y (fun hp'=>Zd (ov Y) QC)<|ZkG 2 _ Y (by kernel_rfl) Y Y (fun hp'=>Zc (ov Y) J5 Y)<|Dw 4 0 Y (Zn (ov Y) Y Y Y Zw Y Y) (ZdX (r := 4) (xs := ([] : List api_Param)) (f := R44) Y Qy .nil Y Y Y) ?_ ?_
     ·
      refine ZgO 0 5 Y Y (by kernel_rfl) Y Y Y Y (fun h=>by cases h) (fun h=>by cases h) (fun h=>by cases h) (fun h=>by cases h) (ZdX (r := 4) (xs := ([] : List api_Param)) (f := R44) Y Qy .nil Y Y Y) (ZaO<|X7 Qy (.cons (cva<|ov Y) Y (pwD Y) .nil) Y Y) ?_ ?_
      ·
       refine bE h fun l3 h_l3 h=>ZgO 3 5 Y Y (by kernel_rfl) Y Y Y Y (fun h=>by cases h) (fun h=>by cases h) (fun h=>by cases h) (fun h=>by cases h) (Xj (ov Y) (ZV (ov Y) tZ_44) Qy Y Y (fun _=>Zb Y) Y h_l3) (ZaO<|X7 Qy (.cons (cva<|ov Y) Y (pwD Y) .nil) Y Y) ?_ ?_
       ·
        refine QR 5 (.sl 44<|List.map R44 ([(api_Param.mk p.Name p.Kind Parts p.First p.Every p.Times p.Step p.Names)] : List api_Param)) _ Y (by kernel_rfl) Y Y (fun h=>by cases h) (fun h=>by cases h) (ZaO<|X7 Qy (.cons (cva<|ov Y) Y (pwD Y) .nil) Y Y)<|bE h fun l4 h_l4 h=>Do 6 Y (ZX (ov Y) (ZV (ov Y) tZ_44) Qy Y Y Y (fun _=>Zb Y) Y h_l4)<|Dq 7 Y (Zi (ov Y) Y Y QC)<|Do 8 Y (Zg (ov Y) (ov Y) (Zv J5) Y Y Y (Nat.le_of_ble_eq_true Y) (Zb Y) Y)<|Dd<|Zl<|K3 4 11 18 Y<|Tr<|Rq Y (Zn (ov Y) Y Y Y Zao Y Y)<|bE h fun y4 h_y4 h=>Rq Y (Ja (X0 h_y4) (.tuple<|by simp only [List.mem_cons, List.not_mem_nil, or_false, forall_eq_or_imp, forall_eq]; exact ⟨.int, .int⟩)<|.cons (ov Y) (View.aggL<|.cons (Dat.view<|.b Y)<|.cons (View.ownM Y Y D44) .nil) .nil)<|Rm Y<|Rq Y (Zo (ov Y) Y)<|Rq Y (Zo (ov Y) Y)<|Ra Y<|Ra Y<|Za<|K3 4 11 20 Y<|Tr<|Rm Y<|R2 Qp Y<|Za<|K4 4 11 20 115 Y<|If h Y (fun h=>?_) fun h=>?_
        ·
         refine K2 4 20 Y<|Tr<|Rq Y (Z7 (ys := [_, _, _, _, _, _, _, _]) Zby ZbA JZ .nil Y)<|Rm Y<|Rx Y (Zg (ov Y) (ov Y) (Zf Zw Y) Y Y Y (Nat.le_of_ble_eq_true Y) (Zb Y) Y)<|Ra Y<|Za<|?_
         obtain rfl := rt h
         exact Zk (Zp Y (.two (.agg Y Y Y Y Zw Y Y<|.cons (Dat.view<|.b Y)<|.cons (Dat.view<|.b Y)<|.cons (View.nils 64)<|.cons (Dat.view<|.b Y)<|.cons (Dat.view<|.b Y)<|.cons (Dat.view<|.b Y)<|.cons (Dat.view<|.b Y)<|.cons (View.nils 9) .nil)<|rb Y))
        ·
         refine Ze<|K2 4 11 Y<|Tr<|Rq Y (Zn (ov Y) Y Y Y Zw Y Y)<|Rx Y (Zg (ov Y) (ov Y) (Zf Zw Y) Y Y Y (Nat.le_of_ble_eq_true Y) (Zb Y) Y)<|Ra Y<|Za<|?_
         obtain rfl := rt h
         exact Zk (Zp Y (.two (.agg Y Y Y Y Zw Y Y<|pwB Y)<|rb Y))
       ·
        refine Do 3 Y (Xj (ov Y) (ZV (ov Y) tZ_44) Qy Y Y (fun _=>Zb Y) Y h_l3)<|bE h fun l4 h_l4 h=>Do 6 Y (ZX (ov Y) (ZV (ov Y) tZ_44) Qy Y Y Y (fun _=>Zb Y) Y h_l4)<|Dq 7 Y (Zi (ov Y) Y Y QC)<|Do 8 Y (Zg (ov Y) (ov Y) (Zv J5) Y Y Y (Nat.le_of_ble_eq_true Y) (Zb Y) Y)<|Dd<|Zl<|K3 4 11 18 Y<|Tr<|Rq Y (Zn (ov Y) Y Y Y Zao Y Y)<|bE h fun y4 h_y4 h=>Rq Y (Ja (X0 h_y4) (.tuple<|by simp only [List.mem_cons, List.not_mem_nil, or_false, forall_eq_or_imp, forall_eq]; exact ⟨.int, .int⟩)<|.cons (ov Y) (View.aggL<|.cons (Dat.view<|.b Y)<|.cons (View.ownM Y Y D44) .nil) .nil)<|Rm Y<|Rq Y (Zo (ov Y) Y)<|Rq Y (Zo (ov Y) Y)<|Ra Y<|Ra Y<|Za<|K3 4 11 20 Y<|Tr<|Rm Y<|R2 Qp Y<|Za<|K4 4 11 20 115 Y<|If h Y (fun h=>?_) fun h=>?_
        ·
         refine K2 4 20 Y<|Tr<|Rq Y (Z7 (ys := [_, _, _, _, _, _, _, _]) Zby ZbA JZ .nil Y)<|Rm Y<|Rx Y (Zg (ov Y) (ov Y) (Zf Zw Y) Y Y Y (Nat.le_of_ble_eq_true Y) (Zb Y) Y)<|Ra Y<|Za<|?_
         obtain rfl := rt h
         exact Zk (Zp Y (.two (.agg Y Y Y Y Zw Y Y<|.cons (Dat.view<|.b Y)<|.cons (Dat.view<|.b Y)<|.cons (View.nils 64)<|.cons (Dat.view<|.b Y)<|.cons (Dat.view<|.b Y)<|.cons (Dat.view<|.b Y)<|.cons (Dat.view<|.b Y)<|.cons (View.nils 9) .nil)<|rb Y))
        ·
         refine Ze<|K2 4 11 Y<|Tr<|Rq Y (Zn (ov Y) Y Y Y Zw Y Y)<|Rx Y (Zg (ov Y) (ov Y) (Zf Zw Y) Y Y Y (Nat.le_of_ble_eq_true Y) (Zb Y) Y)<|Ra Y<|Za<|?_
         obtain rfl := rt h
         exact Zk (Zp Y (.two (.agg Y Y Y Y Zw Y Y<|pwB Y)<|rb Y))
      ·
       refine Do 0 Y (ZdX (r := 4) (xs := ([] : List api_Param)) (f := R44) Y Qy .nil Y Y Y)<|bE h fun l3 h_l3 h=>Do 3 Y (Xj (ov Y) (ZV (ov Y) tZ_44) Qy Y Y (fun _=>Zb Y) Y h_l3)<|bE h fun l4 h_l4 h=>Do 6 Y (ZX (ov Y) (ZV (ov Y) tZ_44) Qy Y Y Y (fun _=>Zb Y) Y h_l4)<|Dq 7 Y (Zi (ov Y) Y Y QC)<|Do 8 Y (Zg (ov Y) (ov Y) (Zv J5) Y Y Y (Nat.le_of_ble_eq_true Y) (Zb Y) Y)<|Dd<|Zl<|K3 4 11 18 Y<|Tr<|Rq Y (Zn (ov Y) Y Y Y Zao Y Y)<|bE h fun y4 h_y4 h=>Rq Y (Ja (X0 h_y4) (.tuple<|by simp only [List.mem_cons, List.not_mem_nil, or_false, forall_eq_or_imp, forall_eq]; exact ⟨.int, .int⟩)<|.cons (ov Y) (View.aggL<|.cons (Dat.view<|.b Y)<|.cons (View.ownM Y Y D44) .nil) .nil)<|Rm Y<|Rq Y (Zo (ov Y) Y)<|Rq Y (Zo (ov Y) Y)<|Ra Y<|Ra Y<|Za<|K3 4 11 20 Y<|Tr<|Rm Y<|R2 Qp Y<|Za<|K4 4 11 20 115 Y<|If h Y (fun h=>?_) fun h=>?_
       ·
        refine K2 4 20 Y<|Tr<|Rq Y (Z7 (ys := [_, _, _, _, _, _, _, _]) Zby ZbA JZ .nil Y)<|Rm Y<|Rx Y (Zg (ov Y) (ov Y) (Zf Zw Y) Y Y Y (Nat.le_of_ble_eq_true Y) (Zb Y) Y)<|Ra Y<|Za<|?_
        obtain rfl := rt h
        exact Zk (Zp Y (.two (.agg Y Y Y Y Zw Y Y<|.cons (Dat.view<|.b Y)<|.cons (Dat.view<|.b Y)<|.cons (View.nils 64)<|.cons (Dat.view<|.b Y)<|.cons (Dat.view<|.b Y)<|.cons (Dat.view<|.b Y)<|.cons (Dat.view<|.b Y)<|.cons (View.nils 9) .nil)<|rb Y))
       ·
        refine Ze<|K2 4 11 Y<|Tr<|Rq Y (Zn (ov Y) Y Y Y Zw Y Y)<|Rx Y (Zg (ov Y) (ov Y) (Zf Zw Y) Y Y Y (Nat.le_of_ble_eq_true Y) (Zb Y) Y)<|Ra Y<|Za<|?_
        obtain rfl := rt h
        exact Zk (Zp Y (.two (.agg Y Y Y Y Zw Y Y<|pwB Y)<|rb Y))
     ·
      refine bE h fun l3 h_l3 h=>Dw 4 3 Y (Zn (ov Y) Y Y Y Zw Y Y) (Xj (ov Y) (ZV (ov Y) tZ_44) Qy Y Y (fun _=>Zb Y) Y h_l3) ?_ ?_
      ·
       refine ZgO 3 5 Y Y (by kernel_rfl) Y Y Y Y (fun h=>by cases h) (fun h=>by cases h) (fun h=>by cases h) (fun h=>by cases h) (Xj (ov Y) (ZV (ov Y) tZ_44) Qy Y Y (fun _=>Zb Y) Y h_l3) (ZaO<|X7 Qy (.cons (cva<|ov Y) Y (pwD Y) .nil) Y Y) ?_ ?_
       ·
        refine QR 5 (.sl 44<|List.map R44 ([(api_Param.mk p.Name p.Kind Parts p.First p.Every p.Times p.Step p.Names)] : List api_Param)) _ Y (by kernel_rfl) Y Y (fun h=>by cases h) (fun h=>by cases h) (ZaO<|X7 Qy (.cons (cva<|ov Y) Y (pwD Y) .nil) Y Y)<|bE h fun l4 h_l4 h=>Do 6 Y (ZX (ov Y) (ZV (ov Y) tZ_44) Qy Y Y Y (fun _=>Zb Y) Y h_l4)<|Dq 7 Y (Zi (ov Y) Y Y QC)<|Do 8 Y (Zg (ov Y) (ov Y) (Zv J5) Y Y Y (Nat.le_of_ble_eq_true Y) (Zb Y) Y)<|Dd<|Zl<|K3 4 11 18 Y<|Tr<|Rq Y (Zn (ov Y) Y Y Y Zao Y Y)<|bE h fun y4 h_y4 h=>Rq Y (Ja (X0 h_y4) (.tuple<|by simp only [List.mem_cons, List.not_mem_nil, or_false, forall_eq_or_imp, forall_eq]; exact ⟨.int, .int⟩)<|.cons (ov Y) (View.aggL<|.cons (Dat.view<|.b Y)<|.cons (View.ownM Y Y D44) .nil) .nil)<|Rm Y<|Rq Y (Zo (ov Y) Y)<|Rq Y (Zo (ov Y) Y)<|Ra Y<|Ra Y<|Za<|K3 4 11 20 Y<|Tr<|Rm Y<|R2 Qp Y<|Za<|K4 4 11 20 115 Y<|If h Y (fun h=>?_) fun h=>?_
        ·
         refine K2 4 20 Y<|Tr<|Rq Y (Z7 (ys := [_, _, _, _, _, _, _, _]) Zby ZbA JZ .nil Y)<|Rm Y<|Rx Y (Zg (ov Y) (ov Y) (Zf Zw Y) Y Y Y (Nat.le_of_ble_eq_true Y) (Zb Y) Y)<|Ra Y<|Za<|?_
         obtain rfl := rt h
         exact Zk (Zp Y (.two (.agg Y Y Y Y Zw Y Y<|.cons (Dat.view<|.b Y)<|.cons (Dat.view<|.b Y)<|.cons (View.nils 64)<|.cons (Dat.view<|.b Y)<|.cons (Dat.view<|.b Y)<|.cons (Dat.view<|.b Y)<|.cons (Dat.view<|.b Y)<|.cons (View.nils 9) .nil)<|rb Y))
        ·
         refine Ze<|K2 4 11 Y<|Tr<|Rq Y (Zn (ov Y) Y Y Y Zw Y Y)<|Rx Y (Zg (ov Y) (ov Y) (Zf Zw Y) Y Y Y (Nat.le_of_ble_eq_true Y) (Zb Y) Y)<|Ra Y<|Za<|?_
         obtain rfl := rt h
         exact Zk (Zp Y (.two (.agg Y Y Y Y Zw Y Y<|pwB Y)<|rb Y))
       ·
        refine Do 3 Y (Xj (ov Y) (ZV (ov Y) tZ_44) Qy Y Y (fun _=>Zb Y) Y h_l3)<|bE h fun l4 h_l4 h=>Do 6 Y (ZX (ov Y) (ZV (ov Y) tZ_44) Qy Y Y Y (fun _=>Zb Y) Y h_l4)<|Dq 7 Y (Zi (ov Y) Y Y QC)<|Do 8 Y (Zg (ov Y) (ov Y) (Zv J5) Y Y Y (Nat.le_of_ble_eq_true Y) (Zb Y) Y)<|Dd<|Zl<|K3 4 11 18 Y<|Tr<|Rq Y (Zn (ov Y) Y Y Y Zao Y Y)<|bE h fun y4 h_y4 h=>Rq Y (Ja (X0 h_y4) (.tuple<|by simp only [List.mem_cons, List.not_mem_nil, or_false, forall_eq_or_imp, forall_eq]; exact ⟨.int, .int⟩)<|.cons (ov Y) (View.aggL<|.cons (Dat.view<|.b Y)<|.cons (View.ownM Y Y D44) .nil) .nil)<|Rm Y<|Rq Y (Zo (ov Y) Y)<|Rq Y (Zo (ov Y) Y)<|Ra Y<|Ra Y<|Za<|K3 4 11 20 Y<|Tr<|Rm Y<|R2 Qp Y<|Za<|K4 4 11 20 115 Y<|If h Y (fun h=>?_) fun h=>?_
        ·
         refine K2 4 20 Y<|Tr<|Rq Y (Z7 (ys := [_, _, _, _, _, _, _, _]) Zby ZbA JZ .nil Y)<|Rm Y<|Rx Y (Zg (ov Y) (ov Y) (Zf Zw Y) Y Y Y (Nat.le_of_ble_eq_true Y) (Zb Y) Y)<|Ra Y<|Za<|?_
         obtain rfl := rt h
         exact Zk (Zp Y (.two (.agg Y Y Y Y Zw Y Y<|.cons (Dat.view<|.b Y)<|.cons (Dat.view<|.b Y)<|.cons (View.nils 64)<|.cons (Dat.view<|.b Y)<|.cons (Dat.view<|.b Y)<|.cons (Dat.view<|.b Y)<|.cons (Dat.view<|.b Y)<|.cons (View.nils 9) .nil)<|rb Y))
        ·
         refine Ze<|K2 4 11 Y<|Tr<|Rq Y (Zn (ov Y) Y Y Y Zw Y Y)<|Rx Y (Zg (ov Y) (ov Y) (Zf Zw Y) Y Y Y (Nat.le_of_ble_eq_true Y) (Zb Y) Y)<|Ra Y<|Za<|?_
         obtain rfl := rt h
         exact Zk (Zp Y (.two (.agg Y Y Y Y Zw Y Y<|pwB Y)<|rb Y))
      ·
       refine Dq 4 Y (Zn (ov Y) Y Y Y Zw Y Y)<|QR 5 (.sl 44<|List.map R44 ([(api_Param.mk p.Name p.Kind Parts p.First p.Every p.Times p.Step p.Names)] : List api_Param)) _ Y (by kernel_rfl) Y Y (fun h=>by cases h) (fun h=>by cases h) (ZaO<|X7 Qy (.cons (cva<|ov Y) Y (pwD Y) .nil) Y Y)<|bE h fun l4 h_l4 h=>Do 6 Y (ZX (ov Y) (ZV (ov Y) tZ_44) Qy Y Y Y (fun _=>Zb Y) Y h_l4)<|Dq 7 Y (Zi (ov Y) Y Y QC)<|Do 8 Y (Zg (ov Y) (ov Y) (Zv J5) Y Y Y (Nat.le_of_ble_eq_true Y) (Zb Y) Y)<|Dd<|Zl<|K3 4 11 18 Y<|Tr<|Rq Y (Zn (ov Y) Y Y Y Zao Y Y)<|bE h fun y4 h_y4 h=>Rq Y (Ja (X0 h_y4) (.tuple<|by simp only [List.mem_cons, List.not_mem_nil, or_false, forall_eq_or_imp, forall_eq]; exact ⟨.int, .int⟩)<|.cons (ov Y) (View.aggL<|.cons (Dat.view<|.b Y)<|.cons (View.ownM Y Y D44) .nil) .nil)<|Rm Y<|Rq Y (Zo (ov Y) Y)<|Rq Y (Zo (ov Y) Y)<|Ra Y<|Ra Y<|Za<|K3 4 11 20 Y<|Tr<|Rm Y<|R2 Qp Y<|Za<|K4 4 11 20 115 Y<|If h Y (fun h=>?_) fun h=>?_
       ·
        refine K2 4 20 Y<|Tr<|Rq Y (Z7 (ys := [_, _, _, _, _, _, _, _]) Zby ZbA JZ .nil Y)<|Rm Y<|Rx Y (Zg (ov Y) (ov Y) (Zf Zw Y) Y Y Y (Nat.le_of_ble_eq_true Y) (Zb Y) Y)<|Ra Y<|Za<|?_
        obtain rfl := rt h
        exact Zk (Zp Y (.two (.agg Y Y Y Y Zw Y Y<|.cons (Dat.view<|.b Y)<|.cons (Dat.view<|.b Y)<|.cons (View.nils 64)<|.cons (Dat.view<|.b Y)<|.cons (Dat.view<|.b Y)<|.cons (Dat.view<|.b Y)<|.cons (Dat.view<|.b Y)<|.cons (View.nils 9) .nil)<|rb Y))
       ·
        refine Ze<|K2 4 11 Y<|Tr<|Rq Y (Zn (ov Y) Y Y Y Zw Y Y)<|Rx Y (Zg (ov Y) (ov Y) (Zf Zw Y) Y Y Y (Nat.le_of_ble_eq_true Y) (Zb Y) Y)<|Ra Y<|Za<|?_
        obtain rfl := rt h
        exact Zk (Zp Y (.two (.agg Y Y Y Y Zw Y Y<|pwB Y)<|rb Y))
end Go.Proofs.Ytjjlfkjacmhcmaa
