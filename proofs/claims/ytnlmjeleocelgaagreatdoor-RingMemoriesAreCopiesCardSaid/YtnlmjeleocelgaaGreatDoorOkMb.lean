/- A text of the proof: a verified executor of the program form, or the contracts of the functions that the law reaches. -/
import Derived.Test.YtnlmjeleocelgaaGreatDoorOkMa
set_option linter.all false
namespace Go.Proofs.YtnlmjeleocelgaaGreatDoor
open Go Go.Vx
set_option maxRecDepth 10000
set_option maxHeartbeats 1000000
set_option linter.unusedVariables false
theorem J6 {n_ : Nat} {data : List Int} {a : Int} {m : Int} {b : Int} {cmp : Int → Int → Option Int} {r : (List Int)} {cmp_f : FuncId} {cmp_c : List AV} (cmp_d : cmp_c.all datB = true) (cmp_h : ∀ (z0 : Int) (z1 : Int) z, cmp z0 z1 = some z → CSpec Tryz.prog gl0 cmp_f ([.int .i64 z0, .int .i64 z1] ++ cmp_c) (.int .i64 z)) (h : ZI n_ data a m b cmp = some r) :
 GSpec Tryz.prog gl0 156 [.own 0 data.length, .int .i64 a, .int .i64 m, .int .i64 b, .fn cmp_f cmp_c] [some ⟨3, List.map R3 data⟩] (.tuple []) [some ⟨3, List.map R3 r⟩] := by
 induction n_ generalizing data a m b cmp r cmp_f cmp_c with
 | zero => cases h
 | succ n ih => exact Zcp cmp_d cmp_h Qu (fun cmp_d cmp_h h => ih cmp_d cmp_h h) h
theorem ZdD {data : List Int} {n : Int} {cmp : Int → Int → Option Int} {r : (List Int)} {cmp_f : FuncId} {cmp_c : List AV} (cmp_d : cmp_c.all datB = true) (cmp_h : ∀ (z0 : Int) (z1 : Int) z, cmp z0 z1 = some z → CSpec Tryz.prog gl0 cmp_f ([.int .i64 z0, .int .i64 z1] ++ cmp_c) (.int .i64 z)) (h : Qe data n cmp = some r) :
 GSpec Tryz.prog gl0 137 [.own 0 data.length, .int .i64 n, .fn cmp_f cmp_c] [some ⟨3, List.map R3 data⟩] (.tuple []) [some ⟨3, List.map R3 r⟩] := by
 unfold Qe at h
 replace h := QF h
 refine QO (by kernel_rfl) Tryz.func137 Y Y<|?_
 intro w0 A W φ0
 refine Tr<|Ra Y<|Za<|Tr<|Rm Y<|Ra Y<|Ra Y<|Za<|I2 (fun o a=>⟨[(0, .own 0 o.length), (1, .int .i64 n), (2, .fn cmp_f cmp_c), (6, .int .i64 20), (7, .int .i64 a)], [some ⟨3, List.map R3 o⟩]⟩) h (fun h=>?_) fun o a h=>?_
 ·
  refine Zg<|?_
  obtain ⟨r1, hl1, ho1⟩ := Xj h
  refine L3 (fun o2 a2 b=>⟨[(0, .own 0 o2.length), (1, .int .i64 n), (2, .fn cmp_f cmp_c), (6, .int .i64 20), (7, .int .i64 a2), (8, .int .i64 b)], [some ⟨3, List.map R3 o2⟩]⟩) hl1 (ES [some 0]<|sr 0 Y (.own _ Y)<|sd 1 Y Y<|sr 2 Y (rFn<|rld cmp_d)<|sd 6 Y Y<|sd 7 Y Y<|sd 8 Y Y sn) fun n1 o2 a2 b h=>?_
  unfold ZK at h
  refine Zj<|Tr<|Rm Y<|Rm Y<|R2 Zj1 Y<|Za<|K7 0 1 2 6 7 8 13 Y<|If h Y (fun h=>?_) fun h=>?_
  ·
   exact Zi<|Zg<|K6 0 1 2 6 7 8 Y<|Tr<|Rm Y<|Rm Y<|Rm Y<|Rm Y<|bE h fun y h_y h=>Rx Y (ZH [0] (Jk cmp_d cmp_h h_y) (.cons (ov Y) (.own _ Y)<|.cons (ov Y) (.dat Y)<|.cons (ov Y) (.dat Y)<|.cons (ov Y) (rFn<|rld cmp_d) .nil) (.cons Y (roM D3) .nil) Y (.lent 0 (.inl Y) Y (roM D3) .nil) Y Y<|Xw<|rld Y)<|Za<|K6 0 1 2 6 7 8 Y<|Tr<|Rm Y<|Ra Y<|Za<|K6 0 1 2 6 7 8 Y<|Zt<|Rm Y<|Rm Y<|R2 ZX Y<|Ra Y<|Za<|⟨_, h, ES [some 0]<|sr 0 Y (ZdX (Eq.symm<|Qz h_y) Y)<|sd 1 Y Y<|sr 2 Y (rFn<|rld cmp_d)<|sd 6 Y Y<|sd 7 Y Y<|sd 8 Y Y sn⟩
  ·
   refine ZS<|?_
   replace h := lx h ▸ ho1
   exact ⟨_, h, ES [some 0]<|sr 0 Y (.own _ Y)<|sd 1 Y Y<|sr 2 Y (rFn<|rld cmp_d)<|sd 6 Y Y<|sd 7 Y Y sn⟩
 ·
  refine Tr<|Rm Y<|Rm Y<|Rm Y<|Rm Y<|bE h fun y2 h_y2 h=>Rx Y (ZH [0] (Jk cmp_d cmp_h h_y2) (.cons (ov Y) (.own _ Y)<|.cons (ov Y) (.dat Y)<|.cons (ov Y) (.dat Y)<|.cons (ov Y) (rFn<|rld cmp_d) .nil) (.cons Y (roM D3) .nil) Y (.lent 0 (.inl Y) Y (roM D3) .nil) Y Y<|Xw<|rld Y)<|Za<|Zg<|?_
  obtain ⟨r2, hl2, ho2⟩ := Xj h
  refine L2 (fun o3 blockSize=>⟨[(0, .own 0 o3.length), (1, .int .i64 n), (2, .fn cmp_f cmp_c), (6, .int .i64 blockSize)], [some ⟨3, List.map R3 o3⟩]⟩) hl2 (ES [some 0]<|sr 0 Y (ZdX (Eq.symm<|Qz h_y2) Y)<|sd 1 Y Y<|sr 2 Y (rFn<|rld cmp_d)<|sd 6 Y Y sn) fun n2 o3 blockSize h=>?_
  unfold ZD at h
  refine Zj<|Tr<|Rm Y<|Rm Y<|R2 ZY Y<|Za<|K5 0 1 2 6 30 Y<|If h Y (fun h=>?_) fun h=>?_
  ·
   refine Zi<|Zg<|K4 0 1 2 6 Y<|Tr<|Rm Y<|R2 ZgG Y<|Ra Y<|Ra Y<|Za<|I2 (fun o4 a3=>⟨[(0, .own 0 o4.length), (1, .int .i64 n), (2, .fn cmp_f cmp_c), (6, .int .i64 blockSize), (7, .int .i64 a3)], [some ⟨3, List.map R3 o4⟩]⟩) h (fun h=>?_) fun o4 a3 h=>?_
   ·
    refine Zg<|?_
    obtain ⟨r3, hl3, ho3⟩ := Xj h
    refine L3 (fun o5 a4 b2=>⟨[(0, .own 0 o5.length), (1, .int .i64 n), (2, .fn cmp_f cmp_c), (6, .int .i64 blockSize), (7, .int .i64 a4), (8, .int .i64 b2)], [some ⟨3, List.map R3 o5⟩]⟩) hl3 (ES [some 0]<|sr 0 Y (.own _ Y)<|sd 1 Y Y<|sr 2 Y (rFn<|rld cmp_d)<|sd 6 Y Y<|sd 7 Y Y<|sd 8 Y Y sn) fun n3 o5 a4 b2 h=>?_
    unfold ZE at h
    refine Zj<|Tr<|Rm Y<|Rm Y<|R2 Zj1 Y<|Za<|K7 0 1 2 6 7 8 35 Y<|If h Y (fun h=>?_) fun h=>?_
    ·
     exact Zi<|Zg<|K6 0 1 2 6 7 8 Y<|Tr<|Rm Y<|Rm Y<|Rm Y<|Rm Y<|R2 ZX Y<|Rm Y<|Rm Y<|bE h fun y3 h_y3 h=>Rx Y (ZH [0] (J6 cmp_d cmp_h h_y3) (.cons (ov Y) (.own _ Y)<|.cons (ov Y) (.dat Y)<|.cons (ov Y) (.dat Y)<|.cons (ov Y) (.dat Y)<|.cons (ov Y) (rFn<|rld cmp_d) .nil) (.cons Y (roM D3) .nil) Y (.lent 0 (.inl Y) Y (roM D3) .nil) Y Y<|Xw<|rld Y)<|Za<|K6 0 1 2 6 7 8 Y<|Tr<|Rm Y<|Ra Y<|Za<|K6 0 1 2 6 7 8 Y<|Zt<|Rm Y<|Rm Y<|R2 ZgG Y<|R2 ZX Y<|Ra Y<|Za<|⟨_, h, ES [some 0]<|sr 0 Y (ZdX (Eq.symm<|Qu h_y3) Y)<|sd 1 Y Y<|sr 2 Y (rFn<|rld cmp_d)<|sd 6 Y Y<|sd 7 Y Y<|sd 8 Y Y sn⟩
    ·
     refine ZS<|?_
     replace h := lx h ▸ ho3
     exact ⟨_, h, ES [some 0]<|sr 0 Y (.own _ Y)<|sd 1 Y Y<|sr 2 Y (rFn<|rld cmp_d)<|sd 6 Y Y<|sd 7 Y Y sn⟩
   ·
    refine Zj<|Tr<|Rm Y<|Rm Y<|R2 ZX Y<|Ra Y<|Za<|K6 0 1 2 6 7 9 Y<|Tr<|Rm Y<|Rm Y<|R2 ZY Y<|Za<|K7 0 1 2 6 7 9 54 Y<|If h Y (fun h=>?_) fun h=>?_
    ·
     exact K6 0 1 2 6 7 9 Y<|Zt<|Rm Y<|Rm Y<|Rm Y<|Rm Y<|Rm Y<|bE h fun y4 h_y4 h=>Rx Y (ZH [0] (J6 cmp_d cmp_h h_y4) (.cons (ov Y) (.own _ Y)<|.cons (ov Y) (.dat Y)<|.cons (ov Y) (.dat Y)<|.cons (ov Y) (.dat Y)<|.cons (ov Y) (rFn<|rld cmp_d) .nil) (.cons Y (roM D3) .nil) Y (.lent 0 (.inl Y) Y (roM D3) .nil) Y Y<|Xw<|rld Y)<|Za<|K4 0 1 2 6 Y<|Zt<|Rm Y<|R2 ZgG Y<|Ra Y<|Za<|⟨_, h, ES [some 0]<|sr 0 Y (ZdX (Eq.symm<|Qu h_y4) Y)<|sd 1 Y Y<|sr 2 Y (rFn<|rld cmp_d)<|sd 6 Y Y sn⟩
    ·
     exact Zi<|K4 0 1 2 6 Y<|Zt<|Rm Y<|R2 ZgG Y<|Ra Y<|Za<|⟨_, h, ES [some 0]<|sr 0 Y (.own _ Y)<|sd 1 Y Y<|sr 2 Y (rFn<|rld cmp_d)<|sd 6 Y Y sn⟩
  ·
   refine ZS<|?_
   replace h := lx h ▸ ho2
   obtain rfl := rt h
   exact Zgt [some 0] Y .nil (.cons Y (roM D3) .nil) Y Y<|Xw rln
theorem Zb6 {x : List Int} {cmp : Int → Int → Option Int} {r : (List Int)} {cmp_f : FuncId} {cmp_c : List AV} (cmp_d : cmp_c.all datB = true) (cmp_h : ∀ (z0 : Int) (z1 : Int) z, cmp z0 z1 = some z → CSpec Tryz.prog gl0 cmp_f ([.int .i64 z0, .int .i64 z1] ++ cmp_c) (.int .i64 z)) (h : ZO x cmp = some r) :
 GSpec Tryz.prog gl0 114 [.own 0 x.length, .fn cmp_f cmp_c] [some ⟨3, List.map R3 x⟩] (.tuple []) [some ⟨3, List.map R3 r⟩] := by
 unfold ZO at h
 replace h := QF h
 refine QO (by kernel_rfl) Tryz.func114 Y Y<|?_
 intro w0 A W φ0
 refine Zt<|Rm Y<|Rm Y<|Rq Y (ZfR (ov Y) Y Y Q3)<|Rm Y<|bE h fun y h_y h=>Rx Y (ZH [0] (ZdD cmp_d cmp_h h_y) (.cons (ov Y) (.own _ Y)<|.cons (ov Y) (.dat Y)<|.cons (ov Y) (rFn<|rld cmp_d) .nil) (.cons Y (roM D3) .nil) Y (.lent 0 (.inl Y) Y (roM D3) .nil) Y Y<|Xw<|rld Y)<|Za<|?_
 obtain rfl := rt h
 exact Zgt [some 0] Y .nil (.cons Y (roM D3) .nil) Y Y<|Xw rln
theorem Zef {i : Int} {c0 : api_Memory} {r : Int} (h : XP i c0 = some r) :
 CSpec Tryz.prog gl0 113 [.int .i64 i, .rp [.int .i64 c0.Slots, .int .i64 c0.Limit, .sl 49 (List.map R49 c0.Sectors), .sl 3 (List.map R3 c0.Wear), .sl 4 (List.map R4 c0.Bad)] 0] (.int .i64 r) := by
 unfold XP at h
 replace h := QF h
 refine So Tryz.func113 Y fun w0 A=>Tr<|Ra Y<|Za<|K2 0 1 Y<|Tr<|Rq Y (ZT (ov Y) ZF)<|Rq Y (Ze (ov Y) Qc Y)<|Rm Y<|bE h fun x h_x h=>Rq Y (Ql (ov Y) (ov Y) ZZ h_x)<|Rq Y (Ze (ov Y) ZgI Y)<|bE h fun y h_y h=>Rq Y (Zw (Zb4 h_y)<|.cons (ov Y) (.b Y) .nil)<|Rm Y<|Rq Y (Zn (ov Y) Y)<|Rq Y (Zn (ov Y) Y)<|Rq Y (Zn (ov Y) Y)<|Ra Y<|Ra Y<|Ra Y<|Za<|K1 4 Y<|Tr<|Rm Y<|Ra Y<|Za<|?_
 obtain rfl := rt h
 exact Zp (Z5 Y (.one<|rb Y))
theorem Zho {a : Int} {b : Int} {k : api_Memory} {r : Int} (h : XJ a b k = some r) :
 CSpec Tryz.prog gl0 115 [.int .i64 a, .int .i64 b, .rp [.fn 113 [.rp [.int .i64 k.Slots, .int .i64 k.Limit, .sl 49 (List.map R49 k.Sectors), .sl 3 (List.map R3 k.Wear), .sl 4 (List.map R4 k.Bad)] 0]] 0] (.int .i64 r) := by
 unfold XJ at h
 replace h := QF h
 refine So Tryz.func115 Y fun w0 A=>Tr<|Ra Y<|Za<|Zj<|QH (cw := md0) (by kernel_rfl)<|Dq 0 Y (Ze (ov Y) Zp3 Y)<|D1 1 Zc Y<|bE h fun y h_y h=>Dq 2 Y (Zdw (ov Y) Y (Zef h_y)<|.cons (ov Y) (.b Y) .nil)<|Dq 3 Y (Ze (ov Y) Zp3 Y)<|D1 4 Zc Y<|bE h fun y2 h_y2 h=>Dq 5 Y (Zdw (ov Y) Y (Zef h_y2)<|.cons (ov Y) (.b Y) .nil)<|D2 6 Zcr Y<|D1 7 Q1 Y<|Dd<|?_
 obtain rfl := rt h
 exact Zp (Z5 Y (.one<|rb Y))
theorem Zfl {m : api_Memory} {r : (List Int)} (h : Xr m = some r) :
 CSpec Tryz.prog gl0 76 [.agg [.int .i64 m.Slots, .int .i64 m.Limit, .sl 49 (List.map R49 m.Sectors), .sl 3 (List.map R3 m.Wear), .sl 4 (List.map R4 m.Bad)]] (.sl 3 (List.map R3 r)) := by
 unfold Xr at h
 replace h := QF h
 refine So Tryz.func76 Y fun w0 A=>Tr<|Rq Y (ZcB (cva<|ov Y) Y tZ_26 Y)<|Ra Y<|Za<|K1 1 Y<|Tr<|Ra Y<|Za<|Tr<|Rq Y (Zjm<|.cons (ov Y) .nil)<|Rx Y (Qf (row := [_]) 0 Y Zq0 Y tZ_92)<|Rx Y (Zh (ov Y) (ov Y) (Zd Zp3) Y Y Y (Nat.le_of_ble_eq_true Y) (Zb Y) Y)<|Za<|I1 (fun out=>⟨[(3, .own 0 out.length), (4, .ptr 1 1 0 0)], [some ⟨3, List.map R3 out⟩, some ⟨92, [[.fn 113 [.rp [.int .i64 m.Slots, .int .i64 m.Limit, .sl 49 (List.map R49 m.Sectors), .sl 3 (List.map R3 m.Wear), .sl 4 (List.map R4 m.Bad)] 0]]]⟩]⟩) h (fun h=>?_) fun out h=>?_
 ·
  refine K3 1 3 4 Y<|Tr<|Rq Y (ZT (ov Y) ZF)<|Rq Y (Ze (ov Y) Qc Y)<|Rl tZ_49 ZZ Y<|Rm Y<|Za<|Zg<|?_
  obtain ⟨r1, hl1, ho1⟩ := Xj h
  refine L2 (fun out2 i=>⟨[(1, .rp [.int .i64 m.Slots, .int .i64 m.Limit, .sl 49 (List.map R49 m.Sectors), .sl 3 (List.map R3 m.Wear), .sl 4 (List.map R4 m.Bad)] 0), (3, .own 0 out2.length), (4, .ptr 1 1 0 0), (12, .sl 49 (List.map R49 m.Sectors)), (13, .int .i64 (m.Sectors.length : Int)), (14, .int .i64 i)], [some ⟨3, List.map R3 out2⟩, some ⟨92, [[.fn 113 [.rp [.int .i64 m.Slots, .int .i64 m.Limit, .sl 49 (List.map R49 m.Sectors), .sl 3 (List.map R3 m.Wear), .sl 4 (List.map R4 m.Bad)] 0]]]⟩]⟩) hl1 (ES [none, some 0] (hhp := .row 3<|.cons Y (ro1 (by exact tZ_92.symm)<|rlc (rFn<|rlc (.dat Y) rln) rln) .nil)) fun n1 out2 i h=>?_
  unfold XX at h
  refine Tr<|R2 ZY Y<|Za<|Zj<|If h Y (fun h=>?_) fun h=>?_
  ·
   refine Zi<|Zj<|Zg<|K6 1 3 4 12 13 14 Y<|Tr<|Rm Y<|bE h fun x h_x h=>Rq Y (Ql (ov Y) (ov Y) ZZ h_x)<|Rq Y (Ze (ov Y) ZgI Y)<|Ra Y<|Ra Y<|Za<|K8 1 3 4 5 6 12 13 14 Y<|Tr<|Rm Y<|bE h fun y h_y h=>Rq Y (Zw (Zb4 h_y)<|.cons (ov Y) (.b Y) .nil)<|Rm Y<|Rq Y (Zn (ov Y) Y)<|Rq Y (Zn (ov Y) Y)<|Rq Y (Zn (ov Y) Y)<|Ra Y<|Ra Y<|Ra Y<|Za<|K8 1 3 4 5 9 12 13 14 Y<|Tr<|Rm Y<|Rm Y<|Rq Y (.guarded (y.2.2 == true) Y Y Y Y fun h => ZT (ov Y) Zes)<|Rq Y (.guarded (y.2.2 == true) Y Y Y Y fun h => Ze (ow Y h) Zjw Y)<|Rq Y (.guarded (y.2.2 == true) Y Y Y Y fun h => Zc<|ov Y)<|bE h fun x2 h_x2 h=>Rq Y (.guarded (y.2.2 == true) Y Y Y Y fun h => Ql (ow Y h) (ow Y h) ZfA<|gdT h_x2 h)<|Rq Y (.guarded (y.2.2 == true) Y Y Y Y fun h => Ze (ow Y h) tS4 Y)<|Rq Y (.guarded (y.2.2 == true) Y Y Y Y fun h => J7<|ow Y h)<|Rq Y (ZaZ (ov Y) fun hp=>ow Y<|gT hp)<|Za<|K8 1 3 4 5 12 13 14 33 Y<|If h Y (fun h=>?_) fun h=>?_
   ·
    exact K7 1 3 4 5 12 13 14 Y<|Zt<|Rm Y<|Rm Y<|R_q (.sl 3<|List.map R3 ([i] : List Int)) Y (Zal Q3 (.cons (cvs (ov Y)<|Zm Y) Y (.cons (.b Y) .nil) .nil) Y Y)<|bE h fun l h_l h=>Rx Y (XT (ov Y) (QY (ov Y) tZ_3) Q3 Y Y Y (fun _=>Zb Y) Y h_l)<|Ra Y<|Za<|K6 1 3 4 12 13 14 Y<|Zt<|R2 ZX Y<|Rm Y<|Za<|⟨_, h, ES [some 0, some 1] (hhp := .cons Y (roM D3)<|.cons Y (ro1 (by exact tZ_92.symm)<|rlc (rFn<|rlc (.dat Y) rln) rln) .nil)⟩
   ·
    exact Zi<|K6 1 3 4 12 13 14 Y<|Zt<|R2 ZX Y<|Rm Y<|Za<|⟨_, h, ES [some 0, some 1] (hhp := .cons Y (roM D3)<|.cons Y (ro1 (by exact tZ_92.symm)<|rlc (rFn<|rlc (.dat Y) rln) rln) .nil)⟩
  ·
   refine ZS<|?_
   replace h := lx h ▸ ho1
   exact ⟨_, h, ES [some 0, some 1] (hhp := .cons Y (roM D3)<|.cons Y (ro1 (by exact tZ_92.symm)<|rlc (rFn<|rlc (.dat Y) rln) rln) .nil)⟩
 ·
  refine Tr<|Rm Y<|Xf (Ent.sel [some 0, none] (sr 3 Y (.own (r' := 0) _ Y)<|sr 4 Y (.frp ⟨Y, ⟨_, Y⟩, Y, Y⟩)<|sr 39 Y (.own (r' := 0) _ Y) sn) (.cons Y (roM D3)<|.row 92 .nil) Y Y)<|Rq Y (Zjm<|.cons (ov Y) .nil)<|bE h fun y2 h_y2 h=>Rx Y (ZH [0] (Zb6 Y (fun z0 z1 _ hz=>Zho hz) h_y2) (.cons (ov Y) (.own _ Y)<|.cons (ov Y) (.dat Y) .nil) (.cons Y (roM D3) .nil) Y (.lent 0 (.inl Y) Y (roM D3)<|.keep Y Y .nil) Y Y<|Xw<|rld Y)<|Za<|K1 3 Y<|Tr<|Rm Y<|Ra Y<|Za<|?_
  obtain rfl := rt h
  exact Zp (Z5 Y (.one<|.tmp Y<|View.ownM Y (Zb5 h_y2) D3))
theorem ZfX {s : List Int} {i : Int} {r : (Vector Int 97)} (h : Zad s i = some r) :
 CSpec Tryz.prog gl0 77 [.sl 5 (List.map R5 s), .int .i64 i] (.rp (List.map C5 r.toList) 0) := by
 unfold Zad at h
 replace h := QF h
 refine So Tryz.func77 Y fun w0 A=>Tr<|Ra Y<|Za<|K2 0 1 Y<|Tr<|Rm Y<|R2 ZgG Y<|R2 ZX Y<|Ra Y<|Za<|K2 0 5 Y<|Tr<|Rm Y<|Rm Y<|Rm Y<|R2 ZX Y<|bE h fun l h_l h=>Rq Y (ZiT (ov Y) QU (oi<|ov Y) (oi<|ov Y) h_l)<|bE h fun v h_v h=>Rq Y (ZlH (f := C5) (ov Y) ZlZ tZ_5 Y h_v)<|Ra Y<|Za<|?_
 obtain rfl := rt h
 exact Zp (Z5 Y (.one<|rb Y))
theorem Zc2 {s : List Int} {f : Int → Option Bool} {r : Int} {f_f : FuncId} {f_c : List AV} (f_d : f_c.all datB = true) (f_h : ∀ (z0 : Int) z, f z0 = some z → CSpec Tryz.prog gl0 f_f ([.int .u8 z0] ++ f_c) (.bool z)) (h : Qs s f = some r) :
 CSpec Tryz.prog gl0 138 [.sl 5 (List.map R5 s), .fn f_f f_c] (.int .i64 r) := by
 unfold Qs at h
 replace h := QF h
 refine So Tryz.func138 Y fun w0 A=>Tr<|Ra Y<|Za<|J0 (fun j => (.inr j)) ⟨[], []⟩ h (fun h=>?_) fun h=>?_
 ·
  refine K2 0 1 Y<|Tr<|Rm Y<|Rl tZ_5 QU Y<|Rm Y<|Za<|Zg<|?_
  obtain ⟨r1, hl1, ho1⟩ := Xj h
  refine L1 (fun i=>⟨[(0, .sl 5 (List.map R5 s)), (1, .fn f_f f_c), (7, .int .i64 (s.length : Int)), (8, .int .i64 i)], []⟩) hl1 (ES []<|sd 0 Y Y<|sr 1 Y (rFn<|rld f_d)<|sd 7 Y Y<|sd 8 Y Y sn) fun n1 i h=>?_
  unfold Z3 at h
  refine Tr<|R2 ZY Y<|Za<|Zj<|If h Y (fun h=>?_) fun h=>?_
  ·
   refine Zi<|Zj<|Zg<|K4 0 1 7 8 Y<|Tr<|Rm Y<|Ra Y<|Za<|K5 0 1 5 7 8 Y<|Tr<|Rm Y<|Rm Y<|Rm Y<|bE h fun x h_x h=>Rq Y (Ql (ov Y) (ov Y) QU h_x)<|Rq Y (Ze (ov Y) tS5 Y)<|bE h fun y h_y h=>Rq Y (Zdw (ov Y) f_d (f_h _ _ h_y)<|.cons (ov Y) (.b Y) .nil)<|Za<|K6 0 1 5 7 8 16 Y<|If h Y (fun h=>?_) fun h=>?_
   ·
    refine K1 5 Y<|Tr<|Rm Y<|Ra Y<|Za<|?_
    replace h := lx h ▸ ho1
    obtain rfl := rt h
    exact Zp (Z5 Y (.one<|rb Y))
   ·
    exact Zi<|K4 0 1 7 8 Y<|Zt<|R2 ZX Y<|Rm Y<|Za<|⟨_, h, ES []<|sd 0 Y Y<|sr 1 Y (rFn<|rld f_d)<|sd 7 Y Y<|sd 8 Y Y sn⟩
  ·
   refine ZS<|?_
   replace h := lx h ▸ ho1
   exact ⟨(), h, ES []⟩
 ·
  replace h := elr h
  replace h := t0i h
  refine Tr<|Ra Y<|Za<|?_
  obtain rfl := rt h
  exact Zp (Z5 Y (.one<|rb Y))
theorem ZbO {s : List Int} {f : Int → Option Bool} {r : Bool} {f_f : FuncId} {f_c : List AV} (f_d : f_c.all datB = true) (f_h : ∀ (z0 : Int) z, f z0 = some z → CSpec Tryz.prog gl0 f_f ([.int .u8 z0] ++ f_c) (.bool z)) (h : Z0 s f = some r) :
 CSpec Tryz.prog gl0 116 [.sl 5 (List.map R5 s), .fn f_f f_c] (.bool r) := by
 unfold Z0 at h
 replace h := QF h
 refine So Tryz.func116 Y fun w0 A=>Tr<|Ra Y<|Za<|Tr<|Rm Y<|Rm Y<|bE h fun y h_y h=>Rq Y (Zw (Zc2 f_d f_h h_y)<|.cons (ov Y) (.b Y)<|.cons (ov Y) (Dat.fnC<|.refl fun x hx => .b<|List.all_eq_true.1 f_d x hx) .nil)<|R2 Zjx Y<|Ra Y<|Za<|?_
 obtain rfl := rt h
 exact Zp (Z5 Y (.one<|rb Y))
theorem Zhy {b : Int} {r : Bool} (h : XN b = some r) :
 CSpec Tryz.prog gl0 117 [.int .u8 b] (.bool r) := by
 unfold XN at h
 replace h := QF h
 refine So Tryz.func117 Y fun w0 A=>Tr<|Ra Y<|Za<|Tr<|Rm Y<|R2 Jc Y<|Ra Y<|Za<|?_
 obtain rfl := rt h
 exact Zp (Z5 Y (.one<|rb Y))
theorem Zfi {p : Vector Int 97} {r : Int} (h : JD p = some r) :
 CSpec Tryz.prog gl0 78 [.rp (List.map C5 p.toList) 0] (.int .i64 r) := by
 unfold JD at h
 replace h := QF h
 refine So Tryz.func78 Y fun w0 A=>Tr<|Ra Y<|Za<|Zj<|Zg<|K1 0 Y<|Tr<|Rm Y<|R1 ZQ Y<|bE h fun x h_x h=>Rq Y (Xx (ov Y) (ov Y) ZlZ h_x)<|Rq Y (Ze (ov Y) tS5<|Q0<|Ji (o := 0) (o' := ((Int.toNat 96) * 1)) (Zz arL)<|Jb h_x)<|R2 ZbU Y<|Ra Y<|Za<|K2 0 3 Y<|If h Y (fun h=>?_) fun h=>?_
 ·
  refine K0<|Tr<|Ra Y<|Za<|?_
  obtain rfl := rt h
  exact Zp (Z5 Y (.one<|rb Y))
 ·
  refine K1 0 Y<|Tr<|Rm Y<|R1 ZQ Y<|bE h fun l h_l h=>Rq Y (ZlU (f := C5) (ov Y) ZlZ tZ_5 (Zz arL) Y on on h_l)<|bE h fun y h_y h=>Rq Y (Zw (ZbO Y (fun z0 _ hz=>Zhy hz) h_y)<|.cons (ov Y) (.b Y)<|.cons (ov Y) .fn .nil)<|Ra Y<|Za<|K1 9 Y<|If h Y (fun h=>?_) fun h=>?_
  ·
   refine K0<|Tr<|Ra Y<|Za<|?_
   obtain rfl := rt h
   exact Zp (Z5 Y (.one<|rb Y))
  ·
   refine Zi<|K0<|Tr<|Ra Y<|Za<|?_
   obtain rfl := rt h
   exact Zp (Z5 Y (.one<|rb Y))
theorem ZhL {m : api_Memory} {r : ring_spot} (h : JJ m = some r) :
 CSpec Tryz.prog gl0 64 [.agg [.int .i64 m.Slots, .int .i64 m.Limit, .sl 49 (List.map R49 m.Sectors), .sl 3 (List.map R3 m.Wear), .sl 4 (List.map R4 m.Bad)]] (.agg [.int .i64 r.sector, .int .i64 r.slot]) := by
 unfold JJ at h
 replace h := QF h
 refine So Tryz.func64 Y fun w0 A=>Tr<|Rq Y (ZcB (cva<|ov Y) Y tZ_26 Y)<|Rx Y (Qf (row := [_, _]) 0 Y Zkb Y tZ_105)<|Za<|K2 1 2 Y<|Tr<|Rq Y (Q6 (ov Y) XS Y Y)<|bE h fun y h_y h=>Rq Y (Zw (Zfl h_y)<|.cons (ov Y) (.aggB Y) .nil)<|Ra Y<|Za<|Zj<|K3 1 2 3 Y<|Tr<|Rm Y<|Rl tZ_3 Q3 Y<|R2 ZbU Y<|Za<|K4 1 2 3 10 Y<|If h Y (fun h=>?_) fun h=>?_
 ·
  refine K1 2 Y<|Tr<|Rq Y (Jw (ys := [_, _]) ZlO ZlI Zkb (.cons (cvs (ov Y)<|Zm Y) .nil) Y)<|Rx Y (Zh (ov Y) (ov Y) (ZC Zg1 Y) Y Y Y (Nat.le_of_ble_eq_true Y) (Zb Y) Y)<|Za<|?_
  obtain rfl := rt h
  exact Zp (Z5 Y (.one<|.agg Y Y Y Y Zg1 Y Y<|pwB Y))
 ·
  refine Zi<|K3 1 2 3 Y<|Tr<|Rm Y<|Rm Y<|Rl tZ_3 Q3 Y<|R2 Zcr Y<|bE h fun x h_x h=>Rq Y (Ql (ov Y) (ov Y) Q3 h_x)<|Rq Y (Ze (ov Y) tS3 Y)<|Rq Y (Jw (ys := [_, _]) ZlO ZlI Zkb (.cons (cvs (ov Y)<|Zm Y) .nil) Y)<|Rx Y (Qf (row := [_, _]) 1 Y Zkb Y tZ_105)<|Rx Y (Zh (ov Y) (ov Y) (ZC Zg1 Y) Y Y Y (Nat.le_of_ble_eq_true Y) (Zb Y) Y)<|Za<|I1 (fun slot=>⟨[(2, .ptr 0 1 0 0), (4, .ptr 1 1 0 0)], [some ⟨105, [[.int .i64 0, .int .i64 0]]⟩, some ⟨105, [[.int .i64 x, .int .i64 slot]]⟩]⟩) h (fun h=>?_) fun slot h=>?_
  ·
   refine K3 1 2 4 Y<|Tr<|Rq Y (ZT (ov Y) Zgw)<|Rq Y (Ze (ov Y) tS3 Y)<|Rm Y<|Za<|Zg<|?_
   obtain ⟨r1, hl1, ho1⟩ := Xj h
   refine L2 (fun slot2 i=>⟨[(1, .rp [.int .i64 m.Slots, .int .i64 m.Limit, .sl 49 (List.map R49 m.Sectors), .sl 3 (List.map R3 m.Wear), .sl 4 (List.map R4 m.Bad)] 0), (2, .ptr 0 1 0 0), (4, .ptr 1 1 0 0), (20, .int .i64 m.Slots), (21, .int .i64 i)], [some ⟨105, [[.int .i64 0, .int .i64 0]]⟩, some ⟨105, [[.int .i64 x, .int .i64 slot2]]⟩]⟩) hl1 (ES [some 0, some 1]) fun n1 slot2 i h=>?_
   unfold XB at h
   refine Tr<|R2 ZY Y<|Za<|Zj<|If h Y (fun h=>?_) fun h=>?_
   ·
    refine Zi<|Zj<|Zg<|K5 1 2 4 20 21 Y<|Tr<|Rm Y<|Ra Y<|Za<|K6 1 2 4 5 20 21 Y<|Tr<|Rq Y (ZT (ov Y) ZF)<|Rq Y (Ze (ov Y) Qc Y)<|Rq Y (Zf (ov Y) Y Y Zgc)<|Rq Y (Zu (ov Y) Y Y Y tS3 Y)<|bE h fun x2 h_x2 h=>Rq Y (Ql (ov Y) (ov Y) ZZ h_x2)<|Rq Y (Ze (ov Y) ZgI Y)<|Rm Y<|bE h fun y2 h_y2 h=>Rq Y (Zw (ZfX h_y2)<|.cons (ov Y) (.b Y)<|.cons (ov Y) (.b Y) .nil)<|bE h fun y3 h_y3 h=>Rq Y (Zw (Zfi h_y3)<|.cons (ov Y) (.b Y) .nil)<|R2 Jc Y<|Za<|K7 1 2 4 5 20 21 33 Y<|If h Y (fun h=>?_) fun h=>?_
    ·
     exact K6 1 2 4 5 20 21 Y<|Zt<|Rm Y<|R2 ZX Y<|Rq Y (Zf (ov Y) Y Y Zg4)<|Rx Y (Zh (ov Y) (ov Y) (Zd tS3) Y Y Y (Nat.le_of_ble_eq_true Y) (Zb Y) Y)<|Za<|K5 1 2 4 20 21 Y<|Zt<|R2 ZX Y<|Rm Y<|Za<|⟨_, h, ES [some 0, some 1]⟩
    ·
     exact Zi<|K5 1 2 4 20 21 Y<|Zt<|R2 ZX Y<|Rm Y<|Za<|⟨_, h, ES [some 0, some 1]⟩
   ·
    refine ZS<|?_
    replace h := lx h ▸ ho1
    exact ⟨_, h, ES [some 0, some 1]⟩
  ·
   refine Tr<|Rq Y (QB (ov Y) Y Y Y Zg1 Y Y)<|Rx Y (Zh (ov Y) (ov Y) (ZC Zg1 Y) Y Y Y (Nat.le_of_ble_eq_true Y) (Zb Y) Y)<|Za<|?_
   obtain rfl := rt h
   exact Zp (Z5 Y (.one<|.agg Y Y Y Y Zg1 Y Y<|pwB Y))
theorem Zfr {l : List api_Memory} {copies : Int} {r : (Int) ⊕ (ring_Recorder × Int)} (h : Jm l copies = some r) :
 GSpec Tryz.prog gl0 15 [.sl 26 (List.map R26 l), .int .i64 copies] [] (Sum.elim (fun r => .tuple [.lit (.pointer none), .int .i64 r]) (fun r => .tuple [.ptr 0 1 0 0, .int .i64 r.2]) r) (Sum.elim (fun r => []) (fun r => [some ⟨102, [[.own 1 r.1.bank.memories.length, .own 2 r.1.bank.spots.length, .int .i64 r.1.copies, .bool r.1.frozen, .bool r.1.stopped, .int .i64 r.1.last, .bool r.1.some_]]⟩, some ⟨26, List.map O26 r.1.bank.memories⟩, some ⟨105, List.map R105 r.1.bank.spots⟩]) r) := by
 unfold Jm at h
 replace h := QF h
 refine QO (by kernel_rfl) Tryz.func15 Y Y<|?_
 intro w0 A W φ0
 refine Tr<|Ra Y<|Ra Y<|Za<|Zj<|K2 0 1 Y<|Tr<|Rm Y<|bE h fun y h_y h=>Rq Y (Zw (ZeN h_y)<|.cons (ov Y) (.b Y) .nil)<|Ra Y<|Za<|K3 0 1 6 Y<|Tr<|Rm Y<|R2 Jc Y<|Za<|K4 0 1 6 17 Y<|If h Y (fun h=>?_) fun h=>?_
 ·
  refine K1 6 Y<|Tr<|Rm Y<|Ra Y<|Ra Y<|Za<|?_
  obtain rfl := rt h
  exact Zp<|Za2 [] Y (.cons (.tmp Y)<|.cons (.tmp Y) .nil) .nil Y Y<|Xw<|rlc (.dat Y)<|rlc (.dat Y) rln
 ·
  refine Zi<|Zj<|K2 0 1 Y<|Tr<|Rm Y<|Rm Y<|Rl tZ_26 Zbh Y<|bE h fun y2 h_y2 h=>Rq Y (Zw (QS h_y2)<|.cons (ov Y) (.b Y)<|.cons (ov Y) (.b Y)<|.cons (ov Y) (.b Y) .nil)<|R1 J7 Y<|Za<|K3 0 1 23 Y<|If h Y (fun h=>?_) fun h=>?_
  ·
   refine K0<|Tr<|Ra Y<|Ra Y<|Za<|?_
   obtain rfl := rt h
   exact Zp<|Za2 [] Y (.cons (.tmp Y)<|.cons (.tmp Y) .nil) .nil Y Y<|Xw<|rlc (.dat Y)<|rlc (.dat Y) rln
  ·
   refine Zi<|K2 0 1 Y<|Tr<|Rm Y<|Rq Y (Jw (ys := [_, _, _, _, _, _, _]) ZpM ZpQ Zqp (.cons (cvs (ov Y)<|Zm Y) .nil) Y)<|Rx Y (Zmb 0 Y (ov Y) ZqJ Y)<|Ra Y<|Za<|K2 0 7 Y<|Tr<|Rm Y<|Rm Y<|bE h fun y3 h_y3 h=>Rx Y (ZH [] (Zej h_y3) (.cons (ov Y) (.dat Y) .nil) .nil Y (.keep Y Y<|.lent 0 (.inr ⟨Nat.le_of_ble_eq_true Y, Y⟩) Y (roO QR) .nil) Y Y<|.own _<|.inr ⟨Nat.le_of_ble_eq_true Y, Y⟩)<|Rq Y (ZB (ov Y) Y Y)<|Rq Y (Zf (ov Y) Y Y ZdE)<|Rq Y (Zf (ov Y) Y Y ZcN)<|Rx Y (Zh (ov Y) (ov Y) (Zd ZjN) Y Y Y (Nat.le_of_ble_eq_true Y) (Zb Y) Y)<|Za<|I2 (fun spots frozen=>⟨[(7, .ptr 0 1 0 0)], [some ⟨102, [[.own 1 y3.length, .own 2 spots.length, .int .i64 copies, .bool frozen, .bool false, .int .i64 0, .bool false]]⟩, some ⟨26, List.map O26 y3⟩, some ⟨105, List.map R105 spots⟩]⟩) h (fun h=>?_) fun spots frozen h=>?_
   ·
    refine K1 7 Y<|QP [some ⟨102, [[.own 1 y3.length, .nils, .int .i64 copies, .bool false, .bool false, .int .i64 0, .bool false]]⟩, some ⟨26, List.map O26 y3⟩] Y<|Tr<|Rm Y<|Rq Y (ZB (ov Y) Y Y)<|Rq Y (Zf (ov Y) Y Y ZdE)<|Rq Y (Zf (ov Y) Y Y ZcN)<|Rq Y (Zu (ov Y) Y Y Y ZjN Y)<|Rq Y (ZfR (ov Y) Y Y Zbh)<|Rm Y<|Za<|Zg<|?_
    obtain ⟨r1, hl1, ho1⟩ := Xj h
    refine L3 (fun spots2 frozen2 i=>⟨[(7, .ptr 0 1 0 0), (37, .own 1 y3.length), (38, .int .i64 (y3.length : Int)), (39, .int .i64 i)], [some ⟨102, [[.own 1 y3.length, .own 2 spots2.length, .int .i64 copies, .bool frozen2, .bool false, .int .i64 0, .bool false]]⟩, some ⟨26, List.map O26 y3⟩, some ⟨105, List.map R105 spots2⟩]⟩) hl1 (ES [some 0, some 1, none] (hhp := .cons Y (ro1 (by exact tZ_102.symm)<|rlc (.own _ Y)<|rlc (.row Y)<|rlc (.dat Y)<|rlc (.dat Y)<|rlc (.dat Y)<|rlc (.dat Y)<|rlc (.dat Y) rln)<|.cons Y (roO QR)<|.row 105 .nil)) fun n1 spots2 frozen2 i h=>?_
    unfold JG at h
    refine Tr<|R2 ZY Y<|Za<|Zj<|If h Y (fun h=>?_) fun h=>?_
    ·
     refine Zi<|Zj<|Zg<|K4 7 37 38 39 Y<|Tr<|bE h fun x h_x h=>Rq Y (QI (ov Y) (ov Y) Zbh Y Y h_x)<|Xf (Ent.focusH (r := 1) (j := 2) (e' := 49) (g := O49) (ys := x.Sectors) Y (ZN h_x).2 Y Xi)<|Xf (Ent.focusI (r := 1) (j := 3) (e' := 3) (g := R3) (ys := x.Wear) Y (ZN h_x).2 Y DR3)<|Xf (Ent.focusI (r := 1) (j := 4) (e' := 4) (g := R4) (ys := x.Bad) Y (ZN h_x).2 Y DR4)<|Rq Y (Znr (ov Y) Y Y (ZN h_x).2 XS Y Y)<|Rx Y (Qf (row := [_, _, _, _, _]) 6 Y Zc4 Y tZ_26)<|Rx Y (Zh (ov Y) (ov Y) (ZC XS Y) Y Y Y (Nat.le_of_ble_eq_true Y) (Zb Y) Y)<|ZeS [some ⟨102, [[.own 1 y3.length, .own 2 spots2.length, .int .i64 copies, .bool frozen2, .bool false, .int .i64 0, .bool false]]⟩, some ⟨26, List.set (List.map O26 y3) i.toNat [.int .i64 x.Slots, .int .i64 x.Limit, .own 3 x.Sectors.length, .own 4 x.Wear.length, .own 5 x.Bad.length]⟩, some ⟨105, List.map R105 spots2⟩, some ⟨49, List.map O49 x.Sectors⟩, some ⟨3, List.map R3 x.Wear⟩, some ⟨4, List.map R4 x.Bad⟩, some ⟨26, [[.int .i64 x.Slots, .int .i64 x.Limit, .own 3 x.Sectors.length, .own 4 x.Wear.length, .own 5 x.Bad.length]]⟩] Y<|Za<|K5 7 9 37 38 39 Y<|Tr<|Rq Y (QB (ov Y) Y Y Y XS Y Y)<|bE h fun y4 h_y4 h=>Rq Y (Zch (ZhL h_y4) (.agg<|by simp only [List.mem_cons, List.not_mem_nil, or_false, forall_eq_or_imp, forall_eq]; exact ⟨.int, .int⟩)<|.cons (ov Y) (View.aggL<|.cons (Dat.view<|.b Y)<|.cons (Dat.view<|.b Y)<|.cons (View.ownO Y Y Xi (fun x=>(D49 x).1) Zpl)<|.cons (View.ownM Y Y D3)<|.cons (View.ownM Y Y D4) .nil) .nil)<|Rx Y (Qf (row := [_, _]) 7 Y Zkb Y tZ_105)<|Rx Y (Zh (ov Y) (ov Y) (ZC Zg1 Y) Y Y Y (Nat.le_of_ble_eq_true Y) (Zb Y) Y)<|ZeS [some ⟨102, [[.own 1 y3.length, .own 2 spots2.length, .int .i64 copies, .bool frozen2, .bool false, .int .i64 0, .bool false]]⟩, some ⟨26, List.set (List.map O26 y3) i.toNat [.int .i64 x.Slots, .int .i64 x.Limit, .own 3 x.Sectors.length, .own 4 x.Wear.length, .own 5 x.Bad.length]⟩, some ⟨105, List.map R105 spots2⟩, some ⟨49, List.map O49 x.Sectors⟩, some ⟨3, List.map R3 x.Wear⟩, some ⟨4, List.map R4 x.Bad⟩, some ⟨26, [[.int .i64 x.Slots, .int .i64 x.Limit, .own 3 x.Sectors.length, .own 4 x.Wear.length, .own 5 x.Bad.length]]⟩, some ⟨105, [[.int .i64 y4.sector, .int .i64 y4.slot]]⟩] Y<|Za<|Zj<|K6 7 9 10 37 38 39 Y<|QH (cw := md0) (by kernel_rfl)<|D1 1 Zc Y<|Dq 2 Y (ZB (ov Y) Y Y)<|Dq 3 Y (Zf (ov Y) Y Y ZdE)<|Dq 4 Y (Zf (ov Y) Y Y Zfd)<|Dq 5 Y (Zu (ov Y) Y Y Y ZlN Y)<|Dq 6 Y (QB (ov Y) Y Y Y Zg1 Y Y)<|Zon 7 (.sl 105<|List.map R105 ([y4] : List ring_spot)) Y (by kernel_rfl) Y Y (Zal ZlG (.cons (cva<|ov Y) Y (pwD Y) .nil) Y Y)<|Z9 0 _ Y (by kernel_rfl) Y Y (fun hp'=>Zc<|ov Y)<|bE h fun l2 h_l2 h=>Do 8 Y (XT (ov Y) (QY (ov Y) tZ_105) ZlG Y Y Y (fun _=>Zb Y) Y h_l2)<|Dq 9 Y (ZB (ov Y) Y Y)<|Dq 10 Y (Zf (ov Y) Y Y ZdE)<|Dq 11 Y (Zf (ov Y) Y Y Zfd)<|Do 12 Y (Zh (ov Y) (ov Y) (Zd ZlN) Y Y Y (Nat.le_of_ble_eq_true Y) (Zb Y) Y)<|Dd<|K6 7 9 10 37 38 39 Y<|QP [some ⟨102, [[.own 1 y3.length, .own 2 l2.length, .int .i64 copies, .bool frozen2, .bool false, .int .i64 0, .bool false]]⟩, some ⟨26, List.set (List.map O26 y3) i.toNat [.int .i64 x.Slots, .int .i64 x.Limit, .own 3 x.Sectors.length, .own 4 x.Wear.length, .own 5 x.Bad.length]⟩, some ⟨105, List.map R105 l2⟩, some ⟨49, List.map O49 x.Sectors⟩, some ⟨3, List.map R3 x.Wear⟩, some ⟨4, List.map R4 x.Bad⟩, some ⟨26, [[.int .i64 x.Slots, .int .i64 x.Limit, .own 3 x.Sectors.length, .own 4 x.Wear.length, .own 5 x.Bad.length]]⟩, some ⟨105, [[.int .i64 y4.sector, .int .i64 y4.slot]]⟩] Y<|Tr<|Rq Y (Zf (ov Y) Y Y Zgc)<|Rq Y (Zu (ov Y) Y Y Y tS3 Y)<|R2 Zjx Y<|Za<|K7 7 9 10 37 38 39 59 Y<|If h Y (fun h=>?_) fun h=>?_
     ·
      exact K6 7 9 10 37 38 39 Y<|Tr<|Rq Y (Zf (ov Y) Y Y ZF)<|Rq Y (Zu (ov Y) Y Y Y Qc Y)<|Rq Y (Zf (ov Y) Y Y Zgc)<|Rq Y (Zu (ov Y) Y Y Y tS3 Y)<|bE h fun x2 h_x2 h=>Rq Y (QI (ov Y) (ov Y) ZZ Y Y h_x2)<|Xf (Ent.focusH (r := 3) (j := 0) (e' := 5) (g := R5) (ys := x2) Y (ZN h_x2).2 Y DR5)<|Rq Y (ZcZ (ov Y) Y Y (ZN h_x2).2 ZgI Y)<|bE h fun y5 h_y5 h=>Rq Y (Zch (Zb4 h_y5) (.tuple<|by simp only [List.mem_cons, List.not_mem_nil, or_false, forall_eq_or_imp, forall_eq]; exact ⟨.int, .bool, .bool⟩)<|.cons (ov Y) (View.ownM Y Y D5) .nil)<|Rm Y<|Rq Y (Zn (ov Y) Y)<|Rq Y (Zn (ov Y) Y)<|Rq Y (Zn (ov Y) Y)<|Ra Y<|Ra Y<|Ra Y<|ZeS [some ⟨102, [[.own 1 y3.length, .own 2 l2.length, .int .i64 copies, .bool frozen2, .bool false, .int .i64 0, .bool false]]⟩, some ⟨26, List.set (List.map O26 y3) i.toNat [.int .i64 x.Slots, .int .i64 x.Limit, .own 3 x.Sectors.length, .own 4 x.Wear.length, .own 5 x.Bad.length]⟩, some ⟨105, List.map R105 l2⟩, some ⟨49, List.set (List.map O49 x.Sectors) y4.sector.toNat [.own 8 x2.length]⟩, some ⟨3, List.map R3 x.Wear⟩, some ⟨4, List.map R4 x.Bad⟩, some ⟨26, [[.int .i64 x.Slots, .int .i64 x.Limit, .own 3 x.Sectors.length, .own 4 x.Wear.length, .own 5 x.Bad.length]]⟩, some ⟨105, [[.int .i64 y4.sector, .int .i64 y4.slot]]⟩, some ⟨5, List.map R5 x2⟩] Y<|Xf (Ent.absorbH (r := 3) (j := 0) (q := 8) Y (ZN h_x2).2 Y Y (List.length_map ..) Y)<|Xf (Ent.closeS (r := 3) Y (ZN h_x2).2 Y)<|Xf (Ent.absorbH (r := 1) (j := 2) (q := 3) Y (ZN h_x).2 Y Y (List.length_map ..) Y)<|Xf (Ent.absorbH (r := 1) (j := 3) (q := 4) Y (ZN h_x).2 Y Y (List.length_map ..) Y)<|Xf (Ent.absorbH (r := 1) (j := 4) (q := 5) Y (ZN h_x).2 Y Y (List.length_map ..) Y)<|Xf (Ent.closeS (r := 1) Y (ZN h_x).2 Y)<|Za<|K5 7 12 37 38 39 Y<|QP [some ⟨102, [[.own 1 y3.length, .own 2 l2.length, .int .i64 copies, .bool frozen2, .bool false, .int .i64 0, .bool false]]⟩, some ⟨26, List.map O26 y3⟩, some ⟨105, List.map R105 l2⟩, none, none, none, some ⟨26, [[.int .i64 x.Slots, .int .i64 x.Limit, .own 3 x.Sectors.length, .own 4 x.Wear.length, .own 5 x.Bad.length]]⟩, some ⟨105, [[.int .i64 y4.sector, .int .i64 y4.slot]]⟩, none] Y<|Zt<|Rm Y<|Rm Y<|Rq Y (ZB (ov Y) Y Y)<|Rq Y (Zf (ov Y) Y Y Zke)<|Rq Y (Zu (ov Y) Y Y Y tS4 Y)<|Rm Y<|Rq Y (.guarded (frozen2 == false) Y Y Y Y fun h => Zc<|ov Y)<|Rq Y (ZhW (ov Y) fun hp=>ow Y<|gF hp)<|Rq Y (ZB (ov Y) Y Y)<|Rq Y (Zf (ov Y) Y Y Zke)<|Rx Y (Zh (ov Y) (ov Y) (Zd tS4) Y Y Y (Nat.le_of_ble_eq_true Y) (Zb Y) Y)<|Za<|K4 7 37 38 39 Y<|QP [some ⟨102, [[.own 1 y3.length, .own 2 l2.length, .int .i64 copies, .bool (frozen2 || y5.2.1), .bool false, .int .i64 0, .bool false]]⟩, some ⟨26, List.map O26 y3⟩, some ⟨105, List.map R105 l2⟩, none, none, none, some ⟨26, [[.int .i64 x.Slots, .int .i64 x.Limit, .own 3 x.Sectors.length, .own 4 x.Wear.length, .own 5 x.Bad.length]]⟩, some ⟨105, [[.int .i64 y4.sector, .int .i64 y4.slot]]⟩, none] Y<|Zt<|R2 ZX Y<|Rm Y<|Za<|⟨_, h, ES [some 0, some 1, some 2] (hhp := .cons Y (ro1 (by exact tZ_102.symm)<|rlc (.own _ Y)<|rlc (.own _ Y)<|rlc (.dat Y)<|rlc (.dat Y)<|rlc (.dat Y)<|rlc (.dat Y)<|rlc (.dat Y) rln)<|.cons Y (roO QR)<|.cons Y (roM D105) .nil)⟩
     ·
      exact Zi<|K4 7 37 38 39 Y<|Zt<|R2 ZX Y<|Rm Y<|Xf (Ent.absorbH (r := 1) (j := 2) (q := 3) Y (ZN h_x).2 Y Y (List.length_map ..) Y)<|Xf (Ent.absorbH (r := 1) (j := 3) (q := 4) Y (ZN h_x).2 Y Y (List.length_map ..) Y)<|Xf (Ent.absorbH (r := 1) (j := 4) (q := 5) Y (ZN h_x).2 Y Y (List.length_map ..) Y)<|Xf (Ent.closeS (r := 1) Y (ZN h_x).2 Y)<|Za<|⟨_, h, ES [some 0, some 1, some 2] (hhp := .cons Y (ro1 (by exact tZ_102.symm)<|rlc (.own _ Y)<|rlc (.own _ Y)<|rlc (.dat Y)<|rlc (.dat Y)<|rlc (.dat Y)<|rlc (.dat Y)<|rlc (.dat Y) rln)<|.cons Y (roO QR)<|.cons Y (roM D105) .nil)⟩
    ·
     refine ZS<|?_
     replace h := lx h ▸ ho1
     exact ⟨_, h, ES [some 0, some 1, some 2] (hhp := .cons Y (ro1 (by exact tZ_102.symm)<|rlc (.own _ Y)<|rlc (.own _ Y)<|rlc (.dat Y)<|rlc (.dat Y)<|rlc (.dat Y)<|rlc (.dat Y)<|rlc (.dat Y) rln)<|.cons Y (roO QR)<|.cons Y (roM D105) .nil)⟩
   ·
    refine Tr<|Rm Y<|Ra Y<|Ra Y<|Za<|?_
    obtain rfl := rt h
    exact Zp<|Za2 [some 0, some 1, some 2] Y (.cons (.tmp Y)<|.cons (.tmp Y) .nil) (.cons Y (ro1 (by exact tZ_102.symm)<|rlc (.own _ Y)<|rlc (.own _ Y)<|rlc (.dat Y)<|rlc (.dat Y)<|rlc (.dat Y)<|rlc (.dat Y)<|rlc (.dat Y) rln)<|.cons Y (roO QR)<|.cons Y (roM D105) .nil) Y Y<|Xw<|rlc (.ptr _ _ _ Y)<|rlc (.dat Y) rln
theorem Zdt {l : List api_Memory} {copies : Int} {r : Int} (h : Jm l copies = some (.inl r)) :
    GSpec Tryz.prog gl0 15 [.sl 26 (List.map R26 l), .int .i64 copies] [] (.tuple [.lit (.pointer none), .int .i64 r]) [] := Zfr h
theorem Zds {l : List api_Memory} {copies : Int} {r : ring_Recorder × Int} (h : Jm l copies = some (.inr r)) :
    GSpec Tryz.prog gl0 15 [.sl 26 (List.map R26 l), .int .i64 copies] [] (.tuple [.ptr 0 1 0 0, .int .i64 r.2]) [some ⟨102, [[.own 1 r.1.bank.memories.length, .own 2 r.1.bank.spots.length, .int .i64 r.1.copies, .bool r.1.frozen, .bool r.1.stopped, .int .i64 r.1.last, .bool r.1.some_]]⟩, some ⟨26, List.map O26 r.1.bank.memories⟩, some ⟨105, List.map R105 r.1.bank.spots⟩] := Zfr h
theorem Zln {n : Int} {r : Bool} (h : ZbS n = some r) :
 CSpec Tryz.prog gl0 151 [.int .i64 n] (.bool r) := by
 unfold ZbS at h
 replace h := QF h
 refine So Tryz.func151 Y fun w0 A=>Tr<|Ra Y<|Za<|K1 0 Y<|Tr<|Ra Y<|Za<|I1 (fun ones=>⟨[(3, .int .i64 ones)], []⟩) h (fun h=>?_) fun ones h=>?_
 ·
  refine Zg<|?_
  obtain ⟨r1, hl1, ho1⟩ := Xj h
  refine L2 (fun n2 ones2=>⟨[(0, .int .i64 n2), (3, .int .i64 ones2)], []⟩) hl1 (ES []) fun n1 n2 ones2 h=>?_
  unfold Zec at h
  refine Zj<|Tr<|Rm Y<|R2 Zde Y<|Za<|K3 0 3 5 Y<|If h Y (fun h=>?_) fun h=>?_
  ·
   exact Zi<|Zj<|Zg<|K2 0 3 Y<|Zt<|Rm Y<|Rm Y<|bE h fun q h_q h=>Rq Y (Za4 (ov Y) (ov Y) h_q)<|R2 ZX Y<|Ra Y<|Za<|K2 0 3 Y<|Zt<|Rm Y<|bE h fun q2 h_q2 h=>Rq Y (ZgL (ov Y) (ov Y) h_q2)<|Ra Y<|Za<|⟨_, h, ES []⟩
  ·
   refine ZS<|?_
   replace h := lx h ▸ ho1
   exact ⟨_, h, ES []⟩
 ·
  refine Tr<|Rm Y<|bE h fun q3 h_q3 h=>Rq Y (Za4 (ov Y) (ov Y) h_q3)<|R2 ZbU Y<|Ra Y<|Za<|?_
  obtain rfl := rt h
  exact Zp (Z5 Y (.one<|rb Y))
theorem ZdC {data : Int} {r : Int} (h : ZbC data = some r) :
 CSpec Tryz.prog gl0 131 [.int .i64 data] (.int .i64 r) := by
 unfold ZbC at h
 replace h := QF h
 refine So Tryz.func131 Y fun w0 A=>Tr<|Ra Y<|Za<|Zj<|K1 0 Y<|Tr<|Rm Y<|bE h fun y h_y h=>Rq Y (Zw (Zln h_y)<|.cons (ov Y) (.b Y) .nil)<|Za<|K2 0 4 Y<|If h Y (fun h=>?_) fun h=>?_
 ·
  refine K1 0 Y<|Tr<|Rm Y<|Ra Y<|Za<|?_
  obtain rfl := rt h
  exact Zp (Z5 Y (.one<|rb Y))
 ·
  refine Zi<|K1 0 Y<|Tr<|Rm Y<|R2 ZX Y<|Ra Y<|Za<|?_
  obtain rfl := rt h
  exact Zp (Z5 Y (.one<|rb Y))
theorem ZhP {f : Vector Int 64} {r : Int} (h : XG f = some r) :
 CSpec Tryz.prog gl0 123 [.agg (List.map C40 f.toList)] (.int .i64 r) := by
 unfold XG at h
 replace h := QF h
 refine So Tryz.func123 Y fun w0 A=>Tr<|Rq Y (ZcB (cva<|ov Y) arL tZ_42<|arD fun _ => Y)<|Ra Y<|Za<|K2 1 2 Y<|Tr<|bE h fun x h_x h=>Rq Y (Xx (ov Y) (ov Y) Za1 h_x)<|Rq Y (Ze (ov Y) ZbX<|Q0<|Ji (o := 0) (o' := ((Int.toNat 1) * 1)) (Zz arL)<|Jb h_x)<|Rq Y (QA (ov Y) Zd7 tI3 Y)<|bE h fun q h_q h=>Rq Y (Za4 (ov Y) (ov Y) h_q)<|bE h fun x2 h_x2 h=>Rq Y (Xx (ov Y) (ov Y) Za1 h_x2)<|Rq Y (Ze (ov Y) ZbX<|Q0<|Ji (o := 0) (o' := ((Int.toNat 2) * 1)) (Zz arL)<|Jb h_x2)<|Rq Y (QA (ov Y) Zd7 tI3 Y)<|bE h fun q2 h_q2 h=>Rq Y (Za4 (ov Y) (ov Y) h_q2)<|R2 ZgG Y<|R2 ZX Y<|Ra Y<|Za<|?_
 obtain rfl := rt h
 exact Zp (Z5 Y (.one<|rb Y))
theorem Zjz {number : Int} {r : Int} (h : Zaa number = some r) :
 CSpec Tryz.prog gl0 132 [.int .i64 number] (.int .i64 r) := by
 unfold Zaa at h
 replace h := QF h
 refine So Tryz.func132 Y fun w0 A=>Tr<|Ra Y<|Za<|Tr<|R_q (.agg<|List.map C3 (#v[583, 1464, 2631, 3512] : Vector Int 4).toList) Y (Zez (ys := [_, _, _, _]) Zo9 Zqg (.cons (cvs (ov Y)<|Zm Y)<|.cons (cvs (ov Y)<|Zm Y)<|.cons (cvs (ov Y)<|Zm Y)<|.cons (cvs (ov Y)<|Zm Y) .nil) Y)<|Rm Y<|bE h fun q h_q h=>Rq Y (Za4 (ov Y) (ov Y) h_q)<|bE h fun x h_x h=>Rq Y (Zj0 (ov Y) (ov Y) Zo9 tS3 h_x)<|Ra Y<|Za<|?_
 obtain rfl := rt h
 exact Zp (Z5 Y (.one<|rb Y))
theorem ZkG {f : Vector Int 64} {r : Int} (h : Zdc f = some r) :
 CSpec Tryz.prog gl0 133 [.agg (List.map C40 f.toList)] (.int .i64 r) := by
 unfold Zdc at h
 replace h := QF h
 refine So Tryz.func133 Y fun w0 A=>Tr<|Rq Y (ZcB (cva<|ov Y) arL tZ_42<|arD fun _ => Y)<|Ra Y<|Za<|K1 1 Y<|Tr<|Ra Y<|Za<|I1 (fun x=>⟨[(3, .int .i64 x)], []⟩) h (fun h=>?_) fun x h=>?_
 ·
  refine Tr<|Ra Y<|Za<|Zg<|?_
  obtain ⟨r1, hl1, ho1⟩ := Xj h
  refine L2 (fun x2 i=>⟨[(1, .rp (List.map C40 f.toList) 0), (3, .int .i64 x2), (4, .int .i64 i)], []⟩) hl1 (ES []) fun n1 x2 i h=>?_
  unfold ZaM at h
  refine Zj<|Tr<|Rm Y<|R2 Zj1 Y<|Za<|K4 1 3 4 6 Y<|If h Y (fun h=>?_) fun h=>?_
  ·
   exact Zi<|Zj<|Zg<|K3 1 3 4 Y<|Zt<|Rm Y<|Rm Y<|bE h fun x3 h_x3 h=>Rq Y (Xx (ov Y) (ov Y) Za1 h_x3)<|Rq Y (Ze (ov Y) ZbX<|Q0<|Ji (o := 0) (o' := (i.toNat * 1)) (Zz arL)<|Jb h_x3)<|Rq Y (QA (ov Y) Zd7 tI3 Y)<|bE h fun q h_q h=>Rq Y (Za4 (ov Y) (ov Y) h_q)<|R2 Zku Y<|Ra Y<|Za<|K3 1 3 4 Y<|Zt<|Rm Y<|R2 ZX Y<|Ra Y<|Za<|⟨_, h, ES []⟩
  ·
   refine ZS<|?_
   replace h := lx h ▸ ho1
   exact ⟨_, h, ES []⟩
 ·
  refine Tr<|Rm Y<|Ra Y<|Za<|?_
  obtain rfl := rt h
  exact Zp (Z5 Y (.one<|rb Y))
theorem ZjO {f : Vector Int 64} {r : Int} (h : ZaH f = some r) :
 CSpec Tryz.prog gl0 152 [.agg (List.map C40 f.toList)] (.int .i64 r) := by
 unfold ZaH at h
 replace h := QF h
 refine So Tryz.func152 Y fun w0 A=>Tr<|Rq Y (ZcB (cva<|ov Y) arL tZ_42<|arD fun _ => Y)<|Ra Y<|Za<|K1 1 Y<|Tr<|Ra Y<|Za<|I1 (fun rest=>⟨[(3, .int .i64 rest)], []⟩) h (fun h=>?_) fun rest h=>?_
 ·
  refine Tr<|Ra Y<|Za<|Zg<|?_
  obtain ⟨r1, hl1, ho1⟩ := Xj h
  refine L2 (fun rest2 i=>⟨[(1, .rp (List.map C40 f.toList) 0), (3, .int .i64 rest2), (4, .int .i64 i)], []⟩) hl1 (ES []) fun n1 rest2 i h=>?_
  unfold JO at h
  refine Zj<|Tr<|Rm Y<|R2 ZY Y<|Za<|K4 1 3 4 7 Y<|If h Y (fun h=>?_) fun h=>?_
  ·
   refine Zi<|Zj<|Zg<|K3 1 3 4 Y<|Tr<|Ra Y<|Za<|I1 (fun bit=>⟨[(1, .rp (List.map C40 f.toList) 0), (3, .int .i64 rest2), (4, .int .i64 i), (5, .int .i64 bit)], []⟩) h (fun h=>?_) fun bit h=>?_
   ·
    refine Tr<|Rm Y<|R2 ZY Y<|Za<|K5 1 3 4 5 11 Y<|If h Y (fun h=>?_) fun h=>?_
    ·
     exact K4 1 3 4 5 Y<|Zt<|Rm Y<|bE h fun q h_q h=>Rq Y (ZgL (ov Y) (ov Y) h_q)<|bE h fun x h_x h=>Rq Y (Xx (ov Y) (ov Y) Za1 h_x)<|Rq Y (Ze (ov Y) ZbX<|Q0<|Ji (o := 0) (o' := (q.toNat * 1)) (Zz arL)<|Jb h_x)<|Rq Y (QA (ov Y) Zd7 tI3 Y)<|Rm Y<|bE h fun q2 h_q2 h=>Rq Y (Za4 (ov Y) (ov Y) h_q2)<|R2 Zcr Y<|bE h fun q3 h_q3 h=>Rq Y (Za5 (ov Y) (ov Y) h_q3)<|R2 Zby Y<|Ra Y<|Za<|⟨_, h, ES []⟩
    ·
     exact Zi<|⟨_, h, ES []⟩
   ·
    refine Tr<|Rm Y<|R2 ZgG Y<|Rm Y<|R2 ZX Y<|Ra Y<|Za<|K3 1 3 4 Y<|Tr<|Rm Y<|R2 Zjx Y<|Za<|K4 1 3 4 27 Y<|If h Y (fun h=>?_) fun h=>?_
    ·
     exact K3 1 3 4 Y<|Zt<|Rm Y<|R2 Zku Y<|Ra Y<|Za<|K3 1 3 4 Y<|Zt<|Rm Y<|R2 ZX Y<|Ra Y<|Za<|⟨_, h, ES []⟩
    ·
     exact Zi<|K3 1 3 4 Y<|Zt<|Rm Y<|R2 ZX Y<|Ra Y<|Za<|⟨_, h, ES []⟩
  ·
   refine ZS<|?_
   replace h := lx h ▸ ho1
   exact ⟨_, h, ES []⟩
 ·
  refine Tr<|Rm Y<|Ra Y<|Za<|?_
  obtain rfl := rt h
  exact Zp (Z5 Y (.one<|rb Y))
theorem ZiG {f : Vector Int 64} {r : (Vector Int 64)} (h : ZbJ f = some r) :
 CSpec Tryz.prog gl0 134 [.agg (List.map C40 f.toList)] (.agg (List.map C40 r.toList)) := by
 unfold ZbJ at h
 replace h := QF h
 refine So Tryz.func134 Y fun w0 A=>Tr<|Rx Y (Zmb 0 Y (ov Y) JW arL)<|Rx Y (Qf (row := (List.map C40 (Vector.replicate 64 0).toList)) 1 Y Zhg Y tZ_42)<|Za<|K2 1 2 Y<|Tr<|Rq Y (QB (ov Y) Y Y Y JW (Xc<|Zz arL) arL (hns := (nsM fun _ => Y)))<|bE h fun y h_y h=>Rq Y (Zw (ZjO h_y)<|.cons (ov Y) (.aggB<|arD fun _ => Y) .nil)<|Ra Y<|Za<|K3 1 2 3 Y<|Tr<|Rm Y<|bE h fun q h_q h=>Rq Y (ZgL (ov Y) (ov Y) h_q)<|bE h fun y2 h_y2 h=>Rq Y (Zw (ZdC h_y2)<|.cons (ov Y) (.b Y) .nil)<|Rq Y (QA (ov Y) tI3 Zd7 Y)<|Rm Y<|bE h fun q2 h_q2 h=>Rq Y (Za4 (ov Y) (ov Y) h_q2)<|bE h fun y3 h_y3 h=>Rq Y (Zw (ZdC h_y3)<|.cons (ov Y) (.b Y) .nil)<|Rq Y (QA (ov Y) tI3 Zd7 Y)<|bE h fun x h_x h=>Rq Y (Zas (ov Y) (ov Y) Za1 Y Y h_x)<|Rx Y (Zh (ov Y) (ov Y) (Zd ZbX) Y Y Y (arB h_x) (Zb Y)<|arS h_x)<|bE h fun x2 h_x2 h=>Rq Y (Zas (ov Y) (ov Y) Za1 Y Y h_x2)<|Rx Y (Zh (ov Y) (ov Y) (Zd ZbX) Y Y Y (arB h_x2) (Zb Y)<|arS h_x2)<|Za<|K2 1 2 Y<|Tr<|Rq Y (QB (ov Y) Y Y Y JW (Xc<|Zz arL) arL (hns := (nsM fun _ => Y)))<|Rx Y (Zh (ov Y) (ov Y) (ZC JW arL) Y Y Y (Za9 (Zz arL) arL) (Zb<|arC fun _ => Y)<|JS<|Eq.trans arL<|Eq.symm arL)<|Za<|?_
 obtain rfl := rt h
 exact Zp (Z5 Y (.one<|.agg Y Y Y Y JW (Xc<|Zz arL) arL (pwB<|arD fun _ => Y) (hns := (nsM fun _ => Y))))
theorem Zi8 {f : Vector Int 64} {r : (Vector Int 64)} (h : ZcX f = some r) :
 CSpec Tryz.prog gl0 101 [.agg (List.map C40 f.toList)] (.agg (List.map C40 r.toList)) := by
 unfold ZcX at h
 replace h := QF h
 refine So Tryz.func101 Y fun w0 A=>Tr<|Rx Y (Zmb 0 Y (ov Y) JW arL)<|Rx Y (Qf (row := (List.map C40 (Vector.replicate 64 0).toList)) 1 Y Zhg Y tZ_42)<|Za<|I1 (fun f2=>⟨[(1, .ptr 0 1 0 0), (2, .ptr 1 1 0 0)], [some ⟨42, [(List.map C40 f2.toList)]⟩, some ⟨42, [(List.map C40 (Vector.replicate 64 0).toList)]⟩]⟩) h (fun h=>?_) fun f2 h=>?_
 ·
  refine K2 1 2 Y<|Tr<|Ra Y<|Za<|Zg<|?_
  obtain ⟨r1, hl1, ho1⟩ := Xj h
  refine L2 (fun f3 i=>⟨[(1, .ptr 0 1 0 0), (2, .ptr 1 1 0 0), (3, .int .i64 i)], [some ⟨42, [(List.map C40 f3.toList)]⟩, some ⟨42, [(List.map C40 (Vector.replicate 64 0).toList)]⟩]⟩) hl1 (ES [some 0, some 1]) fun n1 f3 i h=>?_
  unfold ZbH at h
  refine Zj<|Tr<|Rm Y<|R2 Zj1 Y<|Za<|K4 1 2 3 5 Y<|If h Y (fun h=>?_) fun h=>?_
  ·
   exact Zi<|Zj<|Zg<|K3 1 2 3 Y<|Zt<|Rm Y<|Rm Y<|bE h fun x h_x h=>Rq Y (Zas (ov Y) (ov Y) Za1 Y Y h_x)<|Rq Y (Zu (ov Y) Y Y Y ZbX<|Q0<|Ji (o := 0) (o' := (i.toNat * 1)) (Zz arL)<|Jb h_x)<|Rq Y (QA (ov Y) Zd7 tI3 Y)<|bE h fun q h_q h=>Rq Y (Za4 (ov Y) (ov Y) h_q)<|bE h fun y h_y h=>Rq Y (Zw (ZdC h_y)<|.cons (ov Y) (.b Y) .nil)<|Rq Y (QA (ov Y) tI3 Zd7 Y)<|bE h fun x2 h_x2 h=>Rq Y (Zas (ov Y) (ov Y) Za1 Y Y h_x2)<|Rx Y (Zh (ov Y) (ov Y) (Zd ZbX) Y Y Y (arB h_x2) (Zb Y)<|arS h_x2)<|Za<|K3 1 2 3 Y<|Zt<|Rm Y<|R2 ZX Y<|Ra Y<|Za<|⟨_, h, ES [some 0, some 1]⟩
  ·
   refine ZS<|?_
   replace h := lx h ▸ ho1
   exact ⟨_, h, ES [some 0, some 1]⟩
 ·
  refine Tr<|Rq Y (QB (ov Y) Y Y Y JW (Xc<|Zz arL) arL (hns := (nsM fun _ => Y)))<|bE h fun y2 h_y2 h=>Rq Y (Zw (ZhP h_y2)<|.cons (ov Y) (.aggB<|arD fun _ => Y) .nil)<|bE h fun y3 h_y3 h=>Rq Y (Zw (Zjz h_y3)<|.cons (ov Y) (.b Y) .nil)<|Rq Y (QA (ov Y) tI3 Zd7 Y)<|bE h fun x3 h_x3 h=>Rq Y (Zas (ov Y) (ov Y) Za1 Y Y h_x3)<|Rx Y (Zh (ov Y) (ov Y) (Zd ZbX) Y Y Y (arB h_x3) (Zb Y)<|arS h_x3)<|Za<|K2 1 2 Y<|Tr<|Rq Y (QB (ov Y) Y Y Y JW (Xc<|Zz arL) arL (hns := (nsM fun _ => Y)))<|bE h fun y4 h_y4 h=>Rq Y (Zw (ZkG h_y4)<|.cons (ov Y) (.aggB<|arD fun _ => Y) .nil)<|bE h fun y5 h_y5 h=>Rq Y (Zw (ZdC h_y5)<|.cons (ov Y) (.b Y) .nil)<|Rq Y (QA (ov Y) tI3 Zd7 Y)<|bE h fun x4 h_x4 h=>Rq Y (Zas (ov Y) (ov Y) Za1 Y Y h_x4)<|Rx Y (Zh (ov Y) (ov Y) (Zd ZbX) Y Y Y (arB h_x4) (Zb Y)<|arS h_x4)<|Za<|K2 1 2 Y<|Tr<|Rq Y (QB (ov Y) Y Y Y JW (Xc<|Zz arL) arL (hns := (nsM fun _ => Y)))<|bE h fun y6 h_y6 h=>Rq Y (Zw (ZiG h_y6)<|.cons (ov Y) (.aggB<|arD fun _ => Y) .nil)<|Rx Y (Zh (ov Y) (ov Y) (ZC JW arL) Y Y Y (Za9 (Zz arL) arL) (Zb<|arC fun _ => Y)<|JS<|Eq.trans arL<|Eq.symm arL)<|Za<|?_
  obtain rfl := rt h
  exact Zp (Z5 Y (.one<|.agg Y Y Y Y JW (Xc<|Zz arL) arL (pwB<|arD fun _ => Y) (hns := (nsM fun _ => Y))))
theorem ZkZ {number : Int} {data : List Int} {r : (Vector Int 64) × Int} (h : ZfM number data = some r) :
 CSpec Tryz.prog gl0 61 [.int .i64 number, .sl 3 (List.map R3 data)] (.tuple [.agg (List.map C40 r.1.toList), .int .i64 r.2]) := by
 unfold ZfM at h
 replace h := QF h
 refine So Tryz.func61 Y fun w0 A=>Tr<|Rx Y (Qf (row := (List.map C40 (Vector.replicate 64 0).toList)) 0 Y Zhg Y tZ_42)<|Ra Y<|Za<|Zj<|K3 0 1 4 Y<|Tr<|Rm Y<|R2 ZY Y<|Rm Y<|Rq Y (.guarded ((decide (number < 0)) == false) Y Y Y Y fun h => Zc<|ov Y)<|Rq Y (.guarded ((decide (number < 0)) == false) Y Y Y Y fun h => Zjx (ow Y h)<|ov Y)<|Rq Y (ZhW (ov Y) fun hp=>ow Y<|gF hp)<|Za<|K4 0 1 4 14 Y<|If h Y (fun h=>?_) fun h=>?_
 ·
  refine K1 4 Y<|Tr<|R_q (.agg<|List.map C40 (#v[0, 0, 0, 0, 0, 0, 0, 0, 0, 0, 0, 0, 0, 0, 0, 0, 0, 0, 0, 0, 0, 0, 0, 0, 0, 0, 0, 0, 0, 0, 0, 0, 0, 0, 0, 0, 0, 0, 0, 0, 0, 0, 0, 0, 0, 0, 0, 0, 0, 0, 0, 0, 0, 0, 0, 0, 0, 0, 0, 0, 0, 0, 0, 0] : Vector Int 64).toList) Y (Zez (ys := [_, _, _, _, _, _, _, _, _, _, _, _, _, _, _, _, _, _, _, _, _, _, _, _, _, _, _, _, _, _, _, _, _, _, _, _, _, _, _, _, _, _, _, _, _, _, _, _, _, _, _, _, _, _, _, _, _, _, _, _, _, _, _, _]) Za1 Zhg .nil Y)<|Rx Y (Zh (ov Y) (ov Y) (ZC JW arL) Y Y Y (Za9 (Zz arL) arL) (Zb<|arC fun _ => Y)<|JS<|Eq.trans arL<|Eq.symm arL)<|Ra Y<|Za<|?_
  obtain rfl := rt h
  exact Zp (Z5 Y (.two (.agg Y Y Y Y JW (Xc<|Zz arL) arL (pwB<|arD fun _ => Y) (hns := (nsM fun _ => Y)))<|rb Y))
 ·
  refine Zi<|Zj<|K3 0 1 4 Y<|Tr<|Rm Y<|Rl tZ_3 Q3 Y<|R2 Jc Y<|Za<|K4 0 1 4 18 Y<|If h Y (fun h=>?_) fun h=>?_
  ·
   refine K1 4 Y<|Tr<|R_q (.agg<|List.map C40 (#v[0, 0, 0, 0, 0, 0, 0, 0, 0, 0, 0, 0, 0, 0, 0, 0, 0, 0, 0, 0, 0, 0, 0, 0, 0, 0, 0, 0, 0, 0, 0, 0, 0, 0, 0, 0, 0, 0, 0, 0, 0, 0, 0, 0, 0, 0, 0, 0, 0, 0, 0, 0, 0, 0, 0, 0, 0, 0, 0, 0, 0, 0, 0, 0] : Vector Int 64).toList) Y (Zez (ys := [_, _, _, _, _, _, _, _, _, _, _, _, _, _, _, _, _, _, _, _, _, _, _, _, _, _, _, _, _, _, _, _, _, _, _, _, _, _, _, _, _, _, _, _, _, _, _, _, _, _, _, _, _, _, _, _, _, _, _, _, _, _, _, _]) Za1 Zhg .nil Y)<|Rx Y (Zh (ov Y) (ov Y) (ZC JW arL) Y Y Y (Za9 (Zz arL) arL) (Zb<|arC fun _ => Y)<|JS<|Eq.trans arL<|Eq.symm arL)<|Ra Y<|Za<|?_
   obtain rfl := rt h
   exact Zp (Z5 Y (.two (.agg Y Y Y Y JW (Xc<|Zz arL) arL (pwB<|arD fun _ => Y) (hns := (nsM fun _ => Y)))<|rb Y))
  ·
   refine Zi<|K3 0 1 4 Y<|Tr<|R_q (.agg<|List.map C40 (#v[0, 0, 0, 0, 0, 0, 0, 0, 0, 0, 0, 0, 0, 0, 0, 0, 0, 0, 0, 0, 0, 0, 0, 0, 0, 0, 0, 0, 0, 0, 0, 0, 0, 0, 0, 0, 0, 0, 0, 0, 0, 0, 0, 0, 0, 0, 0, 0, 0, 0, 0, 0, 0, 0, 0, 0, 0, 0, 0, 0, 0, 0, 0, 0] : Vector Int 64).toList) Y (Zez (ys := [_, _, _, _, _, _, _, _, _, _, _, _, _, _, _, _, _, _, _, _, _, _, _, _, _, _, _, _, _, _, _, _, _, _, _, _, _, _, _, _, _, _, _, _, _, _, _, _, _, _, _, _, _, _, _, _, _, _, _, _, _, _, _, _]) Za1 Zhg .nil Y)<|Rx Y (Qf (row := (List.map C40 (Vector.replicate 64 0).toList)) 1 Y Zhg Y tZ_42)<|Rx Y (Zh (ov Y) (ov Y) (ZC JW arL) Y Y Y (Za9 (Zz arL) arL) (Zb<|arC fun _ => Y)<|JS<|Eq.trans arL<|Eq.symm arL)<|Za<|K4 0 1 4 6 Y<|Tr<|Rm Y<|bE h fun q h_q h=>Rq Y (Za4 (ov Y) (ov Y) h_q)<|Rq Y (QA (ov Y) tI3 Zd7 Y)<|Rm Y<|bE h fun q2 h_q2 h=>Rq Y (ZgL (ov Y) (ov Y) h_q2)<|Rq Y (QA (ov Y) tI3 Zd7 Y)<|bE h fun x h_x h=>Rq Y (Zas (ov Y) (ov Y) Za1 Y Y h_x)<|Rx Y (Zh (ov Y) (ov Y) (Zd ZbX) Y Y Y (arB h_x) (Zb Y)<|arS h_x)<|bE h fun x2 h_x2 h=>Rq Y (Zas (ov Y) (ov Y) Za1 Y Y h_x2)<|Rx Y (Zh (ov Y) (ov Y) (Zd ZbX) Y Y Y (arB h_x2) (Zb Y)<|arS h_x2)<|Za<|J1 (fun j => (.inr j)) (fun f=>⟨[(4, .ptr 0 1 0 0), (6, .ptr 1 1 0 0)], [some ⟨42, [(List.map C40 (Vector.replicate 64 0).toList)]⟩, some ⟨42, [(List.map C40 f.toList)]⟩]⟩) h (fun h=>?_) fun f h=>?_
   ·
    refine K3 1 4 6 Y<|Tr<|Rm Y<|Rl tZ_3 Q3 Y<|Rm Y<|Za<|Zg<|?_
    obtain ⟨r1, hl1, ho1⟩ := Xj h
    refine L2 (fun f2 i=>⟨[(4, .ptr 0 1 0 0), (6, .ptr 1 1 0 0), (29, .sl 3 (List.map R3 data)), (30, .int .i64 (data.length : Int)), (31, .int .i64 i)], [some ⟨42, [(List.map C40 (Vector.replicate 64 0).toList)]⟩, some ⟨42, [(List.map C40 f2.toList)]⟩]⟩) hl1 (ES [some 0, some 1]) fun n1 f2 i h=>?_
    unfold Zei at h
    refine Tr<|R2 ZY Y<|Za<|Zj<|If h Y (fun h=>?_) fun h=>?_
    ·
     refine Zi<|Zj<|Zg<|K5 4 6 29 30 31 Y<|Tr<|Rm Y<|bE h fun x3 h_x3 h=>Rq Y (Ql (ov Y) (ov Y) Q3 h_x3)<|Rq Y (Ze (ov Y) tS3 Y)<|Ra Y<|Ra Y<|Za<|Zj<|K7 4 6 7 8 29 30 31 Y<|Tr<|Rm Y<|R2 ZY Y<|Rm Y<|Rq Y (.guarded ((decide (x3 < 0)) == false) Y Y Y Y fun h => Zc<|ov Y)<|Rq Y (.guarded ((decide (x3 < 0)) == false) Y Y Y Y fun h => Zde (ow Y h)<|ov Y)<|Rq Y (ZhW (ov Y) fun hp=>ow Y<|gF hp)<|Za<|K8 4 6 7 8 29 30 31 41 Y<|If h Y (fun h=>?_) fun h=>?_
     ·
      refine K1 4 Y<|Tr<|R_q (.agg<|List.map C40 (#v[0, 0, 0, 0, 0, 0, 0, 0, 0, 0, 0, 0, 0, 0, 0, 0, 0, 0, 0, 0, 0, 0, 0, 0, 0, 0, 0, 0, 0, 0, 0, 0, 0, 0, 0, 0, 0, 0, 0, 0, 0, 0, 0, 0, 0, 0, 0, 0, 0, 0, 0, 0, 0, 0, 0, 0, 0, 0, 0, 0, 0, 0, 0, 0] : Vector Int 64).toList) Y (Zez (ys := [_, _, _, _, _, _, _, _, _, _, _, _, _, _, _, _, _, _, _, _, _, _, _, _, _, _, _, _, _, _, _, _, _, _, _, _, _, _, _, _, _, _, _, _, _, _, _, _, _, _, _, _, _, _, _, _, _, _, _, _, _, _, _, _]) Za1 Zhg .nil Y)<|Rx Y (Zh (ov Y) (ov Y) (ZC JW arL) Y Y Y (Za9 (Zz arL) arL) (Zb<|arC fun _ => Y)<|JS<|Eq.trans arL<|Eq.symm arL)<|Ra Y<|Za<|?_
      replace h := lx h ▸ ho1
      obtain rfl := rt h
      exact Zp (Z5 Y (.two (.agg Y Y Y Y JW (Xc<|Zz arL) arL (pwB<|arD fun _ => Y) (hns := (nsM fun _ => Y)))<|rb Y))
     ·
      exact Zi<|K7 4 6 7 8 29 30 31 Y<|Zt<|Rm Y<|R2 ZX Y<|Rm Y<|Rq Y (QA (ov Y) tI3 Zd7 Y)<|bE h fun x4 h_x4 h=>Rq Y (Zas (ov Y) (ov Y) Za1 Y Y h_x4)<|Rx Y (Zh (ov Y) (ov Y) (Zd ZbX) Y Y Y (arB h_x4) (Zb Y)<|arS h_x4)<|Za<|K5 4 6 29 30 31 Y<|Zt<|R2 ZX Y<|Rm Y<|Za<|⟨_, h, ES [some 0, some 1]⟩
    ·
     refine ZS<|?_
     replace h := lx h ▸ ho1
     exact ⟨_, h, ES [some 0, some 1]⟩
   ·
    replace h := elr h
    replace h := t1i h
    refine Tr<|Rq Y (QB (ov Y) Y Y Y JW (Xc<|Zz arL) arL (hns := (nsM fun _ => Y)))<|bE h fun y h_y h=>Rq Y (Zw (Zi8 h_y)<|.cons (ov Y) (.aggB<|arD fun _ => Y) .nil)<|Rx Y (Zh (ov Y) (ov Y) (ZC JW arL) Y Y Y (Za9 (Zz arL) arL) (Zb<|arC fun _ => Y)<|JS<|Eq.trans arL<|Eq.symm arL)<|Ra Y<|Za<|?_
    obtain rfl := rt h
    exact Zp (Z5 Y (.two (.agg Y Y Y Y JW (Xc<|Zz arL) arL (pwB<|arD fun _ => Y) (hns := (nsM fun _ => Y)))<|rb Y))
theorem ZjJ {x : Int} {y : Int} {r : Int × Int} (h : ZdU x y = some r) :
 CSpec Tryz.prog gl0 130 [.int .u64 x, .int .u64 y] (.tuple [.int .u64 r.1, .int .u64 r.2]) := by
 unfold ZdU at h
 replace h := QF h
 refine So Tryz.func130 Y fun w0 A=>Tr<|Ra Y<|Ra Y<|Za<|K2 0 1 Y<|Tr<|Rm Y<|R2 Zby Y<|Ra Y<|Za<|K3 0 1 6 Y<|Tr<|Rm Y<|bE h fun q h_q h=>Rq Y (Za5 (ov Y) (ov Y) h_q)<|Ra Y<|Za<|K4 0 1 6 7 Y<|Tr<|Rm Y<|R2 Zby Y<|Ra Y<|Za<|K5 0 1 6 7 8 Y<|Tr<|Rm Y<|bE h fun q2 h_q2 h=>Rq Y (Za5 (ov Y) (ov Y) h_q2)<|Ra Y<|Za<|K6 0 1 6 7 8 9 Y<|Tr<|Rm Y<|Rm Y<|R2 ZgG Y<|Ra Y<|Za<|K7 0 1 6 7 8 9 10 Y<|Tr<|Rm Y<|Rm Y<|R2 ZgG Y<|Rm Y<|bE h fun q3 h_q3 h=>Rq Y (Za5 (ov Y) (ov Y) h_q3)<|R2 ZX Y<|Ra Y<|Za<|K6 0 1 6 7 9 11 Y<|Tr<|Rm Y<|R2 Zby Y<|Ra Y<|Za<|K7 0 1 6 7 9 11 12 Y<|Tr<|Rm Y<|bE h fun q4 h_q4 h=>Rq Y (Za5 (ov Y) (ov Y) h_q4)<|Ra Y<|Za<|K7 0 1 6 7 9 12 13 Y<|Tr<|Rm Y<|Rm Y<|Rm Y<|R2 ZgG Y<|R2 ZX Y<|Ra Y<|Za<|K6 0 1 7 9 12 13 Y<|Tr<|Rm Y<|Rm Y<|R2 ZgG Y<|Rm Y<|R2 ZX Y<|Rm Y<|bE h fun q5 h_q5 h=>Rq Y (Za5 (ov Y) (ov Y) h_q5)<|R2 ZX Y<|Ra Y<|Za<|K3 0 1 4 Y<|Tr<|Rm Y<|Rm Y<|R2 ZgG Y<|Ra Y<|Za<|?_
 obtain rfl := rt h
 exact Zp (Z5 Y (.two (rb Y)<|rb Y))
theorem ZkU {x : Int} {y : Int} {r : Int × Int} (h : ZfZ x y = some r) :
 CSpec Tryz.prog gl0 100 [.int .u64 x, .int .u64 y] (.tuple [.int .u64 r.1, .int .u64 r.2]) := by
 unfold ZfZ at h
 replace h := QF h
 refine So Tryz.func100 Y fun w0 A=>Tr<|Ra Y<|Ra Y<|Za<|Zj<|ZoO<|Zi<|K2 0 1 Y<|Tr<|Rm Y<|Rm Y<|bE h fun y2 h_y2 h=>Rq Y (Zw (ZjJ h_y2)<|.cons (ov Y) (.b Y)<|.cons (ov Y) (.b Y) .nil)<|Rm Y<|Rq Y (Zn (ov Y) Y)<|Rq Y (Zn (ov Y) Y)<|Ra Y<|Ra Y<|Za<|K2 8 9 Y<|Tr<|Rm Y<|Rm Y<|Ra Y<|Ra Y<|Za<|?_
 obtain rfl := rt h
 exact Zp (Z5 Y (.two (rb Y)<|rb Y))
theorem Zl {x : List Int} {count : Int} {r : (List Int)} (h : Xg x count = some r) :
 GSpec Tryz.prog gl0 55 [.sl 5 (List.map R5 x), .int .i64 count] [] (.own 0 r.length) [some ⟨5, List.map R5 r⟩] := by
 unfold Xg at h
 replace h := QF h
 refine QO (by kernel_rfl) Tryz.func55 Y Y<|?_
 intro w0 A W φ0
 refine Tr<|Ra Y<|Za<|Zj<|K2 0 1 Y<|Tr<|Rm Y<|R2 ZY Y<|Za<|K3 0 1 10 Y<|If h Y (fun h=>?_) fun h=>?_
 ·
  exact (Zmf h).elim
 ·
  refine Zi<|K2 0 1 Y<|Tr<|Rm Y<|Rl tZ_5 QU Y<|Rq Y (QA (ov Y) tI3 ZfJ Y)<|Rm Y<|Rq Y (QA (ov Y) tI3 ZfJ Y)<|bE h fun y h_y h=>Rq Y (Zw (ZkU h_y)<|.cons (ov Y) (.b Y)<|.cons (ov Y) (.b Y) .nil)<|Rm Y<|Rq Y (Zn (ov Y) Y)<|Rq Y (Zn (ov Y) Y)<|Ra Y<|Ra Y<|Za<|Zj<|K3 0 5 6 Y<|Tr<|Rm Y<|R2 Zde Y<|Rm Y<|Rq Y (.guarded ((decide (0 < y.1)) == false) Y Y Y Y fun h => Zc<|ov Y)<|Rq Y (.guarded ((decide (0 < y.1)) == false) Y Y Y Y fun h => Zde (ow Y h)<|ov Y)<|Rq Y (ZhW (ov Y) fun hp=>ow Y<|gF hp)<|Za<|K3 0 6 26 Y<|If h Y (fun h=>?_) fun h=>?_
  ·
   exact (Zmf h).elim
  ·
   refine Zi<|K2 0 6 Y<|Tr<|Rm Y<|Rq Y (QA (ov Y) ZfJ tI3 Y)<|bE h fun l h_l h=>Rx Y (Zbn [none] (r := 0) (f := R5) (z0 := 0) Y (ov Y) (ov Y) QU Y tZ5 Y Y h_l)<|Ra Y<|Za<|K2 0 7 Y<|Tr<|Rm Y<|Rm Y<|Rx Y (ZoD (f := R5) (g := C5) (xs := l) (ys := x) (ov Y) (QY (ov Y) tZ_5) Y Y (fun _=>Y) (fun _=>Y) (fun _=>Y) QU)<|Ra Y<|Za<|I1 (fun newslice=>⟨[(7, .own 0 newslice.length)], [some ⟨5, List.map R5 newslice⟩]⟩) h (fun h=>?_) fun newslice h=>?_
   ·
    refine Zg<|?_
    obtain ⟨r1, hl1, ho1⟩ := Xj h
    refine L2 (fun newslice2 n=>⟨[(7, .own 0 newslice2.length), (8, .int .i64 n)], [some ⟨5, List.map R5 newslice2⟩]⟩) hl1 (ES [some 0]<|sr 7 Y (ZdX (Eq.symm<|(Zg8 ..).trans Y) Y)<|sd 8 Y Y sn) fun n1 newslice2 n h=>?_
    unfold Xq at h
    refine Zj<|Tr<|Rm Y<|Rm Y<|Rq Y (ZfR (ov Y) Y Y QU)<|R2 ZY Y<|Za<|K3 7 8 37 Y<|If h Y (fun h=>?_) fun h=>?_
    ·
     exact Zi<|Zg<|K2 7 8 Y<|QH (cw := md0) (by kernel_rfl)<|D1 1 Zc Y<|D1 2 Zc Y<|bE h fun u h_u h=>Dq 3 Y (Zpg (ov Y) Y Y QU (oi<|ov Y) on h_u)<|D1 4 Zc Y<|D1 5 Zc Y<|bE h fun u2 h_u2 h=>Dq 6 Y (Zpg (ov Y) Y Y QU on (oi<|ov Y) h_u2)<|Z9 0 _ Y (by kernel_rfl) Y Y (fun hp'=>Zc<|ov Y)<|Do 7 Y (ZoM (g := C5) (ov Y) (ov Y) Y Y (fun _=>Y) (fun _=>Y) (fun _=>Y) QU (Zki h_u)<|Zki h_u2)<|D2 8 ZX Y<|D1 9 Q1 Y<|Dd<|⟨_, h, ES [some 0]<|sr 7 Y (ZdX (Eq.symm<|(Zfa (Zki h_u) (Zki h_u2)).trans Y) Y)<|sd 8 Y Y sn⟩
    ·
     refine ZS<|?_
     replace h := lx h ▸ ho1
     exact ⟨_, h, ES [some 0]⟩
   ·
    refine Tr<|Rm Y<|Ra Y<|Za<|?_
    obtain rfl := rt h
    exact Zp<|Za2 [some 0] Y (.cons (.tmp Y) .nil) (.cons Y (roM D5) .nil) Y Y<|.own _ Y
theorem ZgZ {sectors : Int} {slots : Int} {limit : Int} {r : api_Memory × Int} (h : ZaF sectors slots limit = some r) :
 CSpec Tryz.prog gl0 10 [.int .i64 sectors, .int .i64 slots, .int .i64 limit] (.tuple [.agg [.int .i64 r.1.Slots, .int .i64 r.1.Limit, .sl 49 (List.map R49 r.1.Sectors), .sl 3 (List.map R3 r.1.Wear), .sl 4 (List.map R4 r.1.Bad)], .int .i64 r.2]) := by
 unfold ZaF at h
 replace h := QF h
 refine So Tryz.func10 Y fun w0 A=>Tr<|Rx Y (Qf (row := [_, _, _, _, _]) 0 Y Zc4 Y tZ_26)<|Ra Y<|Za<|Zj<|K4 0 1 2 6 Y<|Tr<|Rm Y<|bE h fun y h_y h=>Rq Y (Zw (QS h_y)<|.cons (ov Y) (.b Y)<|.cons (ov Y) (.b Y)<|.cons (ov Y) (.b Y) .nil)<|R1 J7 Y<|Rm Y<|Rq Y (.guarded ((!y) == false) Y Y Y Y fun h => Zc<|ov Y)<|bE h fun y2 h_y2 h=>Rq Y (.guarded ((!y) == false) Y Y Y Y fun h => Zw (QS<|gdT h_y2 h)<|.cons (ow Y h) (.b Y)<|.cons (ov Y) (.b Y)<|.cons (ov Y) (.b Y) .nil)<|Rq Y (.guarded ((!y) == false) Y Y Y Y fun h => J7<|ow Y h)<|Rq Y (ZhW (ov Y) fun hp=>ow Y<|gF hp)<|Rm Y<|Rq Y (.guarded (((!y) || (!y2)) == false) Y Y Y Y fun h => Zc<|ov Y)<|bE h fun y3 h_y3 h=>Rq Y (.guarded (((!y) || (!y2)) == false) Y Y Y Y fun h => Zw (QS<|gdT h_y3 h)<|.cons (ow Y h) (.b Y)<|.cons (ov Y) (.b Y)<|.cons (ov Y) (.b Y) .nil)<|Rq Y (.guarded (((!y) || (!y2)) == false) Y Y Y Y fun h => J7<|ow Y h)<|Rq Y (ZhW (ov Y) fun hp=>ow Y<|gF hp)<|Za<|K5 0 1 2 6 21 Y<|If h Y (fun h=>?_) fun h=>?_
 ·
  refine K1 6 Y<|Tr<|Rq Y (Jw (ys := [_, _, _, _, _]) Zjk Zi1 Zc4 .nil Y)<|Rx Y (Zh (ov Y) (ov Y) (ZC XS Y) Y Y Y (Nat.le_of_ble_eq_true Y) (Zb Y) Y)<|Ra Y<|Za<|?_
  obtain rfl := rt h
  exact Zp (Z5 Y (.two (.agg Y Y Y Y XS Y Y<|.cons (Dat.view<|.b Y)<|.cons (Dat.view<|.b Y)<|.cons (View.nils 49)<|.cons (View.nils 3)<|.cons (View.nils 4) .nil)<|rb Y))
 ·
  refine Zi<|I2 (fun Wear Bad=>⟨[(0, .int .i64 sectors), (1, .int .i64 slots), (6, .ptr 0 1 0 0), (8, .ptr 1 1 0 0)], [some ⟨26, [[.int .i64 0, .int .i64 0, .nils, .nils, .nils]]⟩, some ⟨26, [[.int .i64 slots, .int .i64 limit, .nils, .own 2 Wear.length, .own 3 Bad.length]]⟩, some ⟨3, List.map R3 Wear⟩, some ⟨4, List.map R4 Bad⟩]⟩) h (fun h=>?_) fun Wear Bad h=>?_
  ·
   refine K4 0 1 2 6 Y<|QH (cw := md0) (by kernel_rfl)<|Z9 0 _ Y (by kernel_rfl) Y Y (fun hp'=>Zc<|ov Y)<|Z9 1 _ Y (by kernel_rfl) Y Y (fun hp'=>Zc<|ov Y)<|Z9 2 _ Y (by kernel_rfl) Y Y (fun hp'=>Zc<|ov Y)<|Z9 4 _ Y (by kernel_rfl) Y Y (fun hp'=>Zc<|ov Y)<|bE h fun l h_l h=>bE h fun l2 h_l2 h=>Zls [3, 5, 7] (by kernel_rfl)<|.w Y Y Y (fun _=>Ext.app) (fun h=>by cases h) (Zbn [none] (r := 1) (f := R3) (z0 := 0) Y (ov Y) (ov Y) Q3 Y tZ3 Y Y h_l) ?_<|.w Y Y Y (fun _=>Ext.app) (fun h=>by cases h) (Zbn [none] (r := 1) (f := R4) (z0 := false) Y (ov Y) (ov Y) ZfA Y tZ4 Y Y h_l2) ?_<|.w Y Y Y (fun _=>Ext.app) (fun h=>by cases h) (Qf (row := [_, _, _, _, _]) 1 Y Zc4 Y tZ_26) ?_ .nil
   ·
    refine Zl4 5 7 Y Y (by kernel_rfl) Y Y Y Y (fun _=>Ext.app) (fun _=>Ext.app) (fun h=>by cases h) (fun h=>by cases h) (Zbn [none] (r := 2) (f := R4) (z0 := false) Y (ov Y) (ov Y) ZfA Y tZ4 Y Y h_l2) (Qf (row := [_, _, _, _, _]) 2 Y Zc4 Y tZ_26) ?_ ?_
    ·
     exact Z9 6 _ Y (by kernel_rfl) Y Y (fun hp'=>Jw (ys := [_, _, _, _, _]) Zjk Zi1 Zc4 (.cons (cvs (ov Y)<|Zm Y)<|.cons (cvs (ov Y)<|Zm Y)<|.cons (cvs (ov Y)<|Zm Y)<|.cons (cvs (ov Y)<|Zm Y) .nil) Y)<|Zav 7 _ _ Y (by kernel_rfl) Y Y (fun _=>Ext.app) (fun h=>by cases h) (Qf (row := [_, _, _, _, _]) 3 Y Zc4 Y tZ_26)<|Do 8 Y (Zh (ov Y) (ov Y) (ZC XS Y) Y Y Y (Nat.le_of_ble_eq_true Y) (Zb Y) Y)<|Dd<|⟨_, h, ES [some 0, some 3, some 1, some 2]⟩
    ·
     exact Zav 5 _ _ Y (by kernel_rfl) Y Y (fun _=>Ext.app) (fun h=>by cases h) (Zbn [none] (r := 3) (f := R4) (z0 := false) Y (ov Y) (ov Y) ZfA Y tZ4 Y Y h_l2)<|Dq 6 Y (Jw (ys := [_, _, _, _, _]) Zjk Zi1 Zc4 (.cons (cvs (ov Y)<|Zm Y)<|.cons (cvs (ov Y)<|Zm Y)<|.cons (cvs (ov Y)<|Zm Y)<|.cons (cvs (ov Y)<|Zm Y) .nil) Y)<|Do 8 Y (Zh (ov Y) (ov Y) (ZC XS Y) Y Y Y (Nat.le_of_ble_eq_true Y) (Zb Y) Y)<|Dd<|⟨_, h, ES [some 0, some 2, some 1, some 3]⟩
   ·
    refine Zl4 3 7 Y Y (by kernel_rfl) Y Y Y Y (fun _=>Ext.app) (fun _=>Ext.app) (fun h=>by cases h) (fun h=>by cases h) (Zbn [none] (r := 2) (f := R3) (z0 := 0) Y (ov Y) (ov Y) Q3 Y tZ3 Y Y h_l) (Qf (row := [_, _, _, _, _]) 2 Y Zc4 Y tZ_26) ?_ ?_
    ·
     exact Z9 6 _ Y (by kernel_rfl) Y Y (fun hp'=>Jw (ys := [_, _, _, _, _]) Zjk Zi1 Zc4 (.cons (cvs (ov Y)<|Zm Y)<|.cons (cvs (ov Y)<|Zm Y)<|.cons (cvs (ov Y)<|Zm Y)<|.cons (cvs (ov Y)<|Zm Y) .nil) Y)<|Zav 7 _ _ Y (by kernel_rfl) Y Y (fun _=>Ext.app) (fun h=>by cases h) (Qf (row := [_, _, _, _, _]) 3 Y Zc4 Y tZ_26)<|Do 8 Y (Zh (ov Y) (ov Y) (ZC XS Y) Y Y Y (Nat.le_of_ble_eq_true Y) (Zb Y) Y)<|Dd<|⟨_, h, ES [some 0, some 3, some 2, some 1]⟩
    ·
     exact Zav 3 _ _ Y (by kernel_rfl) Y Y (fun _=>Ext.app) (fun h=>by cases h) (Zbn [none] (r := 3) (f := R3) (z0 := 0) Y (ov Y) (ov Y) Q3 Y tZ3 Y Y h_l)<|Dq 6 Y (Jw (ys := [_, _, _, _, _]) Zjk Zi1 Zc4 (.cons (cvs (ov Y)<|Zm Y)<|.cons (cvs (ov Y)<|Zm Y)<|.cons (cvs (ov Y)<|Zm Y)<|.cons (cvs (ov Y)<|Zm Y) .nil) Y)<|Do 8 Y (Zh (ov Y) (ov Y) (ZC XS Y) Y Y Y (Nat.le_of_ble_eq_true Y) (Zb Y) Y)<|Dd<|⟨_, h, ES [some 0, some 2, some 3, some 1]⟩
   ·
    refine Zl4 3 5 Y Y (by kernel_rfl) Y Y Y Y (fun _=>Ext.app) (fun _=>Ext.app) (fun h=>by cases h) (fun h=>by cases h) (Zbn [none] (r := 2) (f := R3) (z0 := 0) Y (ov Y) (ov Y) Q3 Y tZ3 Y Y h_l) (Zbn [none] (r := 2) (f := R4) (z0 := false) Y (ov Y) (ov Y) ZfA Y tZ4 Y Y h_l2) ?_ ?_
    ·
     exact Zav 5 _ _ Y (by kernel_rfl) Y Y (fun _=>Ext.app) (fun h=>by cases h) (Zbn [none] (r := 3) (f := R4) (z0 := false) Y (ov Y) (ov Y) ZfA Y tZ4 Y Y h_l2)<|Dq 6 Y (Jw (ys := [_, _, _, _, _]) Zjk Zi1 Zc4 (.cons (cvs (ov Y)<|Zm Y)<|.cons (cvs (ov Y)<|Zm Y)<|.cons (cvs (ov Y)<|Zm Y)<|.cons (cvs (ov Y)<|Zm Y) .nil) Y)<|Do 8 Y (Zh (ov Y) (ov Y) (ZC XS Y) Y Y Y (Nat.le_of_ble_eq_true Y) (Zb Y) Y)<|Dd<|⟨_, h, ES [some 0, some 1, some 2, some 3]⟩
    ·
     exact Zav 3 _ _ Y (by kernel_rfl) Y Y (fun _=>Ext.app) (fun h=>by cases h) (Zbn [none] (r := 3) (f := R3) (z0 := 0) Y (ov Y) (ov Y) Q3 Y tZ3 Y Y h_l)<|Dq 6 Y (Jw (ys := [_, _, _, _, _]) Zjk Zi1 Zc4 (.cons (cvs (ov Y)<|Zm Y)<|.cons (cvs (ov Y)<|Zm Y)<|.cons (cvs (ov Y)<|Zm Y)<|.cons (cvs (ov Y)<|Zm Y) .nil) Y)<|Do 8 Y (Zh (ov Y) (ov Y) (ZC XS Y) Y Y Y (Nat.le_of_ble_eq_true Y) (Zb Y) Y)<|Dd<|⟨_, h, ES [some 0, some 1, some 3, some 2]⟩
  ·
   refine I1 (fun Sectors=>⟨[(6, .ptr 0 1 0 0), (8, .ptr 1 1 0 0)], [some ⟨26, [[.int .i64 0, .int .i64 0, .nils, .nils, .nils]]⟩, some ⟨26, [[.int .i64 slots, .int .i64 limit, .own 2 Sectors.length, .own 3 Wear.length, .own 4 Bad.length]]⟩, some ⟨49, List.map O49 Sectors⟩, some ⟨3, List.map R3 Wear⟩, some ⟨4, List.map R4 Bad⟩]⟩) h (fun h=>?_) fun Sectors h=>?_
   ·
    refine Tr<|Rm Y<|Rm Y<|Za<|Zg<|?_
    obtain ⟨r1, hl1, ho1⟩ := Xj h
    refine L2 (fun Sectors2 i=>⟨[(1, .int .i64 slots), (6, .ptr 0 1 0 0), (8, .ptr 1 1 0 0), (30, .int .i64 sectors), (31, .int .i64 i)], [some ⟨26, [[.int .i64 0, .int .i64 0, .nils, .nils, .nils]]⟩, some ⟨26, [[.int .i64 slots, .int .i64 limit, .own 2 Sectors2.length, .own 3 Wear.length, .own 4 Bad.length]]⟩, some ⟨49, List.map O49 Sectors2⟩, some ⟨3, List.map R3 Wear⟩, some ⟨4, List.map R4 Bad⟩]⟩) hl1 (ES [some 0, some 1, none, some 2, some 3]) fun n1 Sectors2 i h=>?_
    unfold Zaz at h
    refine Tr<|R2 ZY Y<|Za<|Zj<|If h Y (fun h=>?_) fun h=>?_
    ·
     refine Zi<|I1 (fun Sectors3=>⟨[(1, .int .i64 slots), (6, .ptr 0 1 0 0), (8, .ptr 1 1 0 0), (30, .int .i64 sectors), (31, .int .i64 i)], [some ⟨26, [[.int .i64 0, .int .i64 0, .nils, .nils, .nils]]⟩, some ⟨26, [[.int .i64 slots, .int .i64 limit, .own 2 Sectors3.length, .own 3 Wear.length, .own 4 Bad.length]]⟩, some ⟨49, List.map O49 Sectors3⟩, some ⟨3, List.map R3 Wear⟩, some ⟨4, List.map R4 Bad⟩]⟩) h (fun h=>?_) fun Sectors3 h=>?_
     ·
      refine Zg<|K5 1 6 8 30 31 Y<|QH (cw := ⟨true, false, [], [], []⟩) (by kernel_rfl)<|Z9 3 _ Y (by kernel_rfl) Y Y (fun hp'=>Zc<|ov Y)<|bE h fun y4 h_y4 h=>Zls [0, 2, 4] (by kernel_rfl)<|.q Y Y Y (Zf (ov Y) Y Y ZF) ?_<|.w Y Y Y (fun h=>by cases h) (fun h=>by cases h) (JF<|Zal QU (.cons (cvs (ov Y)<|Zm Y) Y (.cons (.b Y) .nil) .nil) Y Y) ?_<|.w Y Y Y (fun h=>by cases h) (fun h=>by cases h) (JF<|Zw (Qj h_y4)<|.cons (ov Y) (.b Y) .nil) ?_ .nil
      ·
       refine Zls [1, 2, 4] (by kernel_rfl)<|.q Y Y Y (Zu (ov Y) Y Y Y Qc Y) ?_<|.w Y Y Y (fun h=>by cases h) (fun h=>by cases h) (JF<|Zal QU (.cons (cvs (ov Y)<|Zm Y) Y (.cons (.b Y) .nil) .nil) Y Y) ?_<|.w Y Y Y (fun h=>by cases h) (fun h=>by cases h) (JF<|Zw (Qj h_y4)<|.cons (ov Y) (.b Y) .nil) ?_ .nil
       ·
        refine Zl4 2 4 Y Y (by kernel_rfl) Y Y Y Y (fun h=>by cases h) (fun h=>by cases h) (fun h=>by cases h) (fun h=>by cases h) (JF<|Zal QU (.cons (cvs (ov Y)<|Zm Y) Y (.cons (.b Y) .nil) .nil) Y Y) (JF<|Zw (Qj h_y4)<|.cons (ov Y) (.b Y) .nil) ?_ ?_
        ·
         exact Do 4 Y (JF<|Zw (Qj h_y4)<|.cons (ov Y) (.b Y) .nil)<|bE h fun y5 h_y5 h=>Do 5 Y (ZH [] (Zl h_y5) (.cons (ov Y) (.dat Y)<|.cons (ov Y) (.dat Y) .nil) .nil Y (.keep Y Y<|.keep Y Y<|.keep Y Y<|.keep Y Y<|.keep Y Y<|.lent 0 (.inr ⟨Nat.le_of_ble_eq_true Y, Y⟩) Y (roM D5) .nil) Y Y<|.own _<|.inr ⟨Nat.le_of_ble_eq_true Y, Y⟩)<|Do 6 Y (Qn (r := 6) Y ZZ (.cons (cvs (ov Y)<|Zm Y) Y .nil) Y Y)<|bE h fun l3 h_l3 h=>Do 7 Y (ZA (f := O49) (ov Y) (ZV (o := ⟨49, [[.own 5 y5.length]]⟩) (ov Y) Y Y tZ_49) ZZ Y Y (Zb Y) Y h_l3)<|Dq 8 Y (Zf (ov Y) Y Y ZF)<|Do 9 Y (Zh (ov Y) (ov Y) (Zd Qc) Y Y Y (Nat.le_of_ble_eq_true Y) (Zb Y) Y)<|Z4 (by kernel_rfl) (Ent.trans (Ent.absorbH (r := 2) (j := 0) (q := 5) Y (Zk h_l3) Y Y (List.length_map ..) Y)<|Ent.closeS (r := 2) Y (Zk h_l3) Y)<|⟨_, h, ES [some 0, some 1, some 2, some 3, some 4] (hhp := .cons Y (ro1 (by exact tZ_26.symm)<|rld Y)<|.cons Y (ro1 (by exact tZ_26.symm)<|rlc (.dat Y)<|rlc (.dat Y)<|rlc (.own _ Y)<|rlc (.own _ Y)<|rlc (.own _ Y) rln)<|.cons Y (roO Xi)<|.cons Y (roM D3)<|.cons Y (roM D4) .nil)⟩
        ·
         exact Zav 2 (.sl 5<|List.map R5 ([255] : List Int)) _ Y (by kernel_rfl) Y Y (fun h=>by cases h) (fun h=>by cases h) (JF<|Zal QU (.cons (cvs (ov Y)<|Zm Y) Y (.cons (.b Y) .nil) .nil) Y Y)<|bE h fun y5 h_y5 h=>Do 5 Y (ZH [] (Zl h_y5) (.cons (ov Y) (.dat Y)<|.cons (ov Y) (.dat Y) .nil) .nil Y (.keep Y Y<|.keep Y Y<|.keep Y Y<|.keep Y Y<|.keep Y Y<|.lent 0 (.inr ⟨Nat.le_of_ble_eq_true Y, Y⟩) Y (roM D5) .nil) Y Y<|.own _<|.inr ⟨Nat.le_of_ble_eq_true Y, Y⟩)<|Do 6 Y (Qn (r := 6) Y ZZ (.cons (cvs (ov Y)<|Zm Y) Y .nil) Y Y)<|bE h fun l3 h_l3 h=>Do 7 Y (ZA (f := O49) (ov Y) (ZV (o := ⟨49, [[.own 5 y5.length]]⟩) (ov Y) Y Y tZ_49) ZZ Y Y (Zb Y) Y h_l3)<|Dq 8 Y (Zf (ov Y) Y Y ZF)<|Do 9 Y (Zh (ov Y) (ov Y) (Zd Qc) Y Y Y (Nat.le_of_ble_eq_true Y) (Zb Y) Y)<|Z4 (by kernel_rfl) (Ent.trans (Ent.absorbH (r := 2) (j := 0) (q := 5) Y (Zk h_l3) Y Y (List.length_map ..) Y)<|Ent.closeS (r := 2) Y (Zk h_l3) Y)<|⟨_, h, ES [some 0, some 1, some 2, some 3, some 4] (hhp := .cons Y (ro1 (by exact tZ_26.symm)<|rld Y)<|.cons Y (ro1 (by exact tZ_26.symm)<|rlc (.dat Y)<|rlc (.dat Y)<|rlc (.own _ Y)<|rlc (.own _ Y)<|rlc (.own _ Y) rln)<|.cons Y (roO Xi)<|.cons Y (roM D3)<|.cons Y (roM D4) .nil)⟩
       ·
        refine Dw 1 4 Y (Zu (ov Y) Y Y Y Qc Y) (JF<|Zw (Qj h_y4)<|.cons (ov Y) (.b Y) .nil) ?_ ?_
        ·
         exact Do 4 Y (JF<|Zw (Qj h_y4)<|.cons (ov Y) (.b Y) .nil)<|bE h fun y5 h_y5 h=>Do 5 Y (ZH [] (Zl h_y5) (.cons (ov Y) (.dat Y)<|.cons (ov Y) (.dat Y) .nil) .nil Y (.keep Y Y<|.keep Y Y<|.keep Y Y<|.keep Y Y<|.keep Y Y<|.lent 0 (.inr ⟨Nat.le_of_ble_eq_true Y, Y⟩) Y (roM D5) .nil) Y Y<|.own _<|.inr ⟨Nat.le_of_ble_eq_true Y, Y⟩)<|Do 6 Y (Qn (r := 6) Y ZZ (.cons (cvs (ov Y)<|Zm Y) Y .nil) Y Y)<|bE h fun l3 h_l3 h=>Do 7 Y (ZA (f := O49) (ov Y) (ZV (o := ⟨49, [[.own 5 y5.length]]⟩) (ov Y) Y Y tZ_49) ZZ Y Y (Zb Y) Y h_l3)<|Dq 8 Y (Zf (ov Y) Y Y ZF)<|Do 9 Y (Zh (ov Y) (ov Y) (Zd Qc) Y Y Y (Nat.le_of_ble_eq_true Y) (Zb Y) Y)<|Z4 (by kernel_rfl) (Ent.trans (Ent.absorbH (r := 2) (j := 0) (q := 5) Y (Zk h_l3) Y Y (List.length_map ..) Y)<|Ent.closeS (r := 2) Y (Zk h_l3) Y)<|⟨_, h, ES [some 0, some 1, some 2, some 3, some 4] (hhp := .cons Y (ro1 (by exact tZ_26.symm)<|rld Y)<|.cons Y (ro1 (by exact tZ_26.symm)<|rlc (.dat Y)<|rlc (.dat Y)<|rlc (.own _ Y)<|rlc (.own _ Y)<|rlc (.own _ Y) rln)<|.cons Y (roO Xi)<|.cons Y (roM D3)<|.cons Y (roM D4) .nil)⟩
        ·
         refine bE h fun y5 h_y5 h=>Dw 1 5 Y (Zu (ov Y) Y Y Y Qc Y) (ZH [] (Zl h_y5) (.cons (ov Y) (.dat Y)<|.cons (ov Y) (.dat Y) .nil) .nil Y (.keep Y Y<|.keep Y Y<|.keep Y Y<|.keep Y Y<|.keep Y Y<|.lent 0 (.inr ⟨Nat.le_of_ble_eq_true Y, Y⟩) Y (roM D5) .nil) Y Y<|.own _<|.inr ⟨Nat.le_of_ble_eq_true Y, Y⟩) ?_ ?_
         ·
          exact Do 5 Y (ZH [] (Zl h_y5) (.cons (ov Y) (.dat Y)<|.cons (ov Y) (.dat Y) .nil) .nil Y (.keep Y Y<|.keep Y Y<|.keep Y Y<|.keep Y Y<|.keep Y Y<|.lent 0 (.inr ⟨Nat.le_of_ble_eq_true Y, Y⟩) Y (roM D5) .nil) Y Y<|.own _<|.inr ⟨Nat.le_of_ble_eq_true Y, Y⟩)<|Do 6 Y (Qn (r := 6) Y ZZ (.cons (cvs (ov Y)<|Zm Y) Y .nil) Y Y)<|bE h fun l3 h_l3 h=>Do 7 Y (ZA (f := O49) (ov Y) (ZV (o := ⟨49, [[.own 5 y5.length]]⟩) (ov Y) Y Y tZ_49) ZZ Y Y (Zb Y) Y h_l3)<|Dq 8 Y (Zf (ov Y) Y Y ZF)<|Do 9 Y (Zh (ov Y) (ov Y) (Zd Qc) Y Y Y (Nat.le_of_ble_eq_true Y) (Zb Y) Y)<|Z4 (by kernel_rfl) (Ent.trans (Ent.absorbH (r := 2) (j := 0) (q := 5) Y (Zk h_l3) Y Y (List.length_map ..) Y)<|Ent.closeS (r := 2) Y (Zk h_l3) Y)<|⟨_, h, ES [some 0, some 1, some 2, some 3, some 4] (hhp := .cons Y (ro1 (by exact tZ_26.symm)<|rld Y)<|.cons Y (ro1 (by exact tZ_26.symm)<|rlc (.dat Y)<|rlc (.dat Y)<|rlc (.own _ Y)<|rlc (.own _ Y)<|rlc (.own _ Y) rln)<|.cons Y (roO Xi)<|.cons Y (roM D3)<|.cons Y (roM D4) .nil)⟩
         ·
          refine Dw 1 6 Y (Zu (ov Y) Y Y Y Qc Y) (Qn (r := 6) Y ZZ (.cons (cvs (ov Y)<|Zm Y) Y .nil) Y Y) ?_ ?_
          ·
           exact Do 6 Y (Qn (r := 6) Y ZZ (.cons (cvs (ov Y)<|Zm Y) Y .nil) Y Y)<|bE h fun l3 h_l3 h=>Do 7 Y (ZA (f := O49) (ov Y) (ZV (o := ⟨49, [[.own 5 y5.length]]⟩) (ov Y) Y Y tZ_49) ZZ Y Y (Zb Y) Y h_l3)<|Dq 8 Y (Zf (ov Y) Y Y ZF)<|Do 9 Y (Zh (ov Y) (ov Y) (Zd Qc) Y Y Y (Nat.le_of_ble_eq_true Y) (Zb Y) Y)<|Z4 (by kernel_rfl) (Ent.trans (Ent.absorbH (r := 2) (j := 0) (q := 5) Y (Zk h_l3) Y Y (List.length_map ..) Y)<|Ent.closeS (r := 2) Y (Zk h_l3) Y)<|⟨_, h, ES [some 0, some 1, some 2, some 3, some 4] (hhp := .cons Y (ro1 (by exact tZ_26.symm)<|rld Y)<|.cons Y (ro1 (by exact tZ_26.symm)<|rlc (.dat Y)<|rlc (.dat Y)<|rlc (.own _ Y)<|rlc (.own _ Y)<|rlc (.own _ Y) rln)<|.cons Y (roO Xi)<|.cons Y (roM D3)<|.cons Y (roM D4) .nil)⟩
          ·
           exact Dq 1 Y (Zu (ov Y) Y Y Y Qc Y)<|bE h fun l3 h_l3 h=>Do 7 Y (ZA (f := O49) (ov Y) (ZV (o := ⟨49, [[.own 5 y5.length]]⟩) (ov Y) Y Y tZ_49) ZZ Y Y (Zb Y) Y h_l3)<|Dq 8 Y (Zf (ov Y) Y Y ZF)<|Do 9 Y (Zh (ov Y) (ov Y) (Zd Qc) Y Y Y (Nat.le_of_ble_eq_true Y) (Zb Y) Y)<|Z4 (by kernel_rfl) (Ent.trans (Ent.absorbH (r := 2) (j := 0) (q := 5) Y (Zk h_l3) Y Y (List.length_map ..) Y)<|Ent.closeS (r := 2) Y (Zk h_l3) Y)<|⟨_, h, ES [some 0, some 1, some 2, some 3, some 4] (hhp := .cons Y (ro1 (by exact tZ_26.symm)<|rld Y)<|.cons Y (ro1 (by exact tZ_26.symm)<|rlc (.dat Y)<|rlc (.dat Y)<|rlc (.own _ Y)<|rlc (.own _ Y)<|rlc (.own _ Y) rln)<|.cons Y (roO Xi)<|.cons Y (roM D3)<|.cons Y (roM D4) .nil)⟩
       ·
        refine Dw 1 2 Y (Zu (ov Y) Y Y Y Qc Y) (JF<|Zal QU (.cons (cvs (ov Y)<|Zm Y) Y (.cons (.b Y) .nil) .nil) Y Y) ?_ ?_
        ·
         exact Zav 2 (.sl 5<|List.map R5 ([255] : List Int)) _ Y (by kernel_rfl) Y Y (fun h=>by cases h) (fun h=>by cases h) (JF<|Zal QU (.cons (cvs (ov Y)<|Zm Y) Y (.cons (.b Y) .nil) .nil) Y Y)<|bE h fun y5 h_y5 h=>Do 5 Y (ZH [] (Zl h_y5) (.cons (ov Y) (.dat Y)<|.cons (ov Y) (.dat Y) .nil) .nil Y (.keep Y Y<|.keep Y Y<|.keep Y Y<|.keep Y Y<|.keep Y Y<|.lent 0 (.inr ⟨Nat.le_of_ble_eq_true Y, Y⟩) Y (roM D5) .nil) Y Y<|.own _<|.inr ⟨Nat.le_of_ble_eq_true Y, Y⟩)<|Do 6 Y (Qn (r := 6) Y ZZ (.cons (cvs (ov Y)<|Zm Y) Y .nil) Y Y)<|bE h fun l3 h_l3 h=>Do 7 Y (ZA (f := O49) (ov Y) (ZV (o := ⟨49, [[.own 5 y5.length]]⟩) (ov Y) Y Y tZ_49) ZZ Y Y (Zb Y) Y h_l3)<|Dq 8 Y (Zf (ov Y) Y Y ZF)<|Do 9 Y (Zh (ov Y) (ov Y) (Zd Qc) Y Y Y (Nat.le_of_ble_eq_true Y) (Zb Y) Y)<|Z4 (by kernel_rfl) (Ent.trans (Ent.absorbH (r := 2) (j := 0) (q := 5) Y (Zk h_l3) Y Y (List.length_map ..) Y)<|Ent.closeS (r := 2) Y (Zk h_l3) Y)<|⟨_, h, ES [some 0, some 1, some 2, some 3, some 4] (hhp := .cons Y (ro1 (by exact tZ_26.symm)<|rld Y)<|.cons Y (ro1 (by exact tZ_26.symm)<|rlc (.dat Y)<|rlc (.dat Y)<|rlc (.own _ Y)<|rlc (.own _ Y)<|rlc (.own _ Y) rln)<|.cons Y (roO Xi)<|.cons Y (roM D3)<|.cons Y (roM D4) .nil)⟩
        ·
         refine bE h fun y5 h_y5 h=>Dw 1 5 Y (Zu (ov Y) Y Y Y Qc Y) (ZH [] (Zl h_y5) (.cons (ov Y) (.dat Y)<|.cons (ov Y) (.dat Y) .nil) .nil Y (.keep Y Y<|.keep Y Y<|.keep Y Y<|.keep Y Y<|.keep Y Y<|.lent 0 (.inr ⟨Nat.le_of_ble_eq_true Y, Y⟩) Y (roM D5) .nil) Y Y<|.own _<|.inr ⟨Nat.le_of_ble_eq_true Y, Y⟩) ?_ ?_
         ·
          exact Do 5 Y (ZH [] (Zl h_y5) (.cons (ov Y) (.dat Y)<|.cons (ov Y) (.dat Y) .nil) .nil Y (.keep Y Y<|.keep Y Y<|.keep Y Y<|.keep Y Y<|.keep Y Y<|.lent 0 (.inr ⟨Nat.le_of_ble_eq_true Y, Y⟩) Y (roM D5) .nil) Y Y<|.own _<|.inr ⟨Nat.le_of_ble_eq_true Y, Y⟩)<|Do 6 Y (Qn (r := 6) Y ZZ (.cons (cvs (ov Y)<|Zm Y) Y .nil) Y Y)<|bE h fun l3 h_l3 h=>Do 7 Y (ZA (f := O49) (ov Y) (ZV (o := ⟨49, [[.own 5 y5.length]]⟩) (ov Y) Y Y tZ_49) ZZ Y Y (Zb Y) Y h_l3)<|Dq 8 Y (Zf (ov Y) Y Y ZF)<|Do 9 Y (Zh (ov Y) (ov Y) (Zd Qc) Y Y Y (Nat.le_of_ble_eq_true Y) (Zb Y) Y)<|Z4 (by kernel_rfl) (Ent.trans (Ent.absorbH (r := 2) (j := 0) (q := 5) Y (Zk h_l3) Y Y (List.length_map ..) Y)<|Ent.closeS (r := 2) Y (Zk h_l3) Y)<|⟨_, h, ES [some 0, some 1, some 2, some 3, some 4] (hhp := .cons Y (ro1 (by exact tZ_26.symm)<|rld Y)<|.cons Y (ro1 (by exact tZ_26.symm)<|rlc (.dat Y)<|rlc (.dat Y)<|rlc (.own _ Y)<|rlc (.own _ Y)<|rlc (.own _ Y) rln)<|.cons Y (roO Xi)<|.cons Y (roM D3)<|.cons Y (roM D4) .nil)⟩
         ·
          refine Dw 1 6 Y (Zu (ov Y) Y Y Y Qc Y) (Qn (r := 6) Y ZZ (.cons (cvs (ov Y)<|Zm Y) Y .nil) Y Y) ?_ ?_
          ·
           exact Do 6 Y (Qn (r := 6) Y ZZ (.cons (cvs (ov Y)<|Zm Y) Y .nil) Y Y)<|bE h fun l3 h_l3 h=>Do 7 Y (ZA (f := O49) (ov Y) (ZV (o := ⟨49, [[.own 5 y5.length]]⟩) (ov Y) Y Y tZ_49) ZZ Y Y (Zb Y) Y h_l3)<|Dq 8 Y (Zf (ov Y) Y Y ZF)<|Do 9 Y (Zh (ov Y) (ov Y) (Zd Qc) Y Y Y (Nat.le_of_ble_eq_true Y) (Zb Y) Y)<|Z4 (by kernel_rfl) (Ent.trans (Ent.absorbH (r := 2) (j := 0) (q := 5) Y (Zk h_l3) Y Y (List.length_map ..) Y)<|Ent.closeS (r := 2) Y (Zk h_l3) Y)<|⟨_, h, ES [some 0, some 1, some 2, some 3, some 4] (hhp := .cons Y (ro1 (by exact tZ_26.symm)<|rld Y)<|.cons Y (ro1 (by exact tZ_26.symm)<|rlc (.dat Y)<|rlc (.dat Y)<|rlc (.own _ Y)<|rlc (.own _ Y)<|rlc (.own _ Y) rln)<|.cons Y (roO Xi)<|.cons Y (roM D3)<|.cons Y (roM D4) .nil)⟩
          ·
           exact Dq 1 Y (Zu (ov Y) Y Y Y Qc Y)<|bE h fun l3 h_l3 h=>Do 7 Y (ZA (f := O49) (ov Y) (ZV (o := ⟨49, [[.own 5 y5.length]]⟩) (ov Y) Y Y tZ_49) ZZ Y Y (Zb Y) Y h_l3)<|Dq 8 Y (Zf (ov Y) Y Y ZF)<|Do 9 Y (Zh (ov Y) (ov Y) (Zd Qc) Y Y Y (Nat.le_of_ble_eq_true Y) (Zb Y) Y)<|Z4 (by kernel_rfl) (Ent.trans (Ent.absorbH (r := 2) (j := 0) (q := 5) Y (Zk h_l3) Y Y (List.length_map ..) Y)<|Ent.closeS (r := 2) Y (Zk h_l3) Y)<|⟨_, h, ES [some 0, some 1, some 2, some 3, some 4] (hhp := .cons Y (ro1 (by exact tZ_26.symm)<|rld Y)<|.cons Y (ro1 (by exact tZ_26.symm)<|rlc (.dat Y)<|rlc (.dat Y)<|rlc (.own _ Y)<|rlc (.own _ Y)<|rlc (.own _ Y) rln)<|.cons Y (roO Xi)<|.cons Y (roM D3)<|.cons Y (roM D4) .nil)⟩
      ·
       refine Dw 0 4 Y (Zf (ov Y) Y Y ZF) (JF<|Zw (Qj h_y4)<|.cons (ov Y) (.b Y) .nil) ?_ ?_
       ·
        refine Dw 1 4 Y (Zu (ov Y) Y Y Y Qc Y) (JF<|Zw (Qj h_y4)<|.cons (ov Y) (.b Y) .nil) ?_ ?_
        ·
         exact Do 4 Y (JF<|Zw (Qj h_y4)<|.cons (ov Y) (.b Y) .nil)<|bE h fun y5 h_y5 h=>Do 5 Y (ZH [] (Zl h_y5) (.cons (ov Y) (.dat Y)<|.cons (ov Y) (.dat Y) .nil) .nil Y (.keep Y Y<|.keep Y Y<|.keep Y Y<|.keep Y Y<|.keep Y Y<|.lent 0 (.inr ⟨Nat.le_of_ble_eq_true Y, Y⟩) Y (roM D5) .nil) Y Y<|.own _<|.inr ⟨Nat.le_of_ble_eq_true Y, Y⟩)<|Do 6 Y (Qn (r := 6) Y ZZ (.cons (cvs (ov Y)<|Zm Y) Y .nil) Y Y)<|bE h fun l3 h_l3 h=>Do 7 Y (ZA (f := O49) (ov Y) (ZV (o := ⟨49, [[.own 5 y5.length]]⟩) (ov Y) Y Y tZ_49) ZZ Y Y (Zb Y) Y h_l3)<|Dq 8 Y (Zf (ov Y) Y Y ZF)<|Do 9 Y (Zh (ov Y) (ov Y) (Zd Qc) Y Y Y (Nat.le_of_ble_eq_true Y) (Zb Y) Y)<|Z4 (by kernel_rfl) (Ent.trans (Ent.absorbH (r := 2) (j := 0) (q := 5) Y (Zk h_l3) Y Y (List.length_map ..) Y)<|Ent.closeS (r := 2) Y (Zk h_l3) Y)<|⟨_, h, ES [some 0, some 1, some 2, some 3, some 4] (hhp := .cons Y (ro1 (by exact tZ_26.symm)<|rld Y)<|.cons Y (ro1 (by exact tZ_26.symm)<|rlc (.dat Y)<|rlc (.dat Y)<|rlc (.own _ Y)<|rlc (.own _ Y)<|rlc (.own _ Y) rln)<|.cons Y (roO Xi)<|.cons Y (roM D3)<|.cons Y (roM D4) .nil)⟩
        ·
         refine bE h fun y5 h_y5 h=>Dw 1 5 Y (Zu (ov Y) Y Y Y Qc Y) (ZH [] (Zl h_y5) (.cons (ov Y) (.dat Y)<|.cons (ov Y) (.dat Y) .nil) .nil Y (.keep Y Y<|.keep Y Y<|.keep Y Y<|.keep Y Y<|.keep Y Y<|.lent 0 (.inr ⟨Nat.le_of_ble_eq_true Y, Y⟩) Y (roM D5) .nil) Y Y<|.own _<|.inr ⟨Nat.le_of_ble_eq_true Y, Y⟩) ?_ ?_
         ·
          exact Do 5 Y (ZH [] (Zl h_y5) (.cons (ov Y) (.dat Y)<|.cons (ov Y) (.dat Y) .nil) .nil Y (.keep Y Y<|.keep Y Y<|.keep Y Y<|.keep Y Y<|.keep Y Y<|.lent 0 (.inr ⟨Nat.le_of_ble_eq_true Y, Y⟩) Y (roM D5) .nil) Y Y<|.own _<|.inr ⟨Nat.le_of_ble_eq_true Y, Y⟩)<|Do 6 Y (Qn (r := 6) Y ZZ (.cons (cvs (ov Y)<|Zm Y) Y .nil) Y Y)<|bE h fun l3 h_l3 h=>Do 7 Y (ZA (f := O49) (ov Y) (ZV (o := ⟨49, [[.own 5 y5.length]]⟩) (ov Y) Y Y tZ_49) ZZ Y Y (Zb Y) Y h_l3)<|Dq 8 Y (Zf (ov Y) Y Y ZF)<|Do 9 Y (Zh (ov Y) (ov Y) (Zd Qc) Y Y Y (Nat.le_of_ble_eq_true Y) (Zb Y) Y)<|Z4 (by kernel_rfl) (Ent.trans (Ent.absorbH (r := 2) (j := 0) (q := 5) Y (Zk h_l3) Y Y (List.length_map ..) Y)<|Ent.closeS (r := 2) Y (Zk h_l3) Y)<|⟨_, h, ES [some 0, some 1, some 2, some 3, some 4] (hhp := .cons Y (ro1 (by exact tZ_26.symm)<|rld Y)<|.cons Y (ro1 (by exact tZ_26.symm)<|rlc (.dat Y)<|rlc (.dat Y)<|rlc (.own _ Y)<|rlc (.own _ Y)<|rlc (.own _ Y) rln)<|.cons Y (roO Xi)<|.cons Y (roM D3)<|.cons Y (roM D4) .nil)⟩
         ·
          refine Dw 1 6 Y (Zu (ov Y) Y Y Y Qc Y) (Qn (r := 6) Y ZZ (.cons (cvs (ov Y)<|Zm Y) Y .nil) Y Y) ?_ ?_
          ·
           exact Do 6 Y (Qn (r := 6) Y ZZ (.cons (cvs (ov Y)<|Zm Y) Y .nil) Y Y)<|bE h fun l3 h_l3 h=>Do 7 Y (ZA (f := O49) (ov Y) (ZV (o := ⟨49, [[.own 5 y5.length]]⟩) (ov Y) Y Y tZ_49) ZZ Y Y (Zb Y) Y h_l3)<|Dq 8 Y (Zf (ov Y) Y Y ZF)<|Do 9 Y (Zh (ov Y) (ov Y) (Zd Qc) Y Y Y (Nat.le_of_ble_eq_true Y) (Zb Y) Y)<|Z4 (by kernel_rfl) (Ent.trans (Ent.absorbH (r := 2) (j := 0) (q := 5) Y (Zk h_l3) Y Y (List.length_map ..) Y)<|Ent.closeS (r := 2) Y (Zk h_l3) Y)<|⟨_, h, ES [some 0, some 1, some 2, some 3, some 4] (hhp := .cons Y (ro1 (by exact tZ_26.symm)<|rld Y)<|.cons Y (ro1 (by exact tZ_26.symm)<|rlc (.dat Y)<|rlc (.dat Y)<|rlc (.own _ Y)<|rlc (.own _ Y)<|rlc (.own _ Y) rln)<|.cons Y (roO Xi)<|.cons Y (roM D3)<|.cons Y (roM D4) .nil)⟩
          ·
           exact Dq 1 Y (Zu (ov Y) Y Y Y Qc Y)<|bE h fun l3 h_l3 h=>Do 7 Y (ZA (f := O49) (ov Y) (ZV (o := ⟨49, [[.own 5 y5.length]]⟩) (ov Y) Y Y tZ_49) ZZ Y Y (Zb Y) Y h_l3)<|Dq 8 Y (Zf (ov Y) Y Y ZF)<|Do 9 Y (Zh (ov Y) (ov Y) (Zd Qc) Y Y Y (Nat.le_of_ble_eq_true Y) (Zb Y) Y)<|Z4 (by kernel_rfl) (Ent.trans (Ent.absorbH (r := 2) (j := 0) (q := 5) Y (Zk h_l3) Y Y (List.length_map ..) Y)<|Ent.closeS (r := 2) Y (Zk h_l3) Y)<|⟨_, h, ES [some 0, some 1, some 2, some 3, some 4] (hhp := .cons Y (ro1 (by exact tZ_26.symm)<|rld Y)<|.cons Y (ro1 (by exact tZ_26.symm)<|rlc (.dat Y)<|rlc (.dat Y)<|rlc (.own _ Y)<|rlc (.own _ Y)<|rlc (.own _ Y) rln)<|.cons Y (roO Xi)<|.cons Y (roM D3)<|.cons Y (roM D4) .nil)⟩
       ·
        refine bE h fun y5 h_y5 h=>Dw 0 5 Y (Zf (ov Y) Y Y ZF) (ZH [] (Zl h_y5) (.cons (ov Y) (.dat Y)<|.cons (ov Y) (.dat Y) .nil) .nil Y (.keep Y Y<|.keep Y Y<|.keep Y Y<|.keep Y Y<|.keep Y Y<|.lent 0 (.inr ⟨Nat.le_of_ble_eq_true Y, Y⟩) Y (roM D5) .nil) Y Y<|.own _<|.inr ⟨Nat.le_of_ble_eq_true Y, Y⟩) ?_ ?_
        ·
         refine Dw 1 5 Y (Zu (ov Y) Y Y Y Qc Y) (ZH [] (Zl h_y5) (.cons (ov Y) (.dat Y)<|.cons (ov Y) (.dat Y) .nil) .nil Y (.keep Y Y<|.keep Y Y<|.keep Y Y<|.keep Y Y<|.keep Y Y<|.lent 0 (.inr ⟨Nat.le_of_ble_eq_true Y, Y⟩) Y (roM D5) .nil) Y Y<|.own _<|.inr ⟨Nat.le_of_ble_eq_true Y, Y⟩) ?_ ?_
         ·
          exact Do 5 Y (ZH [] (Zl h_y5) (.cons (ov Y) (.dat Y)<|.cons (ov Y) (.dat Y) .nil) .nil Y (.keep Y Y<|.keep Y Y<|.keep Y Y<|.keep Y Y<|.keep Y Y<|.lent 0 (.inr ⟨Nat.le_of_ble_eq_true Y, Y⟩) Y (roM D5) .nil) Y Y<|.own _<|.inr ⟨Nat.le_of_ble_eq_true Y, Y⟩)<|Do 6 Y (Qn (r := 6) Y ZZ (.cons (cvs (ov Y)<|Zm Y) Y .nil) Y Y)<|bE h fun l3 h_l3 h=>Do 7 Y (ZA (f := O49) (ov Y) (ZV (o := ⟨49, [[.own 5 y5.length]]⟩) (ov Y) Y Y tZ_49) ZZ Y Y (Zb Y) Y h_l3)<|Dq 8 Y (Zf (ov Y) Y Y ZF)<|Do 9 Y (Zh (ov Y) (ov Y) (Zd Qc) Y Y Y (Nat.le_of_ble_eq_true Y) (Zb Y) Y)<|Z4 (by kernel_rfl) (Ent.trans (Ent.absorbH (r := 2) (j := 0) (q := 5) Y (Zk h_l3) Y Y (List.length_map ..) Y)<|Ent.closeS (r := 2) Y (Zk h_l3) Y)<|⟨_, h, ES [some 0, some 1, some 2, some 3, some 4] (hhp := .cons Y (ro1 (by exact tZ_26.symm)<|rld Y)<|.cons Y (ro1 (by exact tZ_26.symm)<|rlc (.dat Y)<|rlc (.dat Y)<|rlc (.own _ Y)<|rlc (.own _ Y)<|rlc (.own _ Y) rln)<|.cons Y (roO Xi)<|.cons Y (roM D3)<|.cons Y (roM D4) .nil)⟩
         ·
          refine Dw 1 6 Y (Zu (ov Y) Y Y Y Qc Y) (Qn (r := 6) Y ZZ (.cons (cvs (ov Y)<|Zm Y) Y .nil) Y Y) ?_ ?_
          ·
           exact Do 6 Y (Qn (r := 6) Y ZZ (.cons (cvs (ov Y)<|Zm Y) Y .nil) Y Y)<|bE h fun l3 h_l3 h=>Do 7 Y (ZA (f := O49) (ov Y) (ZV (o := ⟨49, [[.own 5 y5.length]]⟩) (ov Y) Y Y tZ_49) ZZ Y Y (Zb Y) Y h_l3)<|Dq 8 Y (Zf (ov Y) Y Y ZF)<|Do 9 Y (Zh (ov Y) (ov Y) (Zd Qc) Y Y Y (Nat.le_of_ble_eq_true Y) (Zb Y) Y)<|Z4 (by kernel_rfl) (Ent.trans (Ent.absorbH (r := 2) (j := 0) (q := 5) Y (Zk h_l3) Y Y (List.length_map ..) Y)<|Ent.closeS (r := 2) Y (Zk h_l3) Y)<|⟨_, h, ES [some 0, some 1, some 2, some 3, some 4] (hhp := .cons Y (ro1 (by exact tZ_26.symm)<|rld Y)<|.cons Y (ro1 (by exact tZ_26.symm)<|rlc (.dat Y)<|rlc (.dat Y)<|rlc (.own _ Y)<|rlc (.own _ Y)<|rlc (.own _ Y) rln)<|.cons Y (roO Xi)<|.cons Y (roM D3)<|.cons Y (roM D4) .nil)⟩
          ·
           exact Dq 1 Y (Zu (ov Y) Y Y Y Qc Y)<|bE h fun l3 h_l3 h=>Do 7 Y (ZA (f := O49) (ov Y) (ZV (o := ⟨49, [[.own 5 y5.length]]⟩) (ov Y) Y Y tZ_49) ZZ Y Y (Zb Y) Y h_l3)<|Dq 8 Y (Zf (ov Y) Y Y ZF)<|Do 9 Y (Zh (ov Y) (ov Y) (Zd Qc) Y Y Y (Nat.le_of_ble_eq_true Y) (Zb Y) Y)<|Z4 (by kernel_rfl) (Ent.trans (Ent.absorbH (r := 2) (j := 0) (q := 5) Y (Zk h_l3) Y Y (List.length_map ..) Y)<|Ent.closeS (r := 2) Y (Zk h_l3) Y)<|⟨_, h, ES [some 0, some 1, some 2, some 3, some 4] (hhp := .cons Y (ro1 (by exact tZ_26.symm)<|rld Y)<|.cons Y (ro1 (by exact tZ_26.symm)<|rlc (.dat Y)<|rlc (.dat Y)<|rlc (.own _ Y)<|rlc (.own _ Y)<|rlc (.own _ Y) rln)<|.cons Y (roO Xi)<|.cons Y (roM D3)<|.cons Y (roM D4) .nil)⟩
        ·
         refine Dw 0 6 Y (Zf (ov Y) Y Y ZF) (Qn (r := 6) Y ZZ (.cons (cvs (ov Y)<|Zm Y) Y .nil) Y Y) ?_ ?_
         ·
          refine Dw 1 6 Y (Zu (ov Y) Y Y Y Qc Y) (Qn (r := 6) Y ZZ (.cons (cvs (ov Y)<|Zm Y) Y .nil) Y Y) ?_ ?_
          ·
           exact Do 6 Y (Qn (r := 6) Y ZZ (.cons (cvs (ov Y)<|Zm Y) Y .nil) Y Y)<|bE h fun l3 h_l3 h=>Do 7 Y (ZA (f := O49) (ov Y) (ZV (o := ⟨49, [[.own 5 y5.length]]⟩) (ov Y) Y Y tZ_49) ZZ Y Y (Zb Y) Y h_l3)<|Dq 8 Y (Zf (ov Y) Y Y ZF)<|Do 9 Y (Zh (ov Y) (ov Y) (Zd Qc) Y Y Y (Nat.le_of_ble_eq_true Y) (Zb Y) Y)<|Z4 (by kernel_rfl) (Ent.trans (Ent.absorbH (r := 2) (j := 0) (q := 5) Y (Zk h_l3) Y Y (List.length_map ..) Y)<|Ent.closeS (r := 2) Y (Zk h_l3) Y)<|⟨_, h, ES [some 0, some 1, some 2, some 3, some 4] (hhp := .cons Y (ro1 (by exact tZ_26.symm)<|rld Y)<|.cons Y (ro1 (by exact tZ_26.symm)<|rlc (.dat Y)<|rlc (.dat Y)<|rlc (.own _ Y)<|rlc (.own _ Y)<|rlc (.own _ Y) rln)<|.cons Y (roO Xi)<|.cons Y (roM D3)<|.cons Y (roM D4) .nil)⟩
          ·
           exact Dq 1 Y (Zu (ov Y) Y Y Y Qc Y)<|bE h fun l3 h_l3 h=>Do 7 Y (ZA (f := O49) (ov Y) (ZV (o := ⟨49, [[.own 5 y5.length]]⟩) (ov Y) Y Y tZ_49) ZZ Y Y (Zb Y) Y h_l3)<|Dq 8 Y (Zf (ov Y) Y Y ZF)<|Do 9 Y (Zh (ov Y) (ov Y) (Zd Qc) Y Y Y (Nat.le_of_ble_eq_true Y) (Zb Y) Y)<|Z4 (by kernel_rfl) (Ent.trans (Ent.absorbH (r := 2) (j := 0) (q := 5) Y (Zk h_l3) Y Y (List.length_map ..) Y)<|Ent.closeS (r := 2) Y (Zk h_l3) Y)<|⟨_, h, ES [some 0, some 1, some 2, some 3, some 4] (hhp := .cons Y (ro1 (by exact tZ_26.symm)<|rld Y)<|.cons Y (ro1 (by exact tZ_26.symm)<|rlc (.dat Y)<|rlc (.dat Y)<|rlc (.own _ Y)<|rlc (.own _ Y)<|rlc (.own _ Y) rln)<|.cons Y (roO Xi)<|.cons Y (roM D3)<|.cons Y (roM D4) .nil)⟩
         ·
          exact Dq 0 Y (Zf (ov Y) Y Y ZF)<|Dq 1 Y (Zu (ov Y) Y Y Y Qc Y)<|bE h fun l3 h_l3 h=>Do 7 Y (ZA (f := O49) (ov Y) (ZV (o := ⟨49, [[.own 5 y5.length]]⟩) (ov Y) Y Y tZ_49) ZZ Y Y (Zb Y) Y h_l3)<|Dq 8 Y (Zf (ov Y) Y Y ZF)<|Do 9 Y (Zh (ov Y) (ov Y) (Zd Qc) Y Y Y (Nat.le_of_ble_eq_true Y) (Zb Y) Y)<|Z4 (by kernel_rfl) (Ent.trans (Ent.absorbH (r := 2) (j := 0) (q := 5) Y (Zk h_l3) Y Y (List.length_map ..) Y)<|Ent.closeS (r := 2) Y (Zk h_l3) Y)<|⟨_, h, ES [some 0, some 1, some 2, some 3, some 4] (hhp := .cons Y (ro1 (by exact tZ_26.symm)<|rld Y)<|.cons Y (ro1 (by exact tZ_26.symm)<|rlc (.dat Y)<|rlc (.dat Y)<|rlc (.own _ Y)<|rlc (.own _ Y)<|rlc (.own _ Y) rln)<|.cons Y (roO Xi)<|.cons Y (roM D3)<|.cons Y (roM D4) .nil)⟩
      ·
       refine Dw 0 2 Y (Zf (ov Y) Y Y ZF) (JF<|Zal QU (.cons (cvs (ov Y)<|Zm Y) Y (.cons (.b Y) .nil) .nil) Y Y) ?_ ?_
       ·
        refine Dw 1 2 Y (Zu (ov Y) Y Y Y Qc Y) (JF<|Zal QU (.cons (cvs (ov Y)<|Zm Y) Y (.cons (.b Y) .nil) .nil) Y Y) ?_ ?_
        ·
         exact Zav 2 (.sl 5<|List.map R5 ([255] : List Int)) _ Y (by kernel_rfl) Y Y (fun h=>by cases h) (fun h=>by cases h) (JF<|Zal QU (.cons (cvs (ov Y)<|Zm Y) Y (.cons (.b Y) .nil) .nil) Y Y)<|bE h fun y5 h_y5 h=>Do 5 Y (ZH [] (Zl h_y5) (.cons (ov Y) (.dat Y)<|.cons (ov Y) (.dat Y) .nil) .nil Y (.keep Y Y<|.keep Y Y<|.keep Y Y<|.keep Y Y<|.keep Y Y<|.lent 0 (.inr ⟨Nat.le_of_ble_eq_true Y, Y⟩) Y (roM D5) .nil) Y Y<|.own _<|.inr ⟨Nat.le_of_ble_eq_true Y, Y⟩)<|Do 6 Y (Qn (r := 6) Y ZZ (.cons (cvs (ov Y)<|Zm Y) Y .nil) Y Y)<|bE h fun l3 h_l3 h=>Do 7 Y (ZA (f := O49) (ov Y) (ZV (o := ⟨49, [[.own 5 y5.length]]⟩) (ov Y) Y Y tZ_49) ZZ Y Y (Zb Y) Y h_l3)<|Dq 8 Y (Zf (ov Y) Y Y ZF)<|Do 9 Y (Zh (ov Y) (ov Y) (Zd Qc) Y Y Y (Nat.le_of_ble_eq_true Y) (Zb Y) Y)<|Z4 (by kernel_rfl) (Ent.trans (Ent.absorbH (r := 2) (j := 0) (q := 5) Y (Zk h_l3) Y Y (List.length_map ..) Y)<|Ent.closeS (r := 2) Y (Zk h_l3) Y)<|⟨_, h, ES [some 0, some 1, some 2, some 3, some 4] (hhp := .cons Y (ro1 (by exact tZ_26.symm)<|rld Y)<|.cons Y (ro1 (by exact tZ_26.symm)<|rlc (.dat Y)<|rlc (.dat Y)<|rlc (.own _ Y)<|rlc (.own _ Y)<|rlc (.own _ Y) rln)<|.cons Y (roO Xi)<|.cons Y (roM D3)<|.cons Y (roM D4) .nil)⟩
        ·
         refine bE h fun y5 h_y5 h=>Dw 1 5 Y (Zu (ov Y) Y Y Y Qc Y) (ZH [] (Zl h_y5) (.cons (ov Y) (.dat Y)<|.cons (ov Y) (.dat Y) .nil) .nil Y (.keep Y Y<|.keep Y Y<|.keep Y Y<|.keep Y Y<|.keep Y Y<|.lent 0 (.inr ⟨Nat.le_of_ble_eq_true Y, Y⟩) Y (roM D5) .nil) Y Y<|.own _<|.inr ⟨Nat.le_of_ble_eq_true Y, Y⟩) ?_ ?_
         ·
          exact Do 5 Y (ZH [] (Zl h_y5) (.cons (ov Y) (.dat Y)<|.cons (ov Y) (.dat Y) .nil) .nil Y (.keep Y Y<|.keep Y Y<|.keep Y Y<|.keep Y Y<|.keep Y Y<|.lent 0 (.inr ⟨Nat.le_of_ble_eq_true Y, Y⟩) Y (roM D5) .nil) Y Y<|.own _<|.inr ⟨Nat.le_of_ble_eq_true Y, Y⟩)<|Do 6 Y (Qn (r := 6) Y ZZ (.cons (cvs (ov Y)<|Zm Y) Y .nil) Y Y)<|bE h fun l3 h_l3 h=>Do 7 Y (ZA (f := O49) (ov Y) (ZV (o := ⟨49, [[.own 5 y5.length]]⟩) (ov Y) Y Y tZ_49) ZZ Y Y (Zb Y) Y h_l3)<|Dq 8 Y (Zf (ov Y) Y Y ZF)<|Do 9 Y (Zh (ov Y) (ov Y) (Zd Qc) Y Y Y (Nat.le_of_ble_eq_true Y) (Zb Y) Y)<|Z4 (by kernel_rfl) (Ent.trans (Ent.absorbH (r := 2) (j := 0) (q := 5) Y (Zk h_l3) Y Y (List.length_map ..) Y)<|Ent.closeS (r := 2) Y (Zk h_l3) Y)<|⟨_, h, ES [some 0, some 1, some 2, some 3, some 4] (hhp := .cons Y (ro1 (by exact tZ_26.symm)<|rld Y)<|.cons Y (ro1 (by exact tZ_26.symm)<|rlc (.dat Y)<|rlc (.dat Y)<|rlc (.own _ Y)<|rlc (.own _ Y)<|rlc (.own _ Y) rln)<|.cons Y (roO Xi)<|.cons Y (roM D3)<|.cons Y (roM D4) .nil)⟩
         ·
          refine Dw 1 6 Y (Zu (ov Y) Y Y Y Qc Y) (Qn (r := 6) Y ZZ (.cons (cvs (ov Y)<|Zm Y) Y .nil) Y Y) ?_ ?_
          ·
           exact Do 6 Y (Qn (r := 6) Y ZZ (.cons (cvs (ov Y)<|Zm Y) Y .nil) Y Y)<|bE h fun l3 h_l3 h=>Do 7 Y (ZA (f := O49) (ov Y) (ZV (o := ⟨49, [[.own 5 y5.length]]⟩) (ov Y) Y Y tZ_49) ZZ Y Y (Zb Y) Y h_l3)<|Dq 8 Y (Zf (ov Y) Y Y ZF)<|Do 9 Y (Zh (ov Y) (ov Y) (Zd Qc) Y Y Y (Nat.le_of_ble_eq_true Y) (Zb Y) Y)<|Z4 (by kernel_rfl) (Ent.trans (Ent.absorbH (r := 2) (j := 0) (q := 5) Y (Zk h_l3) Y Y (List.length_map ..) Y)<|Ent.closeS (r := 2) Y (Zk h_l3) Y)<|⟨_, h, ES [some 0, some 1, some 2, some 3, some 4] (hhp := .cons Y (ro1 (by exact tZ_26.symm)<|rld Y)<|.cons Y (ro1 (by exact tZ_26.symm)<|rlc (.dat Y)<|rlc (.dat Y)<|rlc (.own _ Y)<|rlc (.own _ Y)<|rlc (.own _ Y) rln)<|.cons Y (roO Xi)<|.cons Y (roM D3)<|.cons Y (roM D4) .nil)⟩
          ·
           exact Dq 1 Y (Zu (ov Y) Y Y Y Qc Y)<|bE h fun l3 h_l3 h=>Do 7 Y (ZA (f := O49) (ov Y) (ZV (o := ⟨49, [[.own 5 y5.length]]⟩) (ov Y) Y Y tZ_49) ZZ Y Y (Zb Y) Y h_l3)<|Dq 8 Y (Zf (ov Y) Y Y ZF)<|Do 9 Y (Zh (ov Y) (ov Y) (Zd Qc) Y Y Y (Nat.le_of_ble_eq_true Y) (Zb Y) Y)<|Z4 (by kernel_rfl) (Ent.trans (Ent.absorbH (r := 2) (j := 0) (q := 5) Y (Zk h_l3) Y Y (List.length_map ..) Y)<|Ent.closeS (r := 2) Y (Zk h_l3) Y)<|⟨_, h, ES [some 0, some 1, some 2, some 3, some 4] (hhp := .cons Y (ro1 (by exact tZ_26.symm)<|rld Y)<|.cons Y (ro1 (by exact tZ_26.symm)<|rlc (.dat Y)<|rlc (.dat Y)<|rlc (.own _ Y)<|rlc (.own _ Y)<|rlc (.own _ Y) rln)<|.cons Y (roO Xi)<|.cons Y (roM D3)<|.cons Y (roM D4) .nil)⟩
       ·
        refine bE h fun y5 h_y5 h=>Dw 0 5 Y (Zf (ov Y) Y Y ZF) (ZH [] (Zl h_y5) (.cons (ov Y) (.dat Y)<|.cons (ov Y) (.dat Y) .nil) .nil Y (.keep Y Y<|.keep Y Y<|.keep Y Y<|.keep Y Y<|.keep Y Y<|.lent 0 (.inr ⟨Nat.le_of_ble_eq_true Y, Y⟩) Y (roM D5) .nil) Y Y<|.own _<|.inr ⟨Nat.le_of_ble_eq_true Y, Y⟩) ?_ ?_
        ·
         refine Dw 1 5 Y (Zu (ov Y) Y Y Y Qc Y) (ZH [] (Zl h_y5) (.cons (ov Y) (.dat Y)<|.cons (ov Y) (.dat Y) .nil) .nil Y (.keep Y Y<|.keep Y Y<|.keep Y Y<|.keep Y Y<|.keep Y Y<|.lent 0 (.inr ⟨Nat.le_of_ble_eq_true Y, Y⟩) Y (roM D5) .nil) Y Y<|.own _<|.inr ⟨Nat.le_of_ble_eq_true Y, Y⟩) ?_ ?_
         ·
          exact Do 5 Y (ZH [] (Zl h_y5) (.cons (ov Y) (.dat Y)<|.cons (ov Y) (.dat Y) .nil) .nil Y (.keep Y Y<|.keep Y Y<|.keep Y Y<|.keep Y Y<|.keep Y Y<|.lent 0 (.inr ⟨Nat.le_of_ble_eq_true Y, Y⟩) Y (roM D5) .nil) Y Y<|.own _<|.inr ⟨Nat.le_of_ble_eq_true Y, Y⟩)<|Do 6 Y (Qn (r := 6) Y ZZ (.cons (cvs (ov Y)<|Zm Y) Y .nil) Y Y)<|bE h fun l3 h_l3 h=>Do 7 Y (ZA (f := O49) (ov Y) (ZV (o := ⟨49, [[.own 5 y5.length]]⟩) (ov Y) Y Y tZ_49) ZZ Y Y (Zb Y) Y h_l3)<|Dq 8 Y (Zf (ov Y) Y Y ZF)<|Do 9 Y (Zh (ov Y) (ov Y) (Zd Qc) Y Y Y (Nat.le_of_ble_eq_true Y) (Zb Y) Y)<|Z4 (by kernel_rfl) (Ent.trans (Ent.absorbH (r := 2) (j := 0) (q := 5) Y (Zk h_l3) Y Y (List.length_map ..) Y)<|Ent.closeS (r := 2) Y (Zk h_l3) Y)<|⟨_, h, ES [some 0, some 1, some 2, some 3, some 4] (hhp := .cons Y (ro1 (by exact tZ_26.symm)<|rld Y)<|.cons Y (ro1 (by exact tZ_26.symm)<|rlc (.dat Y)<|rlc (.dat Y)<|rlc (.own _ Y)<|rlc (.own _ Y)<|rlc (.own _ Y) rln)<|.cons Y (roO Xi)<|.cons Y (roM D3)<|.cons Y (roM D4) .nil)⟩
         ·
          refine Dw 1 6 Y (Zu (ov Y) Y Y Y Qc Y) (Qn (r := 6) Y ZZ (.cons (cvs (ov Y)<|Zm Y) Y .nil) Y Y) ?_ ?_
          ·
           exact Do 6 Y (Qn (r := 6) Y ZZ (.cons (cvs (ov Y)<|Zm Y) Y .nil) Y Y)<|bE h fun l3 h_l3 h=>Do 7 Y (ZA (f := O49) (ov Y) (ZV (o := ⟨49, [[.own 5 y5.length]]⟩) (ov Y) Y Y tZ_49) ZZ Y Y (Zb Y) Y h_l3)<|Dq 8 Y (Zf (ov Y) Y Y ZF)<|Do 9 Y (Zh (ov Y) (ov Y) (Zd Qc) Y Y Y (Nat.le_of_ble_eq_true Y) (Zb Y) Y)<|Z4 (by kernel_rfl) (Ent.trans (Ent.absorbH (r := 2) (j := 0) (q := 5) Y (Zk h_l3) Y Y (List.length_map ..) Y)<|Ent.closeS (r := 2) Y (Zk h_l3) Y)<|⟨_, h, ES [some 0, some 1, some 2, some 3, some 4] (hhp := .cons Y (ro1 (by exact tZ_26.symm)<|rld Y)<|.cons Y (ro1 (by exact tZ_26.symm)<|rlc (.dat Y)<|rlc (.dat Y)<|rlc (.own _ Y)<|rlc (.own _ Y)<|rlc (.own _ Y) rln)<|.cons Y (roO Xi)<|.cons Y (roM D3)<|.cons Y (roM D4) .nil)⟩
          ·
           exact Dq 1 Y (Zu (ov Y) Y Y Y Qc Y)<|bE h fun l3 h_l3 h=>Do 7 Y (ZA (f := O49) (ov Y) (ZV (o := ⟨49, [[.own 5 y5.length]]⟩) (ov Y) Y Y tZ_49) ZZ Y Y (Zb Y) Y h_l3)<|Dq 8 Y (Zf (ov Y) Y Y ZF)<|Do 9 Y (Zh (ov Y) (ov Y) (Zd Qc) Y Y Y (Nat.le_of_ble_eq_true Y) (Zb Y) Y)<|Z4 (by kernel_rfl) (Ent.trans (Ent.absorbH (r := 2) (j := 0) (q := 5) Y (Zk h_l3) Y Y (List.length_map ..) Y)<|Ent.closeS (r := 2) Y (Zk h_l3) Y)<|⟨_, h, ES [some 0, some 1, some 2, some 3, some 4] (hhp := .cons Y (ro1 (by exact tZ_26.symm)<|rld Y)<|.cons Y (ro1 (by exact tZ_26.symm)<|rlc (.dat Y)<|rlc (.dat Y)<|rlc (.own _ Y)<|rlc (.own _ Y)<|rlc (.own _ Y) rln)<|.cons Y (roO Xi)<|.cons Y (roM D3)<|.cons Y (roM D4) .nil)⟩
        ·
         refine Dw 0 6 Y (Zf (ov Y) Y Y ZF) (Qn (r := 6) Y ZZ (.cons (cvs (ov Y)<|Zm Y) Y .nil) Y Y) ?_ ?_
         ·
          refine Dw 1 6 Y (Zu (ov Y) Y Y Y Qc Y) (Qn (r := 6) Y ZZ (.cons (cvs (ov Y)<|Zm Y) Y .nil) Y Y) ?_ ?_
          ·
           exact Do 6 Y (Qn (r := 6) Y ZZ (.cons (cvs (ov Y)<|Zm Y) Y .nil) Y Y)<|bE h fun l3 h_l3 h=>Do 7 Y (ZA (f := O49) (ov Y) (ZV (o := ⟨49, [[.own 5 y5.length]]⟩) (ov Y) Y Y tZ_49) ZZ Y Y (Zb Y) Y h_l3)<|Dq 8 Y (Zf (ov Y) Y Y ZF)<|Do 9 Y (Zh (ov Y) (ov Y) (Zd Qc) Y Y Y (Nat.le_of_ble_eq_true Y) (Zb Y) Y)<|Z4 (by kernel_rfl) (Ent.trans (Ent.absorbH (r := 2) (j := 0) (q := 5) Y (Zk h_l3) Y Y (List.length_map ..) Y)<|Ent.closeS (r := 2) Y (Zk h_l3) Y)<|⟨_, h, ES [some 0, some 1, some 2, some 3, some 4] (hhp := .cons Y (ro1 (by exact tZ_26.symm)<|rld Y)<|.cons Y (ro1 (by exact tZ_26.symm)<|rlc (.dat Y)<|rlc (.dat Y)<|rlc (.own _ Y)<|rlc (.own _ Y)<|rlc (.own _ Y) rln)<|.cons Y (roO Xi)<|.cons Y (roM D3)<|.cons Y (roM D4) .nil)⟩
          ·
           exact Dq 1 Y (Zu (ov Y) Y Y Y Qc Y)<|bE h fun l3 h_l3 h=>Do 7 Y (ZA (f := O49) (ov Y) (ZV (o := ⟨49, [[.own 5 y5.length]]⟩) (ov Y) Y Y tZ_49) ZZ Y Y (Zb Y) Y h_l3)<|Dq 8 Y (Zf (ov Y) Y Y ZF)<|Do 9 Y (Zh (ov Y) (ov Y) (Zd Qc) Y Y Y (Nat.le_of_ble_eq_true Y) (Zb Y) Y)<|Z4 (by kernel_rfl) (Ent.trans (Ent.absorbH (r := 2) (j := 0) (q := 5) Y (Zk h_l3) Y Y (List.length_map ..) Y)<|Ent.closeS (r := 2) Y (Zk h_l3) Y)<|⟨_, h, ES [some 0, some 1, some 2, some 3, some 4] (hhp := .cons Y (ro1 (by exact tZ_26.symm)<|rld Y)<|.cons Y (ro1 (by exact tZ_26.symm)<|rlc (.dat Y)<|rlc (.dat Y)<|rlc (.own _ Y)<|rlc (.own _ Y)<|rlc (.own _ Y) rln)<|.cons Y (roO Xi)<|.cons Y (roM D3)<|.cons Y (roM D4) .nil)⟩
         ·
          exact Dq 0 Y (Zf (ov Y) Y Y ZF)<|Dq 1 Y (Zu (ov Y) Y Y Y Qc Y)<|bE h fun l3 h_l3 h=>Do 7 Y (ZA (f := O49) (ov Y) (ZV (o := ⟨49, [[.own 5 y5.length]]⟩) (ov Y) Y Y tZ_49) ZZ Y Y (Zb Y) Y h_l3)<|Dq 8 Y (Zf (ov Y) Y Y ZF)<|Do 9 Y (Zh (ov Y) (ov Y) (Zd Qc) Y Y Y (Nat.le_of_ble_eq_true Y) (Zb Y) Y)<|Z4 (by kernel_rfl) (Ent.trans (Ent.absorbH (r := 2) (j := 0) (q := 5) Y (Zk h_l3) Y Y (List.length_map ..) Y)<|Ent.closeS (r := 2) Y (Zk h_l3) Y)<|⟨_, h, ES [some 0, some 1, some 2, some 3, some 4] (hhp := .cons Y (ro1 (by exact tZ_26.symm)<|rld Y)<|.cons Y (ro1 (by exact tZ_26.symm)<|rlc (.dat Y)<|rlc (.dat Y)<|rlc (.own _ Y)<|rlc (.own _ Y)<|rlc (.own _ Y) rln)<|.cons Y (roO Xi)<|.cons Y (roM D3)<|.cons Y (roM D4) .nil)⟩
     ·
      exact Zt<|R2 ZX Y<|Rm Y<|Za<|⟨_, h, ES [some 0, some 1, some 2, some 3, some 4] (hhp := .cons Y (ro1 (by exact tZ_26.symm)<|rld Y)<|.cons Y (ro1 (by exact tZ_26.symm)<|rlc (.dat Y)<|rlc (.dat Y)<|rlc (.own _ Y)<|rlc (.own _ Y)<|rlc (.own _ Y) rln)<|.cons Y (roO Xi)<|.cons Y (roM D3)<|.cons Y (roM D4) .nil)⟩
    ·
     refine ZS<|?_
     replace h := lx h ▸ ho1
     exact ⟨_, h, ES [some 0, some 1, some 2, some 3, some 4] (hhp := .cons Y (ro1 (by exact tZ_26.symm)<|rld Y)<|.cons Y (ro1 (by exact tZ_26.symm)<|rlc (.dat Y)<|rlc (.dat Y)<|rlc (.own _ Y)<|rlc (.own _ Y)<|rlc (.own _ Y) rln)<|.cons Y (roO Xi)<|.cons Y (roM D3)<|.cons Y (roM D4) .nil)⟩
   ·
    refine Tr<|Rq Y (QB (ov Y) Y Y Y XS Y Y)<|Rx Y (Zh (ov Y) (ov Y) (ZC XS Y) Y Y Y (Nat.le_of_ble_eq_true Y) (Zb Y) Y)<|Ra Y<|Za<|?_
    obtain rfl := rt h
    exact Zp (Z5 Y (.two (.agg Y Y Y Y XS Y Y<|.cons (Dat.view<|.b Y)<|.cons (Dat.view<|.b Y)<|.cons (View.ownO Y Y Xi (fun x=>(D49 x).1) Zpl)<|.cons (View.ownM Y Y D3)<|.cons (View.ownM Y Y D4) .nil)<|rb Y))
end Go.Proofs.YtnlmjeleocelgaaGreatDoor
