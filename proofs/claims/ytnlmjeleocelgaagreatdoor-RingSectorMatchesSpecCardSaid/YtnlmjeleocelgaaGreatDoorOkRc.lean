/- A text of the proof: a verified executor of the program form, or the contracts of the functions that the law reaches. -/
import Derived.Test.YtnlmjeleocelgaaGreatDoorOkRb
set_option linter.all false
namespace Go.Proofs.YtnlmjeleocelgaaGreatDoor
open Go Go.Vx
set_option maxRecDepth 10000
set_option maxHeartbeats 2000000
set_option linter.unusedVariables false
theorem Zct {data : List Int} {n : Int} {cmp : Int → Int → Option Int} {r : (List Int)} {cmp_f : FuncId} {cmp_c : List AV} (cmp_d : cmp_c.all datB = true) (cmp_h : ∀ (z0 : Int) (z1 : Int) z, cmp z0 z1 = some z → CSpec Tryz.prog gl0 cmp_f ([.int .i64 z0, .int .i64 z1] ++ cmp_c) (.int .i64 z)) (h : Qc data n cmp = some r) :
 GSpec Tryz.prog gl0 137 [.own 0 data.length, .int .i64 n, .fn cmp_f cmp_c] [some ⟨3, List.map R3 data⟩] (.tuple []) [some ⟨3, List.map R3 r⟩] := by
 unfold Qc at h
 replace h := Z0 h
 refine QF (by kernel_rfl) Tryz.func137 Y Y<|?_
 intro w0 A W φ0
 refine Tr<|Ra Y<|Za<|Tr<|Rm Y<|Ra Y<|Ra Y<|Za<|I2 (fun o a=>⟨[(0, .own 0 o.length), (1, .int .i64 n), (2, .fn cmp_f cmp_c), (6, .int .i64 20), (7, .int .i64 a)], [some ⟨3, List.map R3 o⟩]⟩) h (fun h=>?_) fun o a h=>?_
 ·
  refine Ze<|?_
  obtain ⟨r1, hl1, ho1⟩ := QI h
  refine L3 (fun o2 a2 b=>⟨[(0, .own 0 o2.length), (1, .int .i64 n), (2, .fn cmp_f cmp_c), (6, .int .i64 20), (7, .int .i64 a2), (8, .int .i64 b)], [some ⟨3, List.map R3 o2⟩]⟩) hl1 (ES [some 0]<|sr 0 Y (.own _ Y)<|sd 1 Y Y<|sr 2 Y (rFn<|rld cmp_d)<|sd 6 Y Y<|sd 7 Y Y<|sd 8 Y Y sn) fun n1 o2 a2 b h=>?_
  unfold ZL at h
  refine Zg<|Tr<|Rm Y<|Rm Y<|R2 Zhx Y<|Za<|K7 0 1 2 6 7 8 13 Y<|If h Y (fun h=>?_) fun h=>?_
  ·
   exact Zh<|Ze<|K6 0 1 2 6 7 8 Y<|Tr<|Rm Y<|Rm Y<|Rm Y<|Rm Y<|bE h fun y h_y h=>Rx Y (ZF [0] (Xj cmp_d cmp_h h_y) (.cons (ov Y) (.own _ Y)<|.cons (ov Y) (.dat Y)<|.cons (ov Y) (.dat Y)<|.cons (ov Y) (rFn<|rld cmp_d) .nil) (.cons Y (roM D3) .nil) Y (.lent 0 (.inl Y) Y (roM D3) .nil) Y Y<|X0<|rld Y)<|Za<|K6 0 1 2 6 7 8 Y<|Tr<|Rm Y<|Ra Y<|Za<|K6 0 1 2 6 7 8 Y<|Zt<|Rm Y<|Rm Y<|R2 ZM Y<|Ra Y<|Za<|⟨_, h, ES [some 0]<|sr 0 Y (ZfY (Eq.symm<|Z4 h_y) Y)<|sd 1 Y Y<|sr 2 Y (rFn<|rld cmp_d)<|sd 6 Y Y<|sd 7 Y Y<|sd 8 Y Y sn⟩
  ·
   refine ZE<|?_
   replace h := lx h ▸ ho1
   exact ⟨_, h, ES [some 0]<|sr 0 Y (.own _ Y)<|sd 1 Y Y<|sr 2 Y (rFn<|rld cmp_d)<|sd 6 Y Y<|sd 7 Y Y sn⟩
 ·
  refine Tr<|Rm Y<|Rm Y<|Rm Y<|Rm Y<|bE h fun y2 h_y2 h=>Rx Y (ZF [0] (Xj cmp_d cmp_h h_y2) (.cons (ov Y) (.own _ Y)<|.cons (ov Y) (.dat Y)<|.cons (ov Y) (.dat Y)<|.cons (ov Y) (rFn<|rld cmp_d) .nil) (.cons Y (roM D3) .nil) Y (.lent 0 (.inl Y) Y (roM D3) .nil) Y Y<|X0<|rld Y)<|Za<|Ze<|?_
  obtain ⟨r2, hl2, ho2⟩ := QI h
  refine L1 (fun blockSize=>⟨[(0, .own 0 y2.length), (1, .int .i64 n), (2, .fn cmp_f cmp_c), (6, .int .i64 blockSize)], [some ⟨3, List.map R3 y2⟩]⟩) hl2 (ES [some 0]<|sr 0 Y (ZfY (Eq.symm<|Z4 h_y2) Y)<|sd 1 Y Y<|sr 2 Y (rFn<|rld cmp_d)<|sd 6 Y Y sn) fun n2 blockSize h=>?_
  unfold ZS at h
  refine Zg<|Tr<|Rm Y<|Rm Y<|R2 ZO Y<|Za<|K5 0 1 2 6 30 Y<|If h Y (fun h=>?_) fun h=>?_
  ·
   refine Zh<|Ze<|K4 0 1 2 6 Y<|Tr<|Rm Y<|R2 Zea Y<|Ra Y<|Ra Y<|Za<|I0 ⟨[(0, .own 0 y2.length), (1, .int .i64 n), (2, .fn cmp_f cmp_c), (6, .int .i64 blockSize), (7, .int .i64 0)], [some ⟨3, List.map R3 y2⟩]⟩ h (fun h=>?_) fun h=>?_
   ·
    refine Ze<|?_
    obtain ⟨r3, hl3, ho3⟩ := QI h
    refine L0 ⟨[(0, .own 0 y2.length), (1, .int .i64 n), (2, .fn cmp_f cmp_c), (6, .int .i64 blockSize), (7, .int .i64 0), (8, .int .i64 (i64 (2 * blockSize)))], [some ⟨3, List.map R3 y2⟩]⟩ hl3 (ES [some 0]<|sr 0 Y (.own _ Y)<|sd 1 Y Y<|sr 2 Y (rFn<|rld cmp_d)<|sd 6 Y Y<|sd 7 Y Y<|sd 8 Y Y sn) fun n3 h=>?_
    unfold Qt at h
    refine Zg<|Tr<|Rm Y<|Rm Y<|R2 Zhx Y<|Za<|K7 0 1 2 6 7 8 35 Y<|If h Y (fun h=>?_) fun h=>?_
    ·
     exact Zh<|Ze<|(Zi8 h).elim
    ·
     refine ZE<|?_
     replace h := lx h ▸ ho3
     exact ⟨(), h, ES [some 0]<|sr 0 Y (.own _ Y)<|sd 1 Y Y<|sr 2 Y (rFn<|rld cmp_d)<|sd 6 Y Y<|sd 7 Y Y sn⟩
   ·
    refine Zg<|Tr<|Rm Y<|Rm Y<|R2 ZM Y<|Ra Y<|Za<|K6 0 1 2 6 7 9 Y<|Tr<|Rm Y<|Rm Y<|R2 ZO Y<|Za<|K7 0 1 2 6 7 9 54 Y<|If h Y (fun h=>?_) fun h=>?_
    ·
     exact (Zi8 h).elim
    ·
     exact Zh<|K4 0 1 2 6 Y<|Zt<|Rm Y<|R2 Zea Y<|Ra Y<|Za<|⟨_, h, ES [some 0]<|sr 0 Y (.own _ Y)<|sd 1 Y Y<|sr 2 Y (rFn<|rld cmp_d)<|sd 6 Y Y sn⟩
  ·
   refine ZE<|?_
   replace h := lx h ▸ ho2
   obtain rfl := rt h
   exact Zic [some 0] Y .nil (.cons Y (roM D3) .nil) Y Y<|X0 rln
theorem ZaQ {x : List Int} {cmp : Int → Int → Option Int} {r : (List Int)} {cmp_f : FuncId} {cmp_c : List AV} (cmp_d : cmp_c.all datB = true) (cmp_h : ∀ (z0 : Int) (z1 : Int) z, cmp z0 z1 = some z → CSpec Tryz.prog gl0 cmp_f ([.int .i64 z0, .int .i64 z1] ++ cmp_c) (.int .i64 z)) (h : ZK x cmp = some r) :
 GSpec Tryz.prog gl0 114 [.own 0 x.length, .fn cmp_f cmp_c] [some ⟨3, List.map R3 x⟩] (.tuple []) [some ⟨3, List.map R3 r⟩] := by
 unfold ZK at h
 replace h := Z0 h
 refine QF (by kernel_rfl) Tryz.func114 Y Y<|?_
 intro w0 A W φ0
 refine Zt<|Rm Y<|Rm Y<|Rq Y (ZeD (ov Y) Y Y Q3)<|Rm Y<|bE h fun y h_y h=>Rx Y (ZF [0] (Zct cmp_d cmp_h h_y) (.cons (ov Y) (.own _ Y)<|.cons (ov Y) (.dat Y)<|.cons (ov Y) (rFn<|rld cmp_d) .nil) (.cons Y (roM D3) .nil) Y (.lent 0 (.inl Y) Y (roM D3) .nil) Y Y<|X0<|rld Y)<|Za<|?_
 obtain rfl := rt h
 exact Zic [some 0] Y .nil (.cons Y (roM D3) .nil) Y Y<|X0 rln
theorem Zc6 {i : Int} {c0 : api_Memory} {r : Int} (h : XU i c0 = some r) :
 CSpec Tryz.prog gl0 113 [.int .i64 i, .rp [.int .i64 c0.Slots, .int .i64 c0.Limit, .sl 49 (List.map R49 c0.Sectors), .sl 3 (List.map R3 c0.Wear), .sl 4 (List.map R4 c0.Bad)] 0] (.int .i64 r) := by
 unfold XU at h
 replace h := Z0 h
 refine So Tryz.func113 Y fun w0 A=>Tr<|Ra Y<|Za<|K2 0 1 Y<|Tr<|Rq Y (ZW (ov Y) ZG)<|Rq Y (Zd (ov Y) Qd Y)<|Rm Y<|bE h fun x h_x h=>Rq Y (ZQ (ov Y) (ov Y) Z1 h_x)<|Rq Y (Zd (ov Y) ZgW Y)<|bE h fun y h_y h=>Rq Y (Zo (JM h_y)<|.cons (ov Y) (.b Y) .nil)<|Rm Y<|Rq Y (Zl (ov Y) Y)<|Rq Y (Zl (ov Y) Y)<|Rq Y (Zl (ov Y) Y)<|Ra Y<|Ra Y<|Ra Y<|Za<|K1 4 Y<|Tr<|Rm Y<|Ra Y<|Za<|?_
 obtain rfl := rt h
 exact Zn (ZC Y (.one<|rb Y))
theorem Zfy {a : Int} {b : Int} {k : api_Memory} {r : Int} (h : JG a b k = some r) :
 CSpec Tryz.prog gl0 115 [.int .i64 a, .int .i64 b, .rp [.fn 113 [.rp [.int .i64 k.Slots, .int .i64 k.Limit, .sl 49 (List.map R49 k.Sectors), .sl 3 (List.map R3 k.Wear), .sl 4 (List.map R4 k.Bad)] 0]] 0] (.int .i64 r) := by
 unfold JG at h
 replace h := Z0 h
 refine So Tryz.func115 Y fun w0 A=>Tr<|Ra Y<|Za<|Zg<|Qp (cw := md0) (by kernel_rfl)<|Dq 0 Y (Zd (ov Y) ZmA Y)<|D1 1 Zc Y<|bE h fun y h_y h=>Dq 2 Y (Zg2 (ov Y) Y (Zc6 h_y)<|.cons (ov Y) (.b Y) .nil)<|Dq 3 Y (Zd (ov Y) ZmA Y)<|D1 4 Zc Y<|bE h fun y2 h_y2 h=>Dq 5 Y (Zg2 (ov Y) Y (Zc6 h_y2)<|.cons (ov Y) (.b Y) .nil)<|D2 6 ZeV Y<|D1 7 Z8 Y<|Dd<|?_
 obtain rfl := rt h
 exact Zn (ZC Y (.one<|rb Y))
theorem Zd6 {m : api_Memory} {r : (List Int)} (h : JJ m = some r) :
 CSpec Tryz.prog gl0 76 [.agg [.int .i64 m.Slots, .int .i64 m.Limit, .sl 49 (List.map R49 m.Sectors), .sl 3 (List.map R3 m.Wear), .sl 4 (List.map R4 m.Bad)]] (.sl 3 (List.map R3 r)) := by
 unfold JJ at h
 replace h := Z0 h
 refine So Tryz.func76 Y fun w0 A=>Tr<|Rq Y (Zdb (cva<|ov Y) Y tZ_26 Y)<|Ra Y<|Za<|K1 1 Y<|Tr<|Ra Y<|Za<|Tr<|Rq Y (Zhr<|.cons (ov Y) .nil)<|Rx Y (ZN (row := [_]) 0 Y Znf Y tZ_92)<|Rx Y (Zi (ov Y) (ov Y) (Zf ZmA) Y Y Y (Nat.le_of_ble_eq_true Y) (Zb Y) Y)<|Za<|I1 (fun out=>⟨[(3, .own 0 out.length), (4, .ptr 1 1 0 0)], [some ⟨3, List.map R3 out⟩, some ⟨92, [[.fn 113 [.rp [.int .i64 m.Slots, .int .i64 m.Limit, .sl 49 (List.map R49 m.Sectors), .sl 3 (List.map R3 m.Wear), .sl 4 (List.map R4 m.Bad)] 0]]]⟩]⟩) h (fun h=>?_) fun out h=>?_
 ·
  refine K3 1 3 4 Y<|Tr<|Rq Y (ZW (ov Y) ZG)<|Rq Y (Zd (ov Y) Qd Y)<|Rl tZ_49 Z1 Y<|Rm Y<|Za<|Ze<|?_
  obtain ⟨r1, hl1, ho1⟩ := QI h
  refine L2 (fun out2 i=>⟨[(1, .rp [.int .i64 m.Slots, .int .i64 m.Limit, .sl 49 (List.map R49 m.Sectors), .sl 3 (List.map R3 m.Wear), .sl 4 (List.map R4 m.Bad)] 0), (3, .own 0 out2.length), (4, .ptr 1 1 0 0), (12, .sl 49 (List.map R49 m.Sectors)), (13, .int .i64 (m.Sectors.length : Int)), (14, .int .i64 i)], [some ⟨3, List.map R3 out2⟩, some ⟨92, [[.fn 113 [.rp [.int .i64 m.Slots, .int .i64 m.Limit, .sl 49 (List.map R49 m.Sectors), .sl 3 (List.map R3 m.Wear), .sl 4 (List.map R4 m.Bad)] 0]]]⟩]⟩) hl1 (ES [none, some 0] (hhp := .row 3<|.cons Y (ro1 (by exact tZ_92.symm)<|rlc (rFn<|rlc (.dat Y) rln) rln) .nil)) fun n1 out2 i h=>?_
  unfold Zah at h
  refine Tr<|R2 ZO Y<|Za<|Zg<|If h Y (fun h=>?_) fun h=>?_
  ·
   refine Zh<|Zg<|Ze<|K6 1 3 4 12 13 14 Y<|Tr<|Rm Y<|bE h fun x h_x h=>Rq Y (ZQ (ov Y) (ov Y) Z1 h_x)<|Rq Y (Zd (ov Y) ZgW Y)<|Ra Y<|Ra Y<|Za<|K8 1 3 4 5 6 12 13 14 Y<|Tr<|Rm Y<|bE h fun y h_y h=>Rq Y (Zo (JM h_y)<|.cons (ov Y) (.b Y) .nil)<|Rm Y<|Rq Y (Zl (ov Y) Y)<|Rq Y (Zl (ov Y) Y)<|Rq Y (Zl (ov Y) Y)<|Ra Y<|Ra Y<|Ra Y<|Za<|K8 1 3 4 5 9 12 13 14 Y<|Tr<|Rm Y<|Rm Y<|Rq Y (.guarded (y.2.2 == true) Y Y Y Y fun h => ZW (ov Y) Zf9)<|Rq Y (.guarded (y.2.2 == true) Y Y Y Y fun h => Zd (ow Y h) Zjx Y)<|Rq Y (.guarded (y.2.2 == true) Y Y Y Y fun h => Zc<|ov Y)<|bE h fun x2 h_x2 h=>Rq Y (.guarded (y.2.2 == true) Y Y Y Y fun h => ZQ (ow Y h) (ow Y h) ZhP<|gdT h_x2 h)<|Rq Y (.guarded (y.2.2 == true) Y Y Y Y fun h => Zd (ow Y h) tS4 Y)<|Rq Y (.guarded (y.2.2 == true) Y Y Y Y fun h => X2<|ow Y h)<|Rq Y (Zck (ov Y) fun hp=>ow Y<|gT hp)<|Za<|K8 1 3 4 5 12 13 14 33 Y<|If h Y (fun h=>?_) fun h=>?_
   ·
    exact K7 1 3 4 5 12 13 14 Y<|Zt<|Rm Y<|Rm Y<|R_q (.sl 3<|List.map R3 ([i] : List Int)) Y (XC Q3 (.cons (cvs (ov Y)<|Zm Y) Y (.cons (.b Y) .nil) .nil) Y Y)<|bE h fun l h_l h=>Rx Y (Qr (ov Y) (Qv (ov Y) tZ_3) Q3 Y Y Y (fun _=>Zb Y) Y h_l)<|Ra Y<|Za<|K6 1 3 4 12 13 14 Y<|Zt<|R2 ZM Y<|Rm Y<|Za<|⟨_, h, ES [some 0, some 1] (hhp := .cons Y (roM D3)<|.cons Y (ro1 (by exact tZ_92.symm)<|rlc (rFn<|rlc (.dat Y) rln) rln) .nil)⟩
   ·
    exact Zh<|K6 1 3 4 12 13 14 Y<|Zt<|R2 ZM Y<|Rm Y<|Za<|⟨_, h, ES [some 0, some 1] (hhp := .cons Y (roM D3)<|.cons Y (ro1 (by exact tZ_92.symm)<|rlc (rFn<|rlc (.dat Y) rln) rln) .nil)⟩
  ·
   refine ZE<|?_
   replace h := lx h ▸ ho1
   exact ⟨_, h, ES [some 0, some 1] (hhp := .cons Y (roM D3)<|.cons Y (ro1 (by exact tZ_92.symm)<|rlc (rFn<|rlc (.dat Y) rln) rln) .nil)⟩
 ·
  refine Tr<|Rm Y<|QG (Ent.sel [some 0, none] (sr 3 Y (.own (r' := 0) _ Y)<|sr 4 Y (.frp ⟨Y, ⟨_, Y⟩, Y, Y⟩)<|sr 39 Y (.own (r' := 0) _ Y) sn) (.cons Y (roM D3)<|.row 92 .nil) Y Y)<|Rq Y (Zhr<|.cons (ov Y) .nil)<|bE h fun y2 h_y2 h=>Rx Y (ZF [0] (ZaQ Y (fun z0 z1 _ hz=>Zfy hz) h_y2) (.cons (ov Y) (.own _ Y)<|.cons (ov Y) (.dat Y) .nil) (.cons Y (roM D3) .nil) Y (.lent 0 (.inl Y) Y (roM D3)<|.keep Y Y .nil) Y Y<|X0<|rld Y)<|Za<|K1 3 Y<|Tr<|Rm Y<|Ra Y<|Za<|?_
  obtain rfl := rt h
  exact Zn (ZC Y (.one<|.tmp Y<|View.ownM Y (Zbl h_y2) D3))
theorem Za1 {s : List Int} {i : Int} {r : (Vector Int 97)} (h : Q8 s i = some r) :
 CSpec Tryz.prog gl0 77 [.sl 5 (List.map R5 s), .int .i64 i] (.rp (List.map C5 r.toList) 0) := by
 unfold Q8 at h
 replace h := Z0 h
 refine So Tryz.func77 Y fun w0 A=>Tr<|Ra Y<|Za<|K2 0 1 Y<|Tr<|Rm Y<|R2 Zea Y<|R2 ZM Y<|Ra Y<|Za<|K2 0 5 Y<|Tr<|Rm Y<|Rm Y<|Rm Y<|R2 ZM Y<|bE h fun l h_l h=>Rq Y (Zeg (ov Y) Z5 (oi<|ov Y) (oi<|ov Y) h_l)<|bE h fun v h_v h=>Rq Y (Zjn (f := C5) (ov Y) Zi5 tZ_5 Y h_v)<|Ra Y<|Za<|?_
 obtain rfl := rt h
 exact Zn (ZC Y (.one<|rb Y))
theorem ZbY {s : List Int} {f : Int → Option Bool} {r : Int} {f_f : FuncId} {f_c : List AV} (f_d : f_c.all datB = true) (f_h : ∀ (z0 : Int) z, f z0 = some z → CSpec Tryz.prog gl0 f_f ([.int .u8 z0] ++ f_c) (.bool z)) (h : ZV s f = some r) :
 CSpec Tryz.prog gl0 138 [.sl 5 (List.map R5 s), .fn f_f f_c] (.int .i64 r) := by
 unfold ZV at h
 replace h := Z0 h
 refine So Tryz.func138 Y fun w0 A=>Tr<|Ra Y<|Za<|J0 (fun j => (.inr j)) ⟨[], []⟩ h (fun h=>?_) fun h=>?_
 ·
  refine K2 0 1 Y<|Tr<|Rm Y<|Rl tZ_5 Z5 Y<|Rm Y<|Za<|Ze<|?_
  obtain ⟨r1, hl1, ho1⟩ := QI h
  refine L1 (fun i=>⟨[(0, .sl 5 (List.map R5 s)), (1, .fn f_f f_c), (7, .int .i64 (s.length : Int)), (8, .int .i64 i)], []⟩) hl1 (ES []<|sd 0 Y Y<|sr 1 Y (rFn<|rld f_d)<|sd 7 Y Y<|sd 8 Y Y sn) fun n1 i h=>?_
  unfold ZI at h
  refine Tr<|R2 ZO Y<|Za<|Zg<|If h Y (fun h=>?_) fun h=>?_
  ·
   refine Zh<|Zg<|Ze<|K4 0 1 7 8 Y<|Tr<|Rm Y<|Ra Y<|Za<|K5 0 1 5 7 8 Y<|Tr<|Rm Y<|Rm Y<|Rm Y<|bE h fun x h_x h=>Rq Y (ZQ (ov Y) (ov Y) Z5 h_x)<|Rq Y (Zd (ov Y) tS5 Y)<|bE h fun y h_y h=>Rq Y (Zg2 (ov Y) f_d (f_h _ _ h_y)<|.cons (ov Y) (.b Y) .nil)<|Za<|K6 0 1 5 7 8 16 Y<|If h Y (fun h=>?_) fun h=>?_
   ·
    refine K1 5 Y<|Tr<|Rm Y<|Ra Y<|Za<|?_
    replace h := lx h ▸ ho1
    obtain rfl := rt h
    exact Zn (ZC Y (.one<|rb Y))
   ·
    exact Zh<|K4 0 1 7 8 Y<|Zt<|R2 ZM Y<|Rm Y<|Za<|⟨_, h, ES []<|sd 0 Y Y<|sr 1 Y (rFn<|rld f_d)<|sd 7 Y Y<|sd 8 Y Y sn⟩
  ·
   refine ZE<|?_
   replace h := lx h ▸ ho1
   exact ⟨(), h, ES []⟩
 ·
  replace h := elr h
  replace h := t0i h
  refine Tr<|Ra Y<|Za<|?_
  obtain rfl := rt h
  exact Zn (ZC Y (.one<|rb Y))
theorem ZaL {s : List Int} {f : Int → Option Bool} {r : Bool} {f_f : FuncId} {f_c : List AV} (f_d : f_c.all datB = true) (f_h : ∀ (z0 : Int) z, f z0 = some z → CSpec Tryz.prog gl0 f_f ([.int .u8 z0] ++ f_c) (.bool z)) (h : ZJ s f = some r) :
 CSpec Tryz.prog gl0 116 [.sl 5 (List.map R5 s), .fn f_f f_c] (.bool r) := by
 unfold ZJ at h
 replace h := Z0 h
 refine So Tryz.func116 Y fun w0 A=>Tr<|Ra Y<|Za<|Tr<|Rm Y<|Rm Y<|bE h fun y h_y h=>Rq Y (Zo (ZbY f_d f_h h_y)<|.cons (ov Y) (.b Y)<|.cons (ov Y) (Dat.fnC<|.refl fun x hx => .b<|List.all_eq_true.1 f_d x hx) .nil)<|R2 ZfW Y<|Ra Y<|Za<|?_
 obtain rfl := rt h
 exact Zn (ZC Y (.one<|rb Y))
theorem ZfH {b : Int} {r : Bool} (h : QT b = some r) :
 CSpec Tryz.prog gl0 117 [.int .u8 b] (.bool r) := by
 unfold QT at h
 replace h := Z0 h
 refine So Tryz.func117 Y fun w0 A=>Tr<|Ra Y<|Za<|Tr<|Rm Y<|R2 Xp Y<|Ra Y<|Za<|?_
 obtain rfl := rt h
 exact Zn (ZC Y (.one<|rb Y))
theorem Zb9 {p : Vector Int 97} {r : Int} (h : Q5 p = some r) :
 CSpec Tryz.prog gl0 78 [.rp (List.map C5 p.toList) 0] (.int .i64 r) := by
 unfold Q5 at h
 replace h := Z0 h
 refine So Tryz.func78 Y fun w0 A=>Tr<|Ra Y<|Za<|Zg<|Ze<|K1 0 Y<|Tr<|Rm Y<|R1 Zy Y<|bE h fun x h_x h=>Rq Y (QD (ov Y) (ov Y) Zi5 h_x)<|Rq Y (Zd (ov Y) tS5<|Qi<|Q9 (o := 0) (o' := ((Int.toNat 96) * 1)) (Zq arL)<|Xa h_x)<|R2 ZaJ Y<|Ra Y<|Za<|K2 0 3 Y<|If h Y (fun h=>?_) fun h=>?_
 ·
  refine K0<|Tr<|Ra Y<|Za<|?_
  obtain rfl := rt h
  exact Zn (ZC Y (.one<|rb Y))
 ·
  refine K1 0 Y<|Tr<|Rm Y<|R1 Zy Y<|bE h fun l h_l h=>Rq Y (Zjc (f := C5) (ov Y) Zi5 tZ_5 (Zq arL) Y on on h_l)<|bE h fun y h_y h=>Rq Y (Zo (ZaL Y (fun z0 _ hz=>ZfH hz) h_y)<|.cons (ov Y) (.b Y)<|.cons (ov Y) .fn .nil)<|Ra Y<|Za<|K1 9 Y<|If h Y (fun h=>?_) fun h=>?_
  ·
   refine K0<|Tr<|Ra Y<|Za<|?_
   obtain rfl := rt h
   exact Zn (ZC Y (.one<|rb Y))
  ·
   refine Zh<|K0<|Tr<|Ra Y<|Za<|?_
   obtain rfl := rt h
   exact Zn (ZC Y (.one<|rb Y))
theorem Zgh {m : api_Memory} {r : ring_spot} (h : Zad m = some r) :
 CSpec Tryz.prog gl0 64 [.agg [.int .i64 m.Slots, .int .i64 m.Limit, .sl 49 (List.map R49 m.Sectors), .sl 3 (List.map R3 m.Wear), .sl 4 (List.map R4 m.Bad)]] (.agg [.int .i64 r.sector, .int .i64 r.slot]) := by
 unfold Zad at h
 replace h := Z0 h
 refine So Tryz.func64 Y fun w0 A=>Tr<|Rq Y (Zdb (cva<|ov Y) Y tZ_26 Y)<|Rx Y (ZN (row := [_, _]) 0 Y Zif Y tZ_105)<|Za<|K2 1 2 Y<|Tr<|Rq Y (Xc (ov Y) Jg Y Y)<|bE h fun y h_y h=>Rq Y (Zo (Zd6 h_y)<|.cons (ov Y) (.aggB Y) .nil)<|Ra Y<|Za<|Zg<|K3 1 2 3 Y<|Tr<|Rm Y<|Rl tZ_3 Q3 Y<|R2 ZaJ Y<|Za<|K4 1 2 3 10 Y<|If h Y (fun h=>?_) fun h=>?_
 ·
  refine K1 2 Y<|Tr<|Rq Y (Xw (ys := [_, _]) ZjD ZjB Zif (.cons (cvs (ov Y)<|Zm Y) .nil) Y)<|Rx Y (Zi (ov Y) (ov Y) (Zs ZfL Y) Y Y Y (Nat.le_of_ble_eq_true Y) (Zb Y) Y)<|Za<|?_
  obtain rfl := rt h
  exact Zn (ZC Y (.one<|.agg Y Y Y Y ZfL Y Y<|pwB Y))
 ·
  refine Zh<|K3 1 2 3 Y<|Tr<|Rm Y<|Rm Y<|Rl tZ_3 Q3 Y<|R2 ZeV Y<|bE h fun x h_x h=>Rq Y (ZQ (ov Y) (ov Y) Q3 h_x)<|Rq Y (Zd (ov Y) tS3 Y)<|Rq Y (Xw (ys := [_, _]) ZjD ZjB Zif (.cons (cvs (ov Y)<|Zm Y) .nil) Y)<|Rx Y (ZN (row := [_, _]) 1 Y Zif Y tZ_105)<|Rx Y (Zi (ov Y) (ov Y) (Zs ZfL Y) Y Y Y (Nat.le_of_ble_eq_true Y) (Zb Y) Y)<|Za<|I1 (fun slot=>⟨[(2, .ptr 0 1 0 0), (4, .ptr 1 1 0 0)], [some ⟨105, [[.int .i64 0, .int .i64 0]]⟩, some ⟨105, [[.int .i64 x, .int .i64 slot]]⟩]⟩) h (fun h=>?_) fun slot h=>?_
  ·
   refine K3 1 2 4 Y<|Tr<|Rq Y (ZW (ov Y) Zhj)<|Rq Y (Zd (ov Y) tS3 Y)<|Rm Y<|Za<|Ze<|?_
   obtain ⟨r1, hl1, ho1⟩ := QI h
   refine L2 (fun slot2 i=>⟨[(1, .rp [.int .i64 m.Slots, .int .i64 m.Limit, .sl 49 (List.map R49 m.Sectors), .sl 3 (List.map R3 m.Wear), .sl 4 (List.map R4 m.Bad)] 0), (2, .ptr 0 1 0 0), (4, .ptr 1 1 0 0), (20, .int .i64 m.Slots), (21, .int .i64 i)], [some ⟨105, [[.int .i64 0, .int .i64 0]]⟩, some ⟨105, [[.int .i64 x, .int .i64 slot2]]⟩]⟩) hl1 (ES [some 0, some 1]) fun n1 slot2 i h=>?_
   unfold JV at h
   refine Tr<|R2 ZO Y<|Za<|Zg<|If h Y (fun h=>?_) fun h=>?_
   ·
    refine Zh<|Zg<|Ze<|K5 1 2 4 20 21 Y<|Tr<|Rm Y<|Ra Y<|Za<|K6 1 2 4 5 20 21 Y<|Tr<|Rq Y (ZW (ov Y) ZG)<|Rq Y (Zd (ov Y) Qd Y)<|Rq Y (Zk (ov Y) Y Y ZeI)<|Rq Y (Zu (ov Y) Y Y Y tS3 Y)<|bE h fun x2 h_x2 h=>Rq Y (ZQ (ov Y) (ov Y) Z1 h_x2)<|Rq Y (Zd (ov Y) ZgW Y)<|Rm Y<|bE h fun y2 h_y2 h=>Rq Y (Zo (Za1 h_y2)<|.cons (ov Y) (.b Y)<|.cons (ov Y) (.b Y) .nil)<|bE h fun y3 h_y3 h=>Rq Y (Zo (Zb9 h_y3)<|.cons (ov Y) (.b Y) .nil)<|R2 Xp Y<|Za<|K7 1 2 4 5 20 21 33 Y<|If h Y (fun h=>?_) fun h=>?_
    ·
     exact K6 1 2 4 5 20 21 Y<|Zt<|Rm Y<|R2 ZM Y<|Rq Y (Zk (ov Y) Y Y ZfC)<|Rx Y (Zi (ov Y) (ov Y) (Zf tS3) Y Y Y (Nat.le_of_ble_eq_true Y) (Zb Y) Y)<|Za<|K5 1 2 4 20 21 Y<|Zt<|R2 ZM Y<|Rm Y<|Za<|⟨_, h, ES [some 0, some 1]⟩
    ·
     exact Zh<|K5 1 2 4 20 21 Y<|Zt<|R2 ZM Y<|Rm Y<|Za<|⟨_, h, ES [some 0, some 1]⟩
   ·
    refine ZE<|?_
    replace h := lx h ▸ ho1
    exact ⟨_, h, ES [some 0, some 1]⟩
  ·
   refine Tr<|Rq Y (Qe (ov Y) Y Y Y ZfL Y Y)<|Rx Y (Zi (ov Y) (ov Y) (Zs ZfL Y) Y Y Y (Nat.le_of_ble_eq_true Y) (Zb Y) Y)<|Za<|?_
   obtain rfl := rt h
   exact Zn (ZC Y (.one<|.agg Y Y Y Y ZfL Y Y<|pwB Y))
theorem Zd0 {l : List api_Memory} {copies : Int} {r : (Int) ⊕ (ring_Recorder × Int)} (h : ZaA l copies = some r) :
 GSpec Tryz.prog gl0 15 [.sl 26 (List.map R26 l), .int .i64 copies] [] (Sum.elim (fun r => .tuple [.lit (.pointer none), .int .i64 r]) (fun r => .tuple [.ptr 0 1 0 0, .int .i64 r.2]) r) (Sum.elim (fun r => []) (fun r => [some ⟨102, [[.own 1 r.1.bank.memories.length, .own 2 r.1.bank.spots.length, .int .i64 r.1.copies, .bool r.1.frozen, .bool r.1.stopped, .int .i64 r.1.last, .bool r.1.some_]]⟩, some ⟨26, List.map O26 r.1.bank.memories⟩, some ⟨105, List.map R105 r.1.bank.spots⟩]) r) := by
 unfold ZaA at h
 replace h := Z0 h
 refine QF (by kernel_rfl) Tryz.func15 Y Y<|?_
 intro w0 A W φ0
 refine Tr<|Ra Y<|Ra Y<|Za<|Zg<|K2 0 1 Y<|Tr<|Rm Y<|bE h fun y h_y h=>Rq Y (Zo (Zdr h_y)<|.cons (ov Y) (.b Y) .nil)<|Ra Y<|Za<|K3 0 1 6 Y<|Tr<|Rm Y<|R2 Xp Y<|Za<|K4 0 1 6 17 Y<|If h Y (fun h=>?_) fun h=>?_
 ·
  refine K1 6 Y<|Tr<|Rm Y<|Ra Y<|Ra Y<|Za<|?_
  obtain rfl := rt h
  exact Zn<|Zbd [] Y (.cons (.tmp Y)<|.cons (.tmp Y) .nil) .nil Y Y<|X0<|rlc (.dat Y)<|rlc (.dat Y) rln
 ·
  refine Zh<|Zg<|K2 0 1 Y<|Tr<|Rm Y<|Rm Y<|Rl tZ_26 ZcF Y<|bE h fun y2 h_y2 h=>Rq Y (Zo (Z9 h_y2)<|.cons (ov Y) (.b Y)<|.cons (ov Y) (.b Y)<|.cons (ov Y) (.b Y) .nil)<|R1 X2 Y<|Za<|K3 0 1 23 Y<|If h Y (fun h=>?_) fun h=>?_
  ·
   refine K0<|Tr<|Ra Y<|Ra Y<|Za<|?_
   obtain rfl := rt h
   exact Zn<|Zbd [] Y (.cons (.tmp Y)<|.cons (.tmp Y) .nil) .nil Y Y<|X0<|rlc (.dat Y)<|rlc (.dat Y) rln
  ·
   refine Zh<|K2 0 1 Y<|Tr<|Rm Y<|Rq Y (Xw (ys := [_, _, _, _, _, _, _]) Zl9 Zml Zm7 (.cons (cvs (ov Y)<|Zm Y) .nil) Y)<|Rx Y (ZjY 0 Y (ov Y) ZmL Y)<|Ra Y<|Za<|K2 0 7 Y<|Tr<|Rm Y<|Rm Y<|bE h fun y3 h_y3 h=>Rx Y (ZF [] (ZfF h_y3) (.cons (ov Y) (.dat Y) .nil) .nil Y (.keep Y Y<|.lent 0 (.inr ⟨Nat.le_of_ble_eq_true Y, Y⟩) Y (roO Xo) .nil) Y Y<|.own _<|.inr ⟨Nat.le_of_ble_eq_true Y, Y⟩)<|Rq Y (Zv (ov Y) Y Y)<|Rq Y (Zk (ov Y) Y Y Zc2)<|Rq Y (Zk (ov Y) Y Y Zco)<|Rx Y (Zi (ov Y) (ov Y) (Zf ZiB) Y Y Y (Nat.le_of_ble_eq_true Y) (Zb Y) Y)<|Za<|I2 (fun spots frozen=>⟨[(7, .ptr 0 1 0 0)], [some ⟨102, [[.own 1 y3.length, .own 2 spots.length, .int .i64 copies, .bool frozen, .bool false, .int .i64 0, .bool false]]⟩, some ⟨26, List.map O26 y3⟩, some ⟨105, List.map R105 spots⟩]⟩) h (fun h=>?_) fun spots frozen h=>?_
   ·
    refine K1 7 Y<|QQ [some ⟨102, [[.own 1 y3.length, .nils, .int .i64 copies, .bool false, .bool false, .int .i64 0, .bool false]]⟩, some ⟨26, List.map O26 y3⟩] Y<|Tr<|Rm Y<|Rq Y (Zv (ov Y) Y Y)<|Rq Y (Zk (ov Y) Y Y Zc2)<|Rq Y (Zk (ov Y) Y Y Zco)<|Rq Y (Zu (ov Y) Y Y Y ZiB Y)<|Rq Y (ZeD (ov Y) Y Y ZcF)<|Rm Y<|Za<|Ze<|?_
    obtain ⟨r1, hl1, ho1⟩ := QI h
    refine L3 (fun spots2 frozen2 i=>⟨[(7, .ptr 0 1 0 0), (37, .own 1 y3.length), (38, .int .i64 (y3.length : Int)), (39, .int .i64 i)], [some ⟨102, [[.own 1 y3.length, .own 2 spots2.length, .int .i64 copies, .bool frozen2, .bool false, .int .i64 0, .bool false]]⟩, some ⟨26, List.map O26 y3⟩, some ⟨105, List.map R105 spots2⟩]⟩) hl1 (ES [some 0, some 1, none] (hhp := .cons Y (ro1 (by exact tZ_102.symm)<|rlc (.own _ Y)<|rlc (.row Y)<|rlc (.dat Y)<|rlc (.dat Y)<|rlc (.dat Y)<|rlc (.dat Y)<|rlc (.dat Y) rln)<|.cons Y (roO Xo)<|.row 105 .nil)) fun n1 spots2 frozen2 i h=>?_
    unfold ZbJ at h
    refine Tr<|R2 ZO Y<|Za<|Zg<|If h Y (fun h=>?_) fun h=>?_
    ·
     refine Zh<|Zg<|Ze<|K4 7 37 38 39 Y<|Tr<|bE h fun x h_x h=>Rq Y (XP (ov Y) (ov Y) ZcF Y Y h_x)<|QG (Ent.focusH (r := 1) (j := 2) (e' := 49) (g := O49) (ys := x.Sectors) Y (Zw h_x).2 Y Xn)<|QG (Ent.focusI (r := 1) (j := 3) (e' := 3) (g := R3) (ys := x.Wear) Y (Zw h_x).2 Y DR3)<|QG (Ent.focusI (r := 1) (j := 4) (e' := 4) (g := R4) (ys := x.Bad) Y (Zw h_x).2 Y DR4)<|Rq Y (Zlk (ov Y) Y Y (Zw h_x).2 Jg Y Y)<|Rx Y (ZN (row := [_, _, _, _, _]) 6 Y Zdk Y tZ_26)<|Rx Y (Zi (ov Y) (ov Y) (Zs Jg Y) Y Y Y (Nat.le_of_ble_eq_true Y) (Zb Y) Y)<|ZeC [some ⟨102, [[.own 1 y3.length, .own 2 spots2.length, .int .i64 copies, .bool frozen2, .bool false, .int .i64 0, .bool false]]⟩, some ⟨26, List.set (List.map O26 y3) i.toNat [.int .i64 x.Slots, .int .i64 x.Limit, .own 3 x.Sectors.length, .own 4 x.Wear.length, .own 5 x.Bad.length]⟩, some ⟨105, List.map R105 spots2⟩, some ⟨49, List.map O49 x.Sectors⟩, some ⟨3, List.map R3 x.Wear⟩, some ⟨4, List.map R4 x.Bad⟩, some ⟨26, [[.int .i64 x.Slots, .int .i64 x.Limit, .own 3 x.Sectors.length, .own 4 x.Wear.length, .own 5 x.Bad.length]]⟩] Y<|Za<|K5 7 9 37 38 39 Y<|Tr<|Rq Y (Qe (ov Y) Y Y Y Jg Y Y)<|bE h fun y4 h_y4 h=>Rq Y (Zcn (Zgh h_y4) (.agg<|by simp only [List.mem_cons, List.not_mem_nil, or_false, forall_eq_or_imp, forall_eq]; exact ⟨.int, .int⟩)<|.cons (ov Y) (View.aggL<|.cons (Dat.view<|.b Y)<|.cons (Dat.view<|.b Y)<|.cons (View.ownO Y Y Xn (fun x=>(D49 x).1) Zmt)<|.cons (View.ownM Y Y D3)<|.cons (View.ownM Y Y D4) .nil) .nil)<|Rx Y (ZN (row := [_, _]) 7 Y Zif Y tZ_105)<|Rx Y (Zi (ov Y) (ov Y) (Zs ZfL Y) Y Y Y (Nat.le_of_ble_eq_true Y) (Zb Y) Y)<|ZeC [some ⟨102, [[.own 1 y3.length, .own 2 spots2.length, .int .i64 copies, .bool frozen2, .bool false, .int .i64 0, .bool false]]⟩, some ⟨26, List.set (List.map O26 y3) i.toNat [.int .i64 x.Slots, .int .i64 x.Limit, .own 3 x.Sectors.length, .own 4 x.Wear.length, .own 5 x.Bad.length]⟩, some ⟨105, List.map R105 spots2⟩, some ⟨49, List.map O49 x.Sectors⟩, some ⟨3, List.map R3 x.Wear⟩, some ⟨4, List.map R4 x.Bad⟩, some ⟨26, [[.int .i64 x.Slots, .int .i64 x.Limit, .own 3 x.Sectors.length, .own 4 x.Wear.length, .own 5 x.Bad.length]]⟩, some ⟨105, [[.int .i64 y4.sector, .int .i64 y4.slot]]⟩] Y<|Za<|Zg<|K6 7 9 10 37 38 39 Y<|Qp (cw := md0) (by kernel_rfl)<|D1 1 Zc Y<|Dq 2 Y (Zv (ov Y) Y Y)<|Dq 3 Y (Zk (ov Y) Y Y Zc2)<|Dq 4 Y (Zk (ov Y) Y Y ZdP)<|Dq 5 Y (Zu (ov Y) Y Y Y Zjz Y)<|Dq 6 Y (Qe (ov Y) Y Y Y ZfL Y Y)<|ZlF 7 (.sl 105<|List.map R105 ([y4] : List ring_spot)) Y (by kernel_rfl) Y Y (XC Zjp (.cons (cva<|ov Y) Y (pwD Y) .nil) Y Y)<|Z6 0 _ Y (by kernel_rfl) Y Y (fun hp'=>Zc<|ov Y)<|bE h fun l2 h_l2 h=>Do 8 Y (Qr (ov Y) (Qv (ov Y) tZ_105) Zjp Y Y Y (fun _=>Zb Y) Y h_l2)<|Dq 9 Y (Zv (ov Y) Y Y)<|Dq 10 Y (Zk (ov Y) Y Y Zc2)<|Dq 11 Y (Zk (ov Y) Y Y ZdP)<|Do 12 Y (Zi (ov Y) (ov Y) (Zf Zjz) Y Y Y (Nat.le_of_ble_eq_true Y) (Zb Y) Y)<|Dd<|K6 7 9 10 37 38 39 Y<|QQ [some ⟨102, [[.own 1 y3.length, .own 2 l2.length, .int .i64 copies, .bool frozen2, .bool false, .int .i64 0, .bool false]]⟩, some ⟨26, List.set (List.map O26 y3) i.toNat [.int .i64 x.Slots, .int .i64 x.Limit, .own 3 x.Sectors.length, .own 4 x.Wear.length, .own 5 x.Bad.length]⟩, some ⟨105, List.map R105 l2⟩, some ⟨49, List.map O49 x.Sectors⟩, some ⟨3, List.map R3 x.Wear⟩, some ⟨4, List.map R4 x.Bad⟩, some ⟨26, [[.int .i64 x.Slots, .int .i64 x.Limit, .own 3 x.Sectors.length, .own 4 x.Wear.length, .own 5 x.Bad.length]]⟩, some ⟨105, [[.int .i64 y4.sector, .int .i64 y4.slot]]⟩] Y<|Tr<|Rq Y (Zk (ov Y) Y Y ZeI)<|Rq Y (Zu (ov Y) Y Y Y tS3 Y)<|R2 ZfW Y<|Za<|K7 7 9 10 37 38 39 59 Y<|If h Y (fun h=>?_) fun h=>?_
     ·
      exact K6 7 9 10 37 38 39 Y<|Tr<|Rq Y (Zk (ov Y) Y Y ZG)<|Rq Y (Zu (ov Y) Y Y Y Qd Y)<|Rq Y (Zk (ov Y) Y Y ZeI)<|Rq Y (Zu (ov Y) Y Y Y tS3 Y)<|bE h fun x2 h_x2 h=>Rq Y (XP (ov Y) (ov Y) Z1 Y Y h_x2)<|QG (Ent.focusH (r := 3) (j := 0) (e' := 5) (g := R5) (ys := x2) Y (Zw h_x2).2 Y DR5)<|Rq Y (ZbU (ov Y) Y Y (Zw h_x2).2 ZgW Y)<|bE h fun y5 h_y5 h=>Rq Y (Zcn (JM h_y5) (.tuple<|by simp only [List.mem_cons, List.not_mem_nil, or_false, forall_eq_or_imp, forall_eq]; exact ⟨.int, .bool, .bool⟩)<|.cons (ov Y) (View.ownM Y Y D5) .nil)<|Rm Y<|Rq Y (Zl (ov Y) Y)<|Rq Y (Zl (ov Y) Y)<|Rq Y (Zl (ov Y) Y)<|Ra Y<|Ra Y<|Ra Y<|ZeC [some ⟨102, [[.own 1 y3.length, .own 2 l2.length, .int .i64 copies, .bool frozen2, .bool false, .int .i64 0, .bool false]]⟩, some ⟨26, List.set (List.map O26 y3) i.toNat [.int .i64 x.Slots, .int .i64 x.Limit, .own 3 x.Sectors.length, .own 4 x.Wear.length, .own 5 x.Bad.length]⟩, some ⟨105, List.map R105 l2⟩, some ⟨49, List.set (List.map O49 x.Sectors) y4.sector.toNat [.own 8 x2.length]⟩, some ⟨3, List.map R3 x.Wear⟩, some ⟨4, List.map R4 x.Bad⟩, some ⟨26, [[.int .i64 x.Slots, .int .i64 x.Limit, .own 3 x.Sectors.length, .own 4 x.Wear.length, .own 5 x.Bad.length]]⟩, some ⟨105, [[.int .i64 y4.sector, .int .i64 y4.slot]]⟩, some ⟨5, List.map R5 x2⟩] Y<|QG (Ent.absorbH (r := 3) (j := 0) (q := 8) Y (Zw h_x2).2 Y Y (List.length_map ..) Y)<|QG (Ent.closeS (r := 3) Y (Zw h_x2).2 Y)<|QG (Ent.absorbH (r := 1) (j := 2) (q := 3) Y (Zw h_x).2 Y Y (List.length_map ..) Y)<|QG (Ent.absorbH (r := 1) (j := 3) (q := 4) Y (Zw h_x).2 Y Y (List.length_map ..) Y)<|QG (Ent.absorbH (r := 1) (j := 4) (q := 5) Y (Zw h_x).2 Y Y (List.length_map ..) Y)<|QG (Ent.closeS (r := 1) Y (Zw h_x).2 Y)<|Za<|K5 7 12 37 38 39 Y<|QQ [some ⟨102, [[.own 1 y3.length, .own 2 l2.length, .int .i64 copies, .bool frozen2, .bool false, .int .i64 0, .bool false]]⟩, some ⟨26, List.map O26 y3⟩, some ⟨105, List.map R105 l2⟩, none, none, none, some ⟨26, [[.int .i64 x.Slots, .int .i64 x.Limit, .own 3 x.Sectors.length, .own 4 x.Wear.length, .own 5 x.Bad.length]]⟩, some ⟨105, [[.int .i64 y4.sector, .int .i64 y4.slot]]⟩, none] Y<|Zt<|Rm Y<|Rm Y<|Rq Y (Zv (ov Y) Y Y)<|Rq Y (Zk (ov Y) Y Y Ziy)<|Rq Y (Zu (ov Y) Y Y Y tS4 Y)<|Rm Y<|Rq Y (.guarded (frozen2 == false) Y Y Y Y fun h => Zc<|ov Y)<|Rq Y (ZdB (ov Y) fun hp=>ow Y<|gF hp)<|Rq Y (Zv (ov Y) Y Y)<|Rq Y (Zk (ov Y) Y Y Ziy)<|Rx Y (Zi (ov Y) (ov Y) (Zf tS4) Y Y Y (Nat.le_of_ble_eq_true Y) (Zb Y) Y)<|Za<|K4 7 37 38 39 Y<|QQ [some ⟨102, [[.own 1 y3.length, .own 2 l2.length, .int .i64 copies, .bool (frozen2 || y5.2.1), .bool false, .int .i64 0, .bool false]]⟩, some ⟨26, List.map O26 y3⟩, some ⟨105, List.map R105 l2⟩, none, none, none, some ⟨26, [[.int .i64 x.Slots, .int .i64 x.Limit, .own 3 x.Sectors.length, .own 4 x.Wear.length, .own 5 x.Bad.length]]⟩, some ⟨105, [[.int .i64 y4.sector, .int .i64 y4.slot]]⟩, none] Y<|Zt<|R2 ZM Y<|Rm Y<|Za<|⟨_, h, ES [some 0, some 1, some 2] (hhp := .cons Y (ro1 (by exact tZ_102.symm)<|rlc (.own _ Y)<|rlc (.own _ Y)<|rlc (.dat Y)<|rlc (.dat Y)<|rlc (.dat Y)<|rlc (.dat Y)<|rlc (.dat Y) rln)<|.cons Y (roO Xo)<|.cons Y (roM D105) .nil)⟩
     ·
      exact Zh<|K4 7 37 38 39 Y<|Zt<|R2 ZM Y<|Rm Y<|QG (Ent.absorbH (r := 1) (j := 2) (q := 3) Y (Zw h_x).2 Y Y (List.length_map ..) Y)<|QG (Ent.absorbH (r := 1) (j := 3) (q := 4) Y (Zw h_x).2 Y Y (List.length_map ..) Y)<|QG (Ent.absorbH (r := 1) (j := 4) (q := 5) Y (Zw h_x).2 Y Y (List.length_map ..) Y)<|QG (Ent.closeS (r := 1) Y (Zw h_x).2 Y)<|Za<|⟨_, h, ES [some 0, some 1, some 2] (hhp := .cons Y (ro1 (by exact tZ_102.symm)<|rlc (.own _ Y)<|rlc (.own _ Y)<|rlc (.dat Y)<|rlc (.dat Y)<|rlc (.dat Y)<|rlc (.dat Y)<|rlc (.dat Y) rln)<|.cons Y (roO Xo)<|.cons Y (roM D105) .nil)⟩
    ·
     refine ZE<|?_
     replace h := lx h ▸ ho1
     exact ⟨_, h, ES [some 0, some 1, some 2] (hhp := .cons Y (ro1 (by exact tZ_102.symm)<|rlc (.own _ Y)<|rlc (.own _ Y)<|rlc (.dat Y)<|rlc (.dat Y)<|rlc (.dat Y)<|rlc (.dat Y)<|rlc (.dat Y) rln)<|.cons Y (roO Xo)<|.cons Y (roM D105) .nil)⟩
   ·
    refine Tr<|Rm Y<|Ra Y<|Ra Y<|Za<|?_
    obtain rfl := rt h
    exact Zn<|Zbd [some 0, some 1, some 2] Y (.cons (.tmp Y)<|.cons (.tmp Y) .nil) (.cons Y (ro1 (by exact tZ_102.symm)<|rlc (.own _ Y)<|rlc (.own _ Y)<|rlc (.dat Y)<|rlc (.dat Y)<|rlc (.dat Y)<|rlc (.dat Y)<|rlc (.dat Y) rln)<|.cons Y (roO Xo)<|.cons Y (roM D105) .nil) Y Y<|X0<|rlc (.ptr _ _ _ Y)<|rlc (.dat Y) rln
theorem Ze0 {l : List api_Memory} {copies : Int} {r : Int} (h : ZaA l copies = some (.inl r)) :
    GSpec Tryz.prog gl0 15 [.sl 26 (List.map R26 l), .int .i64 copies] [] (.tuple [.lit (.pointer none), .int .i64 r]) [] := Zd0 h
theorem ZeT {l : List api_Memory} {copies : Int} {r : ring_Recorder × Int} (h : ZaA l copies = some (.inr r)) :
    GSpec Tryz.prog gl0 15 [.sl 26 (List.map R26 l), .int .i64 copies] [] (.tuple [.ptr 0 1 0 0, .int .i64 r.2]) [some ⟨102, [[.own 1 r.1.bank.memories.length, .own 2 r.1.bank.spots.length, .int .i64 r.1.copies, .bool r.1.frozen, .bool r.1.stopped, .int .i64 r.1.last, .bool r.1.some_]]⟩, some ⟨26, List.map O26 r.1.bank.memories⟩, some ⟨105, List.map R105 r.1.bank.spots⟩] := Zd0 h
theorem Zd7 {r_ : ring_Recorder} {power : Int} {r : Int} (h : Xd r_ power = some r) :
 CSpec Tryz.prog gl0 65 [.rp [.sl 26 (List.map R26 r_.bank.memories), .sl 105 (List.map R105 r_.bank.spots), .int .i64 r_.copies, .bool r_.frozen, .bool r_.stopped, .int .i64 r_.last, .bool r_.some_] 0, .int .i64 power] (.int .i64 r) := by
 unfold Xd at h
 replace h := Z0 h
 refine So Tryz.func65 Y fun w0 A=>Tr<|Ra Y<|Za<|Zg<|Ze<|K2 0 1 Y<|Tr<|Rm Y<|R1 Zy Y<|Rq Y (ZW (ov Y) Zj3)<|Rq Y (Zd (ov Y) tS4 Y)<|Ra Y<|Za<|K3 0 1 5 Y<|If h Y (fun h=>?_) fun h=>?_
 ·
  refine K0<|Tr<|Ra Y<|Za<|?_
  obtain rfl := rt h
  exact Zn (ZC Y (.one<|rb Y))
 ·
  refine K2 0 1 Y<|Tr<|Rm Y<|R1 Zy Y<|Rq Y (ZW (ov Y) Ziy)<|Rq Y (Zd (ov Y) tS4 Y)<|Ra Y<|Za<|K2 1 10 Y<|If h Y (fun h=>?_) fun h=>?_
  ·
   refine K0<|Tr<|Ra Y<|Za<|?_
   obtain rfl := rt h
   exact Zn (ZC Y (.one<|rb Y))
  ·
   refine K1 1 Y<|Tr<|Rm Y<|bE h fun y h_y h=>Rq Y (Zo (Z9 h_y)<|.cons (ov Y) (.b Y)<|.cons (ov Y) (.b Y)<|.cons (ov Y) (.b Y) .nil)<|R1 X2 Y<|Ra Y<|Za<|K1 15 Y<|If h Y (fun h=>?_) fun h=>?_
   ·
    refine K0<|Tr<|Ra Y<|Za<|?_
    obtain rfl := rt h
    exact Zn (ZC Y (.one<|rb Y))
   ·
    refine Zh<|K0<|Tr<|Ra Y<|Za<|?_
    obtain rfl := rt h
    exact Zn (ZC Y (.one<|rb Y))
theorem Jm {w : Int} {r : Int} (h : XL w = some r) :
 CSpec Tryz.prog gl0 104 [.int .u16 w] (.int .i64 r) := by
 unfold XL at h
 replace h := Z0 h
 refine So Tryz.func104 Y fun w0 A=>Tr<|Ra Y<|Za<|Tr<|Rm Y<|R2 Zau Y<|Rq Y (Z7 (ov Y) ZcR tI3 Y)<|Ra Y<|Za<|?_
 obtain rfl := rt h
 exact Zn (ZC Y (.one<|rb Y))
theorem Zc8 {f : Vector Int 64} {r : Int} (h : XW f = some r) :
 CSpec Tryz.prog gl0 102 [.rp (List.map C40 f.toList) 0] (.int .i64 r) := by
 unfold XW at h
 replace h := Z0 h
 refine So Tryz.func102 Y fun w0 A=>Tr<|Ra Y<|Za<|Zg<|Qp (cw := md0) (by kernel_rfl)<|D1 0 Zc Y<|D1 1 Zy Y<|bE h fun x h_x h=>Dq 2 Y (QD (ov Y) (ov Y) XT h_x)<|Dq 3 Y (Zd (ov Y) Zar<|Qi<|Q9 (o := 0) (o' := ((Int.toNat 1) * 1)) (Zq arL)<|Xa h_x)<|bE h fun y h_y h=>Dq 4 Y (Zo (Jm h_y)<|.cons (ov Y) (.b Y) .nil)<|D1 5 Zc Y<|D1 6 Zy Y<|bE h fun x2 h_x2 h=>Dq 7 Y (QD (ov Y) (ov Y) XT h_x2)<|Dq 8 Y (Zd (ov Y) Zar<|Qi<|Q9 (o := 0) (o' := ((Int.toNat 2) * 1)) (Zq arL)<|Xa h_x2)<|bE h fun y2 h_y2 h=>Dq 9 Y (Zo (Jm h_y2)<|.cons (ov Y) (.b Y) .nil)<|bE h fun q h_q h=>Dq 10 Y (ZdI (ov Y) (ov Y) h_q)<|D2 11 Ze5 Y<|D1 12 Z8 Y<|Dd<|?_
 obtain rfl := rt h
 exact Zn (ZC Y (.one<|rb Y))
theorem ZeQ {x : Int} {r : Int} (h : XR x = some r) :
 CSpec Tryz.prog gl0 135 [.int .u16 x] (.int .i64 r) := by
 unfold XR at h
 replace h := Z0 h
 refine So Tryz.func135 Y fun w0 A=>Tr<|Ra Y<|Za<|Zg<|Qp (cw := md0) (by kernel_rfl)<|D1 0 Zc Y<|bE h fun q h_q h=>Dq 1 Y (ZbB (ov Y) (ov Y) h_q)<|bE h fun b h_b h=>Dq 2 Y (ZiL (ov Y) (ov Y) ZjW h_b)<|D1 3 Zc Y<|D2 4 Zau Y<|bE h fun b2 h_b2 h=>Dq 5 Y (ZiL (ov Y) (ov Y) ZjW h_b2)<|D2 6 ZM Y<|Dq 7 Y (Z7 (ov Y) tI5 tI3 Y)<|D1 8 Z8 Y<|Dd<|?_
 obtain rfl := rt h
 exact Zn (ZC Y (.one<|rb Y))
theorem ZdM {w : Int} {r : Bool} (h : ZbE w = some r) :
 CSpec Tryz.prog gl0 103 [.int .u16 w] (.bool r) := by
 unfold ZbE at h
 replace h := Z0 h
 refine So Tryz.func103 Y fun w0 A=>Tr<|Ra Y<|Za<|Tr<|Rm Y<|R2 Zhx Y<|Rm Y<|Rq Y (.guarded ((decide (w ≤ 4095)) == true) Y Y Y Y fun h => Zc<|ov Y)<|bE h fun y h_y h=>Rq Y (.guarded ((decide (w ≤ 4095)) == true) Y Y Y Y fun h => Zo (ZeQ<|gdT h_y h)<|.cons (ow Y h) (.b Y) .nil)<|bE h fun q h_q h=>Rq Y (.guarded ((decide (w ≤ 4095)) == true) Y Y Y Y fun h => XY (ow Y h) (ov Y)<|gdT h_q h)<|Rq Y (.guarded ((decide (w ≤ 4095)) == true) Y Y Y Y fun h => ZaJ (ow Y h)<|ov Y)<|Rq Y (Zck (ov Y) fun hp=>ow Y<|gT hp)<|Ra Y<|Za<|?_
 obtain rfl := rt h
 exact Zn (ZC Y (.one<|rb Y))
theorem Zg8 {f : Vector Int 64} {r : Int} (h : ZbT f = some r) :
 CSpec Tryz.prog gl0 105 [.rp (List.map C40 f.toList) 0] (.int .i64 r) := by
 unfold ZbT at h
 replace h := Z0 h
 refine So Tryz.func105 Y fun w0 A=>Tr<|Ra Y<|Za<|K1 0 Y<|Tr<|Ra Y<|Za<|I1 (fun n=>⟨[(3, .int .i64 n)], []⟩) h (fun h=>?_) fun n h=>?_
 ·
  refine Tr<|Rm Y<|Za<|Ze<|?_
  obtain ⟨r1, hl1, ho1⟩ := QI h
  refine L2 (fun n2 i=>⟨[(0, .rp (List.map C40 f.toList) 0), (3, .int .i64 n2), (5, .int .i64 i)], []⟩) hl1 (ES []) fun n1 n2 i h=>?_
  unfold Zbk at h
  refine Tr<|R2 ZO Y<|Za<|Zg<|If h Y (fun h=>?_) fun h=>?_
  ·
   exact Zh<|Zg<|Ze<|K3 0 3 5 Y<|Tr<|Rm Y<|Ra Y<|Za<|K4 0 3 4 5 Y<|Zt<|Rm Y<|Rm Y<|Rm Y<|R2 ZM Y<|R1 Zy Y<|bE h fun x h_x h=>Rq Y (QD (ov Y) (ov Y) XT h_x)<|Rq Y (Zd (ov Y) Zar<|Qi<|Q9 (o := 0) (o' := ((i64 (i + 1)).toNat * 1)) (Zq arL)<|Xa h_x)<|bE h fun y h_y h=>Rq Y (Zo (Jm h_y)<|.cons (ov Y) (.b Y) .nil)<|R2 Zix Y<|Ra Y<|Za<|K3 0 3 5 Y<|Zt<|R2 ZM Y<|Rm Y<|Za<|⟨_, h, ES []⟩
  ·
   refine ZE<|?_
   replace h := lx h ▸ ho1
   exact ⟨_, h, ES []⟩
 ·
  refine Tr<|Rm Y<|Ra Y<|Za<|?_
  obtain rfl := rt h
  exact Zn (ZC Y (.one<|rb Y))
theorem Zgp {f : Vector Int 64} {r : Int} (h : Zac f = some r) :
 CSpec Tryz.prog gl0 106 [.rp (List.map C40 f.toList) 0] (.int .i64 r) := by
 unfold Zac at h
 replace h := Z0 h
 refine So Tryz.func106 Y fun w0 A=>Tr<|Ra Y<|Za<|K1 0 Y<|Tr<|Ra Y<|Za<|I1 (fun n=>⟨[(3, .int .i64 n)], []⟩) h (fun h=>?_) fun n h=>?_
 ·
  refine Tr<|Rm Y<|Za<|Ze<|?_
  obtain ⟨r1, hl1, ho1⟩ := QI h
  refine L2 (fun n2 i=>⟨[(0, .rp (List.map C40 f.toList) 0), (3, .int .i64 n2), (7, .int .i64 i)], []⟩) hl1 (ES []) fun n1 n2 i h=>?_
  unfold JX at h
  refine Tr<|R2 ZO Y<|Za<|Zg<|If h Y (fun h=>?_) fun h=>?_
  ·
   refine Zh<|I1 (fun n3=>⟨[(0, .rp (List.map C40 f.toList) 0), (3, .int .i64 n3), (7, .int .i64 i)], []⟩) h (fun h=>?_) fun n3 h=>?_
   ·
    refine Ze<|K3 0 3 7 Y<|Tr<|Rm Y<|Ra Y<|Za<|K4 0 3 4 7 Y<|Tr<|Ra Y<|Za<|Ze<|?_
    obtain ⟨r2, hl2, ho2⟩ := QI h
    refine L2 (fun n4 k=>⟨[(0, .rp (List.map C40 f.toList) 0), (3, .int .i64 n4), (4, .int .i64 i), (5, .int .i64 k), (7, .int .i64 i)], []⟩) hl2 (ES []) fun n2 n4 k h=>?_
    unfold JS at h
    refine Zg<|Tr<|Rm Y<|R2 ZfW Y<|Za<|K6 0 3 4 5 7 11 Y<|If h Y (fun h=>?_) fun h=>?_
    ·
     refine Zh<|Zg<|Ze<|K5 0 3 4 5 7 Y<|Tr<|Rm Y<|R2 Zau Y<|R2 Xp Y<|Ra Y<|Za<|K6 0 3 4 5 6 7 Y<|Tr<|Rm Y<|bE h fun q h_q h=>Rq Y (ZdI (ov Y) (ov Y) h_q)<|R2 Zau Y<|Ra Y<|Za<|K6 0 3 4 5 6 7 Y<|Tr<|Rm Y<|Rm Y<|Rm Y<|R1 Zy Y<|bE h fun x h_x h=>Rq Y (QD (ov Y) (ov Y) XT h_x)<|Rq Y (Zd (ov Y) Zar<|Qi<|Q9 (o := 0) (o' := (i.toNat * 1)) (Zq arL)<|Xa h_x)<|Rm Y<|bE h fun q2 h_q2 h=>Rq Y (ZbB (ov Y) (ov Y) h_q2)<|R2 Zau Y<|R2 ZaJ Y<|Rq Y (ZhC .neq (by simp) (ov Y) (ov Y) tB4)<|Za<|K6 0 3 4 5 7 30 Y<|If h Y (fun h=>?_) fun h=>?_
     ·
      exact K5 0 3 4 5 7 Y<|Zt<|Rm Y<|R2 Zix Y<|Ra Y<|Za<|K5 0 3 4 5 7 Y<|Zt<|Rm Y<|R2 ZeV Y<|Ra Y<|Za<|⟨_, h, ES []⟩
     ·
      exact Zh<|K5 0 3 4 5 7 Y<|Zt<|Rm Y<|R2 ZeV Y<|Ra Y<|Za<|⟨_, h, ES []⟩
    ·
     refine ZE<|?_
     replace h := lx h ▸ ho2
     exact ⟨_, h, ES []⟩
   ·
    exact Zt<|R2 ZM Y<|Rm Y<|Za<|⟨_, h, ES []⟩
  ·
   refine ZE<|?_
   replace h := lx h ▸ ho1
   exact ⟨_, h, ES []⟩
 ·
  refine Tr<|Rm Y<|Ra Y<|Za<|?_
  obtain rfl := rt h
  exact Zn (ZC Y (.one<|rb Y))
theorem Zew {f : Vector Int 64} {r : (List api_Flaw)} (h : ZaH f = some r) :
 CSpec Tryz.prog gl0 66 [.agg (List.map C40 f.toList)] (.sl 149 (List.map R149 r)) := by
 unfold ZaH at h
 replace h := Z0 h
 refine So Tryz.func66 Y fun w0 A=>Tr<|Rq Y (Zdb (cva<|ov Y) arL tZ_42<|arD fun _ => Y)<|Ra Y<|Za<|K1 1 Y<|Tr<|Ra Y<|Za<|I1 (fun out=>⟨[(1, .rp (List.map C40 f.toList) 0), (3, .own 0 out.length)], [some ⟨149, List.map R149 out⟩]⟩) h (fun h=>?_) fun out h=>?_
 ·
  refine Tr<|Rq Y (Xc (ov Y) Qq (ZX<|Zq arL) arL)<|Rm Y<|Za<|Ze<|?_
  obtain ⟨r1, hl1, ho1⟩ := QI h
  refine L2 (fun out2 i=>⟨[(1, .rp (List.map C40 f.toList) 0), (3, .own 0 out2.length), (7, .agg (List.map C40 f.toList)), (8, .int .i64 i)], [some ⟨149, List.map R149 out2⟩]⟩) hl1 (ES [none]) fun n1 out2 i h=>?_
  unfold ZaT at h
  refine Tr<|R2 ZO Y<|Za<|Zg<|If h Y (fun h=>?_) fun h=>?_
  ·
   refine Zh<|Zg<|Ze<|K4 1 3 7 8 Y<|Tr<|Rm Y<|bE h fun x h_x h=>Rq Y (Zh2 (ov Y) (ov Y) XT Zar h_x)<|Ra Y<|Ra Y<|Za<|K6 1 3 4 5 7 8 Y<|Tr<|Rm Y<|R2 ZcN Y<|Za<|K6 1 3 4 7 8 13 Y<|If h Y (fun h=>?_) fun h=>?_
   ·
    exact K5 1 3 4 7 8 Y<|Zt<|Rm Y<|Rm Y<|Rq Y (Xw (ys := [_, _]) Zhv Zhq ZiQ (.cons (cvs (ov Y)<|Zm Y)<|.cons (cvs (ov Y)<|Zm Y) .nil) Y)<|R_q (.sl 149<|List.map R149 ([(api_Flaw.mk i 5)] : List api_Flaw)) Y (XC Zdy (.cons (cva<|ov Y) Y (pwD Y) .nil) Y Y)<|bE h fun l h_l h=>Rx Y (Qr (ov Y) (Qv (ov Y) tZ_149) Zdy Y Y Y (fun _=>Zb Y) Y h_l)<|Ra Y<|Za<|K4 1 3 7 8 Y<|Zt<|R2 ZM Y<|Rm Y<|Za<|⟨_, h, ES [some 0]⟩
   ·
    exact Zh<|K4 1 3 7 8 Y<|Zt<|R2 ZM Y<|Rm Y<|Za<|⟨_, h, ES [some 0]⟩
  ·
   refine ZE<|?_
   replace h := lx h ▸ ho1
   exact ⟨_, h, ES [some 0]⟩
 ·
  refine Zg<|Tr<|Rm Y<|Rq Y (ZeD (ov Y) Y Y Zdy)<|R2 ZcN Y<|Za<|K3 1 3 22 Y<|If h Y (fun h=>?_) fun h=>?_
  ·
   refine K1 3 Y<|Tr<|Rm Y<|Ra Y<|Za<|?_
   obtain rfl := rt h
   exact Zn (ZC Y (.one<|.tmp Y<|View.ownM Y Y D149))
  ·
   refine Zh<|I1 (fun out3=>⟨[(1, .rp (List.map C40 f.toList) 0), (3, .own 0 out3.length)], [some ⟨149, List.map R149 out3⟩]⟩) h (fun h=>?_) fun out3 h=>?_
   ·
    refine Zg<|K2 1 3 Y<|Qp (cw := md0) (by kernel_rfl)<|bE h fun x2 h_x2 h=>Dq 0 Y (QD (ov Y) (ov Y) XT h_x2)<|Dq 1 Y (Zd (ov Y) Zar<|Qi<|Q9 (o := 0) (o' := ((Int.toNat 0) * 1)) (Zq arL)<|Xa h_x2)<|bE h fun y h_y h=>Dq 2 Y (Zo (Zc8 h_y)<|.cons (ov Y) (.b Y) .nil)<|bE h fun q h_q h=>Dq 3 Y (XY (ov Y) (ov Y) h_q)<|bE h fun x3 h_x3 h=>Dq 4 Y (QD (og (v := gv_frame_syncs) (k := .u16) (f := C40) (by simp [gl0]) fun _=>Y) (ov Y) ZmU h_x3)<|Dq 5 Y (Zd (ov Y) Zar<|Qi<|Q9 (o := 0) (o' := (q.toNat * 1)) (Zq arL)<|Xa h_x3)<|D2 6 Xp Y<|Dd<|K3 1 3 30 Y<|If h Y (fun h=>?_) fun h=>?_
    ·
     exact K2 1 3 Y<|Zt<|Rm Y<|Rq Y (Xw (ys := [_, _]) Zhv Zhq ZiQ (.cons (cvs (ov Y)<|Zm Y)<|.cons (cvs (ov Y)<|Zm Y) .nil) Y)<|R_q (.sl 149<|List.map R149 ([(api_Flaw.mk 0 1)] : List api_Flaw)) Y (XC Zdy (.cons (cva<|ov Y) Y (pwD Y) .nil) Y Y)<|bE h fun l2 h_l2 h=>Rx Y (Qr (ov Y) (Qv (ov Y) tZ_149) Zdy Y Y Y (fun _=>Zb Y) Y h_l2)<|Ra Y<|Za<|⟨_, h, ES [some 0]⟩
    ·
     exact Zh<|⟨_, h, ES [some 0]⟩
   ·
    refine I1 (fun out4=>⟨[(1, .rp (List.map C40 f.toList) 0), (3, .own 0 out4.length)], [some ⟨149, List.map R149 out4⟩]⟩) h (fun h=>?_) fun out4 h=>?_
    ·
     refine Tr<|Ra Y<|Za<|Ze<|?_
     obtain ⟨r2, hl2, ho2⟩ := QI h
     refine L2 (fun out5 i2=>⟨[(1, .rp (List.map C40 f.toList) 0), (3, .own 0 out5.length), (6, .int .i64 i2)], [some ⟨149, List.map R149 out5⟩]⟩) hl2 (ES [some 0]) fun n2 out5 i2 h=>?_
     unfold ZaP at h
     refine Zg<|Tr<|Rm Y<|R2 ZO Y<|Za<|K4 1 3 6 36 Y<|If h Y (fun h=>?_) fun h=>?_
     ·
      refine Zh<|Zg<|Ze<|K3 1 3 6 Y<|Tr<|Rm Y<|bE h fun x4 h_x4 h=>Rq Y (QD (ov Y) (ov Y) XT h_x4)<|Rq Y (Zd (ov Y) Zar<|Qi<|Q9 (o := 0) (o' := (i2.toNat * 1)) (Zq arL)<|Xa h_x4)<|bE h fun y2 h_y2 h=>Rq Y (Zo (ZdM h_y2)<|.cons (ov Y) (.b Y) .nil)<|R1 X2 Y<|Za<|K4 1 3 6 43 Y<|If h Y (fun h=>?_) fun h=>?_
      ·
       exact K3 1 3 6 Y<|Zt<|Rm Y<|Rm Y<|Rq Y (Xw (ys := [_, _]) Zhv Zhq ZiQ (.cons (cvs (ov Y)<|Zm Y)<|.cons (cvs (ov Y)<|Zm Y) .nil) Y)<|R_q (.sl 149<|List.map R149 ([(api_Flaw.mk i2 2)] : List api_Flaw)) Y (XC Zdy (.cons (cva<|ov Y) Y (pwD Y) .nil) Y Y)<|bE h fun l3 h_l3 h=>Rx Y (Qr (ov Y) (Qv (ov Y) tZ_149) Zdy Y Y Y (fun _=>Zb Y) Y h_l3)<|Ra Y<|Za<|K3 1 3 6 Y<|Zt<|Rm Y<|R2 ZM Y<|Ra Y<|Za<|⟨_, h, ES [some 0]⟩
      ·
       exact Zh<|K3 1 3 6 Y<|Zt<|Rm Y<|R2 ZM Y<|Ra Y<|Za<|⟨_, h, ES [some 0]⟩
     ·
      refine ZE<|?_
      replace h := lx h ▸ ho2
      exact ⟨_, h, ES [some 0]⟩
    ·
     refine I1 (fun out6=>⟨[(1, .rp (List.map C40 f.toList) 0), (3, .own 0 out6.length)], [some ⟨149, List.map R149 out6⟩]⟩) h (fun h=>?_) fun out6 h=>?_
     ·
      refine Tr<|bE h fun x5 h_x5 h=>Rq Y (QD (ov Y) (ov Y) XT h_x5)<|Rq Y (Zd (ov Y) Zar<|Qi<|Q9 (o := 0) (o' := ((Int.toNat 61) * 1)) (Zq arL)<|Xa h_x5)<|bE h fun y3 h_y3 h=>Rq Y (Zo (Jm h_y3)<|.cons (ov Y) (.b Y) .nil)<|bE h fun y4 h_y4 h=>Rq Y (Zo (Zg8 h_y4)<|.cons (ov Y) (.b Y) .nil)<|R2 Xp Y<|Za<|K3 1 3 53 Y<|If h Y (fun h=>?_) fun h=>?_
      ·
       exact K2 1 3 Y<|Zt<|Rm Y<|Rq Y (Xw (ys := [_, _]) Zhv Zhq ZiQ (.cons (cvs (ov Y)<|Zm Y)<|.cons (cvs (ov Y)<|Zm Y) .nil) Y)<|R_q (.sl 149<|List.map R149 ([(api_Flaw.mk 61 3)] : List api_Flaw)) Y (XC Zdy (.cons (cva<|ov Y) Y (pwD Y) .nil) Y Y)<|bE h fun l4 h_l4 h=>Rx Y (Qr (ov Y) (Qv (ov Y) tZ_149) Zdy Y Y Y (fun _=>Zb Y) Y h_l4)<|Ra Y<|Za<|⟨_, h, ES [some 0]⟩
      ·
       exact Zh<|⟨_, h, ES [some 0]⟩
     ·
      refine Zg<|Zg<|Qp (cw := md0) (by kernel_rfl)<|bE h fun x6 h_x6 h=>Dq 0 Y (QD (ov Y) (ov Y) XT h_x6)<|Dq 1 Y (Zd (ov Y) Zar<|Qi<|Q9 (o := 0) (o' := ((Int.toNat 62) * 1)) (Zq arL)<|Xa h_x6)<|bE h fun y5 h_y5 h=>Dq 2 Y (Zo (Jm h_y5)<|.cons (ov Y) (.b Y) .nil)<|bE h fun q2 h_q2 h=>Dq 3 Y (ZdI (ov Y) (ov Y) h_q2)<|bE h fun x7 h_x7 h=>Dq 4 Y (QD (ov Y) (ov Y) XT h_x7)<|Dq 5 Y (Zd (ov Y) Zar<|Qi<|Q9 (o := 0) (o' := ((Int.toNat 63) * 1)) (Zq arL)<|Xa h_x7)<|bE h fun y6 h_y6 h=>Dq 6 Y (Zo (Jm h_y6)<|.cons (ov Y) (.b Y) .nil)<|D2 7 Ze5 Y<|bE h fun y7 h_y7 h=>Dq 8 Y (Zo (Zgp h_y7)<|.cons (ov Y) (.b Y) .nil)<|D2 9 Xp Y<|Dd<|K2 3 67 Y<|If h Y (fun h=>?_) fun h=>?_
      ·
       refine K1 3 Y<|Zt<|Rm Y<|Rq Y (Xw (ys := [_, _]) Zhv Zhq ZiQ (.cons (cvs (ov Y)<|Zm Y)<|.cons (cvs (ov Y)<|Zm Y) .nil) Y)<|R_q (.sl 149<|List.map R149 ([(api_Flaw.mk 62 4)] : List api_Flaw)) Y (XC Zdy (.cons (cva<|ov Y) Y (pwD Y) .nil) Y Y)<|bE h fun l5 h_l5 h=>Rx Y (Qr (ov Y) (Qv (ov Y) tZ_149) Zdy Y Y Y (fun _=>Zb Y) Y h_l5)<|Ra Y<|Za<|K1 3 Y<|Tr<|Rm Y<|Ra Y<|Za<|?_
       obtain rfl := rt h
       exact Zn (ZC Y (.one<|.tmp Y<|View.ownM Y Y D149))
      ·
       refine Zh<|K1 3 Y<|Tr<|Rm Y<|Ra Y<|Za<|?_
       obtain rfl := rt h
       exact Zn (ZC Y (.one<|.tmp Y<|View.ownM Y Y D149))
theorem ZdV {f : Vector Int 64} {r : Int × Bool} (h : JW f = some r) :
 CSpec Tryz.prog gl0 67 [.agg (List.map C40 f.toList)] (.tuple [.int .i64 r.1, .bool r.2]) := by
 unfold JW at h
 replace h := Z0 h
 refine So Tryz.func67 Y fun w0 A=>Tr<|Rq Y (Zdb (cva<|ov Y) arL tZ_42<|arD fun _ => Y)<|Ra Y<|Ra Y<|Za<|Zg<|K1 1 Y<|Tr<|bE h fun x h_x h=>Rq Y (QD (ov Y) (ov Y) XT h_x)<|Rq Y (Zd (ov Y) Zar<|Qi<|Q9 (o := 0) (o' := ((Int.toNat 1) * 1)) (Zq arL)<|Xa h_x)<|bE h fun y h_y h=>Rq Y (Zo (ZdM h_y)<|.cons (ov Y) (.b Y) .nil)<|R1 X2 Y<|Rm Y<|bE h fun x2 h_x2 h=>Rq Y (.guarded ((!y) == false) Y Y Y Y fun h => QD (ov Y) (ov Y) XT<|gdT h_x2 h)<|Rq Y (.guarded ((!y) == false) Y Y Y Y fun h => Zd (ow Y h) Zar<|Qi<|Q9 (o := 0) (o' := ((Int.toNat 2) * 1)) (Zq arL)<|Xa<|gdT h_x2 h)<|bE h fun y2 h_y2 h=>Rq Y (.guarded ((!y) == false) Y Y Y Y fun h => Zo (ZdM<|gdT h_y2 h)<|.cons (ow Y h) (.b Y) .nil)<|Rq Y (.guarded ((!y) == false) Y Y Y Y fun h => X2<|ow Y h)<|Rq Y (ZdB (ov Y) fun hp=>ow Y<|gF hp)<|Za<|K2 1 13 Y<|If h Y (fun h=>?_) fun h=>?_
 ·
  refine K0<|Tr<|Ra Y<|Ra Y<|Za<|?_
  obtain rfl := rt h
  exact Zn (ZC Y (.two (rb Y)<|rb Y))
 ·
  refine Zh<|K1 1 Y<|Tr<|bE h fun y3 h_y3 h=>Rq Y (Zo (Zc8 h_y3)<|.cons (ov Y) (.b Y) .nil)<|Ra Y<|Ra Y<|Za<|?_
  obtain rfl := rt h
  exact Zn (ZC Y (.two (rb Y)<|rb Y))
theorem ZgL {number : Int} {memories : Int} {copies : Int} {r : (List Int)} (h : Za3 number memories copies = some r) :
 CSpec Tryz.prog gl0 68 [.int .i64 number, .int .i64 memories, .int .i64 copies] (.sl 3 (List.map R3 r)) := by
 unfold Za3 at h
 replace h := Z0 h
 refine So Tryz.func68 Y fun w0 A=>Tr<|Ra Y<|Za<|K3 0 1 2 Y<|Tr<|Ra Y<|Za<|I1 (fun out=>⟨[(7, .own 0 out.length)], [some ⟨3, List.map R3 out⟩]⟩) h (fun h=>?_) fun out h=>?_
 ·
  refine Tr<|Rm Y<|Rm Y<|Za<|Ze<|?_
  obtain ⟨r1, hl1, ho1⟩ := QI h
  refine L2 (fun out2 i=>⟨[(0, .int .i64 number), (1, .int .i64 memories), (7, .own 0 out2.length), (9, .int .i64 copies), (10, .int .i64 i)], [some ⟨3, List.map R3 out2⟩]⟩) hl1 (ES [none]) fun n1 out2 i h=>?_
  unfold Zai at h
  refine Tr<|R2 ZO Y<|Za<|Zg<|If h Y (fun h=>?_) fun h=>?_
  ·
   exact Zh<|Zg<|Ze<|K5 0 1 7 9 10 Y<|Tr<|Rm Y<|Ra Y<|Za<|K6 0 1 7 8 9 10 Y<|Zt<|Rm Y<|Rm Y<|Rm Y<|R2 ZM Y<|Rm Y<|bE h fun q h_q h=>Rq Y (XY (ov Y) (ov Y) h_q)<|R_q (.sl 3<|List.map R3 ([q] : List Int)) Y (XC Q3 (.cons (cvs (ov Y)<|Zm Y) Y (.cons (.b Y) .nil) .nil) Y Y)<|bE h fun l h_l h=>Rx Y (Qr (ov Y) (Qv (ov Y) tZ_3) Q3 Y Y Y (fun _=>Zb Y) Y h_l)<|Ra Y<|Za<|K5 0 1 7 9 10 Y<|Zt<|R2 ZM Y<|Rm Y<|Za<|⟨_, h, ES [some 0]⟩
  ·
   refine ZE<|?_
   replace h := lx h ▸ ho1
   exact ⟨_, h, ES [some 0]⟩
 ·
  refine Tr<|Rm Y<|Ra Y<|Za<|?_
  obtain rfl := rt h
  exact Zn (ZC Y (.one<|.tmp Y<|View.ownM Y Y D3))
theorem J5 {b : ring_bank} {k : Int} {r : Bool} (h : QJ b k = some r) :
 CSpec Tryz.prog gl0 107 [.rp [.sl 26 (List.map R26 b.memories), .sl 105 (List.map R105 b.spots)] 0, .int .i64 k] (.bool r) := by
 unfold QJ at h
 replace h := Z0 h
 refine So Tryz.func107 Y fun w0 A=>Tr<|Ra Y<|Za<|Zg<|Qp (cw := md0) (by kernel_rfl)<|D1 0 Zc Y<|D1 1 Zy Y<|Dq 2 Y (ZW (ov Y) ZdP)<|Dq 3 Y (Zd (ov Y) Zjz Y)<|D1 4 Zc Y<|bE h fun x h_x h=>Dq 5 Y (ZQ (ov Y) (ov Y) Zjp h_x)<|Dq 6 Y (ZW (ov Y) ZeI)<|Dq 7 Y (Zd (ov Y) tS3 Y)<|D2 8 ZO Y<|D1 9 Zc Y<|Dq 10 Y (.guarded ((decide (x.sector < 0)) == false) Y Y Y Y fun h => Zc<|ov Y)<|Dq 11 Y (.guarded ((decide (x.sector < 0)) == false) Y Y Y Y fun h => Zy<|ow Y h)<|Dq 12 Y (.guarded ((decide (x.sector < 0)) == false) Y Y Y Y fun h => ZW (ow Y h) ZdP)<|Dq 13 Y (.guarded ((decide (x.sector < 0)) == false) Y Y Y Y fun h => Zd (ow Y h) Zjz Y)<|Dq 14 Y (.guarded ((decide (x.sector < 0)) == false) Y Y Y Y fun h => Zc<|ov Y)<|bE h fun x2 h_x2 h=>Dq 15 Y (.guarded ((decide (x.sector < 0)) == false) Y Y Y Y fun h => ZQ (ow Y h) (ow Y h) Zjp<|gdT h_x2 h)<|Dq 16 Y (.guarded ((decide (x.sector < 0)) == false) Y Y Y Y fun h => ZW (ow Y h) ZfC)<|Dq 17 Y (.guarded ((decide (x.sector < 0)) == false) Y Y Y Y fun h => Zd (ow Y h) tS3 Y)<|Dq 18 Y (.guarded ((decide (x.sector < 0)) == false) Y Y Y Y fun h => Zc<|ov Y)<|Dq 19 Y (.guarded ((decide (x.sector < 0)) == false) Y Y Y Y fun h => Zy<|ow Y h)<|Dq 20 Y (.guarded ((decide (x.sector < 0)) == false) Y Y Y Y fun h => ZW (ow Y h) Zco)<|Dq 21 Y (.guarded ((decide (x.sector < 0)) == false) Y Y Y Y fun h => Zd (ow Y h) ZiB Y)<|Dq 22 Y (.guarded ((decide (x.sector < 0)) == false) Y Y Y Y fun h => Zc<|ov Y)<|bE h fun x3 h_x3 h=>Dq 23 Y (.guarded ((decide (x.sector < 0)) == false) Y Y Y Y fun h => ZQ (ow Y h) (ow Y h) ZcF<|gdT h_x3 h)<|Dq 24 Y (.guarded ((decide (x.sector < 0)) == false) Y Y Y Y fun h => ZW (ow Y h) Zhj)<|Dq 25 Y (.guarded ((decide (x.sector < 0)) == false) Y Y Y Y fun h => Zd (ow Y h) tS3 Y)<|Dq 26 Y (.guarded ((decide (x.sector < 0)) == false) Y Y Y Y fun h => ZaJ (ow Y h)<|ow Y h)<|Dq 27 Y (ZdB (ov Y) fun hp=>ow Y<|gF hp)<|D1 28 Z8 Y<|Dd<|?_
 obtain rfl := rt h
 exact Zn (ZC Y (.one<|rb Y))
theorem ZaS {b : ring_bank} {k : Int} {r : Int} (h : Xl b k = some r) :
 CSpec Tryz.prog gl0 108 [.rp [.sl 26 (List.map R26 b.memories), .sl 105 (List.map R105 b.spots)] 0, .int .i64 k] (.int .i64 r) := by
 unfold Xl at h
 replace h := Z0 h
 refine So Tryz.func108 Y fun w0 A=>Tr<|Ra Y<|Za<|K2 0 1 Y<|Tr<|Rm Y<|R1 Zy Y<|Rq Y (ZW (ov Y) Zco)<|Rq Y (Zd (ov Y) ZiB Y)<|Rm Y<|bE h fun x h_x h=>Rq Y (ZQ (ov Y) (ov Y) ZcF h_x)<|Rq Y (Xc (ov Y) Jg Y Y)<|Rx Y (ZN (row := [_, _, _, _, _]) 0 Y Zdk Y tZ_26)<|Rx Y (Zi (ov Y) (ov Y) (Zs Jg Y) Y Y Y (Nat.le_of_ble_eq_true Y) (Zb Y) Y)<|Za<|K3 0 1 5 Y<|Tr<|Rq Y (Zk (ov Y) Y Y ZG)<|Rq Y (Zu (ov Y) Y Y Y Qd Y)<|Rl tZ_49 Z1 Y<|Ra Y<|Za<|J0 (fun j => (.inr j)) ⟨[], []⟩ h (fun h=>?_) fun h=>?_
 ·
  refine K4 0 1 5 6 Y<|Tr<|Rm Y<|Rm Y<|Za<|Ze<|?_
  obtain ⟨r1, hl1, ho1⟩ := QI h
  refine L1 (fun i=>⟨[(0, .rp [.sl 26 (List.map R26 b.memories), .sl 105 (List.map R105 b.spots)] 0), (1, .int .i64 k), (5, .ptr 0 1 0 0), (6, .int .i64 (x.Sectors.length : Int)), (19, .int .i64 (x.Sectors.length : Int)), (20, .int .i64 i)], [some ⟨26, [[.int .i64 x.Slots, .int .i64 x.Limit, .sl 49 (List.map R49 x.Sectors), .sl 3 (List.map R3 x.Wear), .sl 4 (List.map R4 x.Bad)]]⟩]⟩) hl1 (ES [some 0]) fun n1 i h=>?_
  unfold Jr at h
  refine Tr<|R2 ZO Y<|Za<|Zg<|If h Y (fun h=>?_) fun h=>?_
  ·
   refine Zh<|Zg<|Ze<|K6 0 1 5 6 19 20 Y<|Tr<|Rm Y<|Ra Y<|Za<|K7 0 1 5 6 7 19 20 Y<|Tr<|Rm Y<|R1 Zy Y<|Rq Y (ZW (ov Y) ZdP)<|Rq Y (Zd (ov Y) Zjz Y)<|Rm Y<|bE h fun x2 h_x2 h=>Rq Y (ZQ (ov Y) (ov Y) Zjp h_x2)<|Rq Y (ZW (ov Y) ZeI)<|Rq Y (Zd (ov Y) tS3 Y)<|R2 ZM Y<|Rm Y<|R2 ZM Y<|Rm Y<|bE h fun q h_q h=>Rq Y (XY (ov Y) (ov Y) h_q)<|Ra Y<|Za<|Zg<|K7 0 1 5 6 8 19 20 Y<|Qp (cw := md0) (by kernel_rfl)<|Dq 0 Y (Zk (ov Y) Y Y Zf9)<|Dq 1 Y (Zu (ov Y) Y Y Y Zjx Y)<|D1 2 Zc Y<|bE h fun x3 h_x3 h=>Dq 3 Y (ZQ (ov Y) (ov Y) ZhP h_x3)<|Dq 4 Y (Zd (ov Y) tS4 Y)<|D1 5 X2 Y<|D1 6 Zc Y<|Dq 7 Y (.guarded ((!x3) == true) Y Y Y Y fun h => Zk (ov Y) Y Y Ze7)<|Dq 8 Y (.guarded ((!x3) == true) Y Y Y Y fun h => Zu (ow Y h) Y Y Y Zjm Y)<|Dq 9 Y (.guarded ((!x3) == true) Y Y Y Y fun h => Zc<|ov Y)<|bE h fun x4 h_x4 h=>Dq 10 Y (.guarded ((!x3) == true) Y Y Y Y fun h => ZQ (ow Y h) (ow Y h) Q3<|gdT h_x4 h)<|Dq 11 Y (.guarded ((!x3) == true) Y Y Y Y fun h => Zd (ow Y h) tS3 Y)<|Dq 12 Y (.guarded ((!x3) == true) Y Y Y Y fun h => Zk (ov Y) Y Y ZjG)<|Dq 13 Y (.guarded ((!x3) == true) Y Y Y Y fun h => Zu (ow Y h) Y Y Y tS3 Y)<|Dq 14 Y (.guarded ((!x3) == true) Y Y Y Y fun h => ZO (ow Y h)<|ow Y h)<|Dq 15 Y (Zck (ov Y) fun hp=>ow Y<|gT hp)<|Dd<|K8 0 1 5 6 8 19 20 51 Y<|If h Y (fun h=>?_) fun h=>?_
   ·
    refine K1 8 Y<|Tr<|Rm Y<|Ra Y<|Za<|?_
    replace h := lx h ▸ ho1
    obtain rfl := rt h
    exact Zn (ZC Y (.one<|rb Y))
   ·
    exact Zh<|K6 0 1 5 6 19 20 Y<|Zt<|R2 ZM Y<|Rm Y<|Za<|⟨_, h, ES [some 0]⟩
  ·
   refine ZE<|?_
   replace h := lx h ▸ ho1
   exact ⟨(), h, ES []⟩
 ·
  replace h := elr h
  replace h := t0i h
  refine Tr<|Ra Y<|Za<|?_
  obtain rfl := rt h
  exact Zn (ZC Y (.one<|rb Y))
theorem Zbn {b : ring_bank} {k : Int} {sector : Int} {r : Int} (h : QK b k sector = some r) :
 CSpec Tryz.prog gl0 109 [.rp [.sl 26 (List.map R26 b.memories), .sl 105 (List.map R105 b.spots)] 0, .int .i64 k, .int .i64 sector] (.int .i64 r) := by
 unfold QK at h
 replace h := Z0 h
 refine So Tryz.func109 Y fun w0 A=>Tr<|Ra Y<|Za<|K3 0 1 2 Y<|Tr<|Ra Y<|Za<|I1 (fun most=>⟨[(7, .int .i64 most)], []⟩) h (fun h=>?_) fun most h=>?_
 ·
  refine Tr<|Rm Y<|R1 Zy Y<|Rq Y (ZW (ov Y) Zco)<|Rq Y (Zd (ov Y) ZiB Y)<|Rm Y<|bE h fun x h_x h=>Rq Y (ZQ (ov Y) (ov Y) ZcF h_x)<|Rq Y (ZW (ov Y) ZG)<|Rq Y (Zd (ov Y) Qd Y)<|Rl tZ_49 Z1 Y<|Rm Y<|Za<|Ze<|?_
  obtain ⟨r1, hl1, ho1⟩ := QI h
  refine L2 (fun most2 i=>⟨[(2, .int .i64 sector), (7, .int .i64 most2), (20, .sl 49 (List.map R49 x.Sectors)), (21, .int .i64 (x.Sectors.length : Int)), (22, .int .i64 i)], []⟩) hl1 (ES []) fun n1 most2 i h=>?_
  unfold Xm at h
  refine Tr<|R2 ZO Y<|Za<|Zg<|If h Y (fun h=>?_) fun h=>?_
  ·
   refine Zh<|Zg<|Ze<|K5 2 7 20 21 22 Y<|Tr<|Rm Y<|bE h fun x2 h_x2 h=>Rq Y (ZQ (ov Y) (ov Y) Z1 h_x2)<|Rq Y (Zd (ov Y) ZgW Y)<|Ra Y<|Ra Y<|Za<|K7 2 7 8 9 20 21 22 Y<|Tr<|Rm Y<|bE h fun y h_y h=>Rq Y (Zo (JM h_y)<|.cons (ov Y) (.b Y) .nil)<|Rm Y<|Rq Y (Zl (ov Y) Y)<|Rq Y (Zl (ov Y) Y)<|Rq Y (Zl (ov Y) Y)<|Ra Y<|Ra Y<|Ra Y<|Za<|K8 2 7 8 10 12 20 21 22 Y<|Tr<|Rm Y<|Rm Y<|Rq Y (.guarded (y.2.2 == true) Y Y Y Y fun h => Zc<|ov Y)<|Rq Y (.guarded (y.2.2 == true) Y Y Y Y fun h => Zc<|ov Y)<|Rq Y (.guarded (y.2.2 == true) Y Y Y Y fun h => Xp (ow Y h)<|ow Y h)<|Rq Y (Zck (ov Y) fun hp=>ow Y<|gT hp)<|Za<|K7 2 7 10 20 21 22 38 Y<|If h Y (fun h=>?_) fun h=>?_
   ·
    exact K6 2 7 10 20 21 22 Y<|Zt<|Rm Y<|Rm Y<|Rq Y (Zlj (ov Y) (ov Y) Y)<|Ra Y<|Za<|K5 2 7 20 21 22 Y<|Zt<|R2 ZM Y<|Rm Y<|Za<|⟨_, h, ES []⟩
   ·
    exact Zh<|K5 2 7 20 21 22 Y<|Zt<|R2 ZM Y<|Rm Y<|Za<|⟨_, h, ES []⟩
  ·
   refine ZE<|?_
   replace h := lx h ▸ ho1
   exact ⟨_, h, ES []⟩
 ·
  refine Tr<|Rm Y<|R2 ZM Y<|Ra Y<|Za<|?_
  obtain rfl := rt h
  exact Zn (ZC Y (.one<|rb Y))
theorem Zfl {b : ring_bank} {l : List Int} {r : Int} (h : Jk b l = some r) :
 CSpec Tryz.prog gl0 69 [.rp [.sl 26 (List.map R26 b.memories), .sl 105 (List.map R105 b.spots)] 0, .sl 3 (List.map R3 l)] (.int .i64 r) := by
 unfold Jk at h
 replace h := Z0 h
 refine So Tryz.func69 Y fun w0 A=>Tr<|Ra Y<|Za<|J0 (fun j => (.inr j)) ⟨[(0, .rp [.sl 26 (List.map R26 b.memories), .sl 105 (List.map R105 b.spots)] 0), (1, .sl 3 (List.map R3 l))], []⟩ h (fun h=>?_) fun h=>?_
 ·
  refine K2 0 1 Y<|Tr<|Rm Y<|Rl tZ_3 Q3 Y<|Rm Y<|Za<|Ze<|?_
  obtain ⟨r1, hl1, ho1⟩ := QI h
  refine L1 (fun i=>⟨[(0, .rp [.sl 26 (List.map R26 b.memories), .sl 105 (List.map R105 b.spots)] 0), (1, .sl 3 (List.map R3 l)), (9, .sl 3 (List.map R3 l)), (10, .int .i64 (l.length : Int)), (11, .int .i64 i)], []⟩) hl1 (ES []) fun n1 i h=>?_
  unfold X5 at h
  refine Tr<|R2 ZO Y<|Za<|Zg<|If h Y (fun h=>?_) fun h=>?_
  ·
   refine Zh<|Zg<|Ze<|K5 0 1 9 10 11 Y<|Tr<|bE h fun x h_x h=>Rq Y (ZQ (ov Y) (ov Y) Q3 h_x)<|Rq Y (Zd (ov Y) tS3 Y)<|Ra Y<|Za<|K6 0 1 6 9 10 11 Y<|Tr<|Rm Y<|Rm Y<|bE h fun y h_y h=>Rq Y (Zo (J5 h_y)<|.cons (ov Y) (.b Y)<|.cons (ov Y) (.b Y) .nil)<|Rm Y<|Rq Y (.guarded (y == true) Y Y Y Y fun h => Zc<|ov Y)<|Rq Y (.guarded (y == true) Y Y Y Y fun h => Zc<|ov Y)<|bE h fun y2 h_y2 h=>Rq Y (.guarded (y == true) Y Y Y Y fun h => Zo (ZaS<|gdT h_y2 h)<|.cons (ow Y h) (.b Y)<|.cons (ow Y h) (.b Y) .nil)<|Rq Y (.guarded (y == true) Y Y Y Y fun h => ZO (ow Y h)<|ov Y)<|Rq Y (Zck (ov Y) fun hp=>ow Y<|gT hp)<|Za<|K6 0 1 9 10 11 23 Y<|If h Y (fun h=>?_) fun h=>?_
   ·
    refine K0<|Tr<|Ra Y<|Za<|?_
    replace h := lx h ▸ ho1
    obtain rfl := rt h
    exact Zn (ZC Y (.one<|rb Y))
   ·
    exact Zh<|K5 0 1 9 10 11 Y<|Zt<|R2 ZM Y<|Rm Y<|Za<|⟨_, h, ES []⟩
  ·
   refine ZE<|?_
   replace h := lx h ▸ ho1
   exact ⟨(), h, ES []⟩
 ·
  replace h := elr h
  replace h := t0i h
  refine J0 (fun j => (.inr j)) ⟨[], []⟩ h (fun h=>?_) fun h=>?_
  ·
   refine Tr<|Rm Y<|Rl tZ_3 Q3 Y<|Rm Y<|Za<|Ze<|?_
   obtain ⟨r2, hl2, ho2⟩ := QI h
   refine L1 (fun i2=>⟨[(0, .rp [.sl 26 (List.map R26 b.memories), .sl 105 (List.map R105 b.spots)] 0), (25, .sl 3 (List.map R3 l)), (26, .int .i64 (l.length : Int)), (27, .int .i64 i2)], []⟩) hl2 (ES []) fun n2 i2 h=>?_
   unfold X9 at h
   refine Tr<|R2 ZO Y<|Za<|Zg<|If h Y (fun h=>?_) fun h=>?_
   ·
    refine Zh<|Zg<|Ze<|K4 0 25 26 27 Y<|Tr<|bE h fun x2 h_x2 h=>Rq Y (ZQ (ov Y) (ov Y) Q3 h_x2)<|Rq Y (Zd (ov Y) tS3 Y)<|Ra Y<|Za<|K5 0 8 25 26 27 Y<|Tr<|Rm Y<|Rm Y<|bE h fun y3 h_y3 h=>Rq Y (Zo (J5 h_y3)<|.cons (ov Y) (.b Y)<|.cons (ov Y) (.b Y) .nil)<|Rm Y<|Rq Y (.guarded (y3 == true) Y Y Y Y fun h => Zc<|ov Y)<|Rq Y (.guarded (y3 == true) Y Y Y Y fun h => Zc<|ov Y)<|Rq Y (.guarded (y3 == true) Y Y Y Y fun h => Zc<|ov Y)<|Rq Y (.guarded (y3 == true) Y Y Y Y fun h => Zc<|ov Y)<|bE h fun y4 h_y4 h=>Rq Y (.guarded (y3 == true) Y Y Y Y fun h => Zo (ZaS<|gdT h_y4 h)<|.cons (ow Y h) (.b Y)<|.cons (ow Y h) (.b Y) .nil)<|bE h fun y5 h_y5 h=>Rq Y (.guarded (y3 == true) Y Y Y Y fun h => Zo (Zbn<|gdT h_y5 h)<|.cons (ow Y h) (.b Y)<|.cons (ow Y h) (.b Y)<|.cons (ow Y h) (.b Y) .nil)<|Rq Y (.guarded (y3 == true) Y Y Y Y fun h => ZcN (ow Y h)<|ov Y)<|Rq Y (Zck (ov Y) fun hp=>ow Y<|gT hp)<|Za<|K5 0 25 26 27 42 Y<|If h Y (fun h=>?_) fun h=>?_
    ·
     refine K0<|Tr<|Ra Y<|Za<|?_
     replace h := lx h ▸ ho2
     obtain rfl := rt h
     exact Zn (ZC Y (.one<|rb Y))
    ·
     exact Zh<|K4 0 25 26 27 Y<|Zt<|R2 ZM Y<|Rm Y<|Za<|⟨_, h, ES []⟩
   ·
    refine ZE<|?_
    replace h := lx h ▸ ho2
    exact ⟨(), h, ES []⟩
  ·
   replace h := elr h
   replace h := t0i h
   refine Tr<|Ra Y<|Za<|?_
   obtain rfl := rt h
   exact Zn (ZC Y (.one<|rb Y))
theorem ZhN {f : Vector Int 64} {r : Bool} (h : ZcK f = some r) :
 CSpec Tryz.prog gl0 110 [.rp (List.map C40 f.toList) 0] (.bool r) := by
 unfold ZcK at h
 replace h := Z0 h
 refine So Tryz.func110 Y fun w0 A=>Tr<|Ra Y<|Za<|J0 (fun j => (.inr j)) ⟨[], []⟩ h (fun h=>?_) fun h=>?_
 ·
  refine K1 0 Y<|Tr<|Rm Y<|Za<|Ze<|?_
  obtain ⟨r1, hl1, ho1⟩ := QI h
  refine L1 (fun i=>⟨[(0, .rp (List.map C40 f.toList) 0), (4, .int .i64 i)], []⟩) hl1 (ES []) fun n1 i h=>?_
  unfold ZbK at h
  refine Tr<|R2 ZO Y<|Za<|Zg<|If h Y (fun h=>?_) fun h=>?_
  ·
   refine Zh<|Zg<|Ze<|K2 0 4 Y<|Tr<|Rm Y<|Ra Y<|Za<|K3 0 3 4 Y<|Tr<|Rm Y<|Rm Y<|R1 Zy Y<|bE h fun x h_x h=>Rq Y (QD (ov Y) (ov Y) XT h_x)<|Rq Y (Zd (ov Y) Zar<|Qi<|Q9 (o := 0) (o' := (i.toNat * 1)) (Zq arL)<|Xa h_x)<|R2 ZcN Y<|Za<|K3 0 4 12 Y<|If h Y (fun h=>?_) fun h=>?_
   ·
    refine K0<|Tr<|Ra Y<|Za<|?_
    replace h := lx h ▸ ho1
    obtain rfl := rt h
    exact Zn (ZC Y (.one<|rb Y))
   ·
    exact Zh<|K2 0 4 Y<|Zt<|R2 ZM Y<|Rm Y<|Za<|⟨_, h, ES []⟩
  ·
   refine ZE<|?_
   replace h := lx h ▸ ho1
   exact ⟨(), h, ES []⟩
 ·
  replace h := elr h
  replace h := t0i h
  refine Tr<|Ra Y<|Za<|?_
  obtain rfl := rt h
  exact Zn (ZC Y (.one<|rb Y))
theorem ZeG {p : Vector Int 96} {i : Int} {w : Int} {r : (Vector Int 96)} (h : Jd p i w = some r) :
 GSpec Tryz.prog gl0 136 [.ptr 0 1 0 0, .int .i64 i, .int .u16 w] [some ⟨157, [(List.map C5 p.toList)]⟩] (.tuple []) [some ⟨157, [(List.map C5 r.toList)]⟩] := by
 unfold Jd at h
 replace h := Z0 h
 refine QF (by kernel_rfl) Tryz.func136 Y Y<|?_
 intro w0 A W φ0
 refine Tr<|Rm Y<|bE h fun q h_q h=>Rq Y (Zcc (ov Y) (ov Y) h_q)<|R2 Zea Y<|Ra Y<|Za<|Zg<|K4 0 1 2 6 Y<|Tr<|Rm Y<|bE h fun q2 h_q2 h=>Rq Y (XY (ov Y) (ov Y) h_q2)<|R2 ZaJ Y<|Za<|K4 0 2 6 12 Y<|If h Y (fun h=>?_) fun h=>?_
 ·
  refine Zg<|K3 0 2 6 Y<|Qp (cw := ⟨false, false, [], [20, 24], []⟩) (by kernel_rfl)<|D1 0 Zc Y<|D1 1 Zc Y<|D1 5 Zc Y<|bE h fun q3 h_q3 h=>Dq 6 Y (ZbB (ov Y) (ov Y) h_q3)<|Dq 7 Y (Z7 (ov Y) ZcR tI5 Y)<|D1 12 Zc Y<|D1 13 Zc Y<|D2 14 ZM Y<|Dq 15 Y (Zv (ov Y) Y Y)<|bE h fun x h_x h=>Dq 16 Y (XV (ov Y) (ov Y) Zc7 Y Y h_x)<|Dq 17 Y (Zu (ov Y) Y Y Y tS5<|Qi<|Q9 (o := 0) (o' := ((i64 ((i64 (q * 3)) + 1)).toNat * 1)) (Zq arL)<|Xa h_x)<|Dq 20 Y (Zv (ov Y) Y Y)<|bE h fun x2 h_x2 h=>Dq 21 Y (XV (ov Y) (ov Y) Zc7 Y Y h_x2)<|Z6 2 _ Y (by kernel_rfl) Y Y (fun hp'=>Zc<|ov Y)<|Z6 3 _ Y (by kernel_rfl) Y Y (fun hp'=>Zc<|ov Y)<|Z6 4 _ Y (by kernel_rfl) Y Y (fun hp'=>ZjU (ov Y) (ov Y) Y)<|Z6 8 _ Y (by kernel_rfl) Y Y (fun hp'=>Zc<|ov Y)<|Z6 9 _ Y (by kernel_rfl) Y Y (fun hp'=>Zau (ov Y)<|ov Y)<|bE h fun q4 h_q4 h=>Z6 10 _ Y (by kernel_rfl) Y Y (fun hp'=>ZdI (ov Y) (ov Y) h_q4)<|Z6 11 _ Y (by kernel_rfl) Y Y (fun hp'=>Z7 (ov Y) ZcR tI5 Y)<|Z6 18 _ Y (by kernel_rfl) Y Y (fun hp'=>Zau (ov Y)<|ov Y)<|Z6 19 _ Y (by kernel_rfl) Y Y (fun hp'=>Ze5 (ov Y)<|ov Y)<|Dw 23 22 Y (Zv (ov Y) Y Y) (Zi (ov Y) (ov Y) (Zf tS5) Y Y Y (arB h_x2) (Zb Y)<|arS h_x2) ?_ ?_
  ·
   refine Do 22 Y (Zi (ov Y) (ov Y) (Zf tS5) Y Y Y (arB h_x2) (Zb Y)<|arS h_x2)<|bE h fun x3 h_x3 h=>Dq 24 Y (XV (ov Y) (ov Y) Zc7 Y Y h_x3)<|Do 25 Y (Zi (ov Y) (ov Y) (Zf tS5) Y Y Y (arB h_x3) (Zb Y)<|arS h_x3)<|Dd<|?_
   obtain rfl := rt h
   exact Zn<|Zbd [some 0] Y .nil (.cons Y (ro1 (by exact Eq.trans (b := 96) arL tZ_157.symm)<|rld<|arD fun _ => Y) .nil) Y Y<|X0 rln
  ·
   refine Dq 23 Y (Zv (ov Y) Y Y)<|bE h fun x3 h_x3 h=>Dq 24 Y (XV (ov Y) (ov Y) Zc7 Y Y h_x3)<|Do 25 Y (Zi (ov Y) (ov Y) (Zf tS5) Y Y Y (arB h_x3) (Zb Y)<|arS h_x3)<|Dd<|?_
   obtain rfl := rt h
   exact Zn<|Zbd [some 0] Y .nil (.cons Y (ro1 (by exact Eq.trans (b := 96) arL tZ_157.symm)<|rld<|arD fun _ => Y) .nil) Y Y<|X0 rln
 ·
  refine Zh<|K3 0 2 6 Y<|Qp (cw := ⟨false, false, [], [52, 55], []⟩) (by kernel_rfl)<|D1 0 Zc Y<|D1 1 Zc Y<|D2 2 ZM Y<|D1 6 Zc Y<|D1 7 Zc Y<|D2 8 ZM Y<|Dq 9 Y (Zv (ov Y) Y Y)<|bE h fun x4 h_x4 h=>Dq 10 Y (XV (ov Y) (ov Y) Zc7 Y Y h_x4)<|Dq 11 Y (Zu (ov Y) Y Y Y tS5<|Qi<|Q9 (o := 0) (o' := ((i64 ((i64 (q * 3)) + 1)).toNat * 1)) (Zq arL)<|Xa h_x4)<|D2 12 Zau Y<|D1 13 Zc Y<|bE h fun q5 h_q5 h=>Dq 14 Y (ZbB (ov Y) (ov Y) h_q5)<|Dq 15 Y (Z7 (ov Y) ZcR tI5 Y)<|D2 16 Ze5 Y<|Dq 19 Y (Zv (ov Y) Y Y)<|bE h fun x5 h_x5 h=>Dq 20 Y (XV (ov Y) (ov Y) Zc7 Y Y h_x5)<|Z6 3 _ Y (by kernel_rfl) Y Y (fun hp'=>Zc<|ov Y)<|Z6 4 _ Y (by kernel_rfl) Y Y (fun hp'=>Zc<|ov Y)<|Z6 5 _ Y (by kernel_rfl) Y Y (fun hp'=>ZjU (ov Y) (ov Y) Y)<|Z6 17 _ Y (by kernel_rfl) Y Y (fun hp'=>Zc<|ov Y)<|Z6 18 _ Y (by kernel_rfl) Y Y (fun hp'=>Z7 (ov Y) ZcR tI5 Y)<|Dw 22 21 Y (Zv (ov Y) Y Y) (Zi (ov Y) (ov Y) (Zf tS5) Y Y Y (arB h_x5) (Zb Y)<|arS h_x5) ?_ ?_
  ·
   refine Do 21 Y (Zi (ov Y) (ov Y) (Zf tS5) Y Y Y (arB h_x5) (Zb Y)<|arS h_x5)<|bE h fun x6 h_x6 h=>Dq 23 Y (XV (ov Y) (ov Y) Zc7 Y Y h_x6)<|Do 24 Y (Zi (ov Y) (ov Y) (Zf tS5) Y Y Y (arB h_x6) (Zb Y)<|arS h_x6)<|Dd<|?_
   obtain rfl := rt h
   exact Zic [some 0] Y .nil (.cons Y (ro1 (by exact Eq.trans (b := 96) arL tZ_157.symm)<|rld<|arD fun _ => Y) .nil) Y Y<|X0 rln
  ·
   refine Dq 22 Y (Zv (ov Y) Y Y)<|bE h fun x6 h_x6 h=>Dq 23 Y (XV (ov Y) (ov Y) Zc7 Y Y h_x6)<|Do 24 Y (Zi (ov Y) (ov Y) (Zf tS5) Y Y Y (arB h_x6) (Zb Y)<|arS h_x6)<|Dd<|?_
   obtain rfl := rt h
   exact Zic [some 0] Y .nil (.cons Y (ro1 (by exact Eq.trans (b := 96) arL tZ_157.symm)<|rld<|arD fun _ => Y) .nil) Y Y<|X0 rln
theorem ZgP {p : Vector Int 96} {f : Vector Int 64} {r : (Vector Int 96)} (h : ZcS p f = some r) :
 GSpec Tryz.prog gl0 111 [.ptr 0 1 0 0, .rp (List.map C40 f.toList) 0] [some ⟨157, [(List.map C5 p.toList)]⟩] (.tuple []) [some ⟨157, [(List.map C5 r.toList)]⟩] := by
 unfold ZcS at h
 replace h := Z0 h
 refine QF (by kernel_rfl) Tryz.func111 Y Y<|?_
 intro w0 A W φ0
 refine Tr<|Rm Y<|Za<|Ze<|?_
 obtain ⟨r1, hl1, ho1⟩ := QI h
 refine L2 (fun o i=>⟨[(0, .ptr 0 1 0 0), (1, .rp (List.map C40 f.toList) 0), (5, .int .i64 i)], [some ⟨157, [(List.map C5 o.toList)]⟩]⟩) hl1 (ES [some 0]) fun n1 o i h=>?_
 unfold ZbM at h
 refine Tr<|R2 ZO Y<|Za<|Zg<|If h Y (fun h=>?_) fun h=>?_
 ·
  exact Zh<|Zg<|Ze<|K3 0 1 5 Y<|Tr<|Rm Y<|Ra Y<|Za<|K4 0 1 4 5 Y<|Zt<|Rm Y<|Rm Y<|Rm Y<|Rm Y<|R1 Zy Y<|bE h fun x h_x h=>Rq Y (QD (ov Y) (ov Y) XT h_x)<|Rq Y (Zd (ov Y) Zar<|Qi<|Q9 (o := 0) (o' := (i.toNat * 1)) (Zq arL)<|Xa h_x)<|bE h fun y h_y h=>Rx Y (ZF [0] (ZeG h_y) (.cons (ov Y) (.ptr _ _ _ Y)<|.cons (ov Y) (.dat Y)<|.cons (ov Y) (.dat Y) .nil) (.cons Y (ro1 (by exact Eq.trans (b := 96) arL tZ_157.symm)<|rld<|arD fun _ => Y) .nil) Y (.lent 0 (.inl Y) Y (ro1 (by exact Eq.trans (b := 96) arL tZ_157.symm)<|rld<|arD fun _ => Y) .nil) Y Y<|X0<|rld Y)<|Za<|K3 0 1 5 Y<|Zt<|R2 ZM Y<|Rm Y<|Za<|⟨_, h, ES [some 0]⟩
 ·
  refine ZE<|?_
  replace h := lx h ▸ ho1
  obtain rfl := rt h
  exact Zic [some 0] Y .nil (.cons Y (ro1 (by exact Eq.trans (b := 96) arL tZ_157.symm)<|rld<|arD fun _ => Y) .nil) Y Y<|X0 rln
theorem Zgu {f : Vector Int 64} {r : (List Int) × Int} (h : Zaf f = some r) :
 CSpec Tryz.prog gl0 70 [.agg (List.map C40 f.toList)] (.tuple [.sl 5 (List.map R5 r.1), .int .i64 r.2]) := by
 unfold Zaf at h
 replace h := Z0 h
 refine So Tryz.func70 Y fun w0 A=>Tr<|Rq Y (Zdb (cva<|ov Y) arL tZ_42<|arD fun _ => Y)<|Ra Y<|Ra Y<|Za<|Zg<|K1 1 Y<|Tr<|bE h fun y h_y h=>Rq Y (Zo (ZhN h_y)<|.cons (ov Y) (.b Y) .nil)<|Za<|If h Y (fun h=>?_) fun h=>?_
 ·
  refine K0<|Tr<|Ra Y<|Ra Y<|Za<|?_
  obtain rfl := rt h
  exact Zn (ZC Y (.two (.tmp Y<|View.nils 5)<|rb Y))
 ·
  refine Zh<|K1 1 Y<|Tr<|Rx Y (ZN (row := (List.map C5 (Vector.replicate 96 0).toList)) 0 Y ZlZ Y tZ_157)<|Za<|Tr<|bE h fun y2 h_y2 h=>Rx Y (ZF [0] (ZgP h_y2) (.cons (ov Y) (.ptr _ _ _ Y)<|.cons (ov Y) (.dat Y) .nil) (.cons Y (ro1 (by exact Eq.trans (b := 96) arL tZ_157.symm)<|rld<|arD fun _ => Y) .nil) Y (.lent 0 (.inl Y) Y (ro1 (by exact Eq.trans (b := 96) arL tZ_157.symm)<|rld<|arD fun _ => Y) .nil) Y Y<|X0<|rld Y)<|Za<|K1 4 Y<|Tr<|bE h fun l h_l h=>QG (Ent.sel [none] (sr 4 Y (.frp ⟨Y, ⟨_, Y⟩, Y, (arD fun _ => Y)⟩) sn) (.row 157 .nil) Y Y)<|Rq Y (Zjc (f := C5) (ov Y) Zc7 tZ_5 (Zq arL) Y on on h_l)<|Ra Y<|Ra Y<|Za<|?_
  obtain rfl := rt h
  exact Zn (ZC Y (.two (rb Y)<|rb Y))
theorem ZeU {s : List Int} {power : Int} {r : Int × Bool × (List Int)} (h : QM s power = some r) :
 GSpec Tryz.prog gl0 74 [.own 0 s.length, .int .i64 power] [some ⟨5, List.map R5 s⟩] (.tuple [.int .i64 r.1, .bool r.2.1]) [some ⟨5, List.map R5 r.2.2⟩] := by
 unfold QM at h
 replace h := Z0 h
 refine QF (by kernel_rfl) Tryz.func74 Y Y<|?_
 intro w0 A W φ0
 refine Tr<|Ra Y<|Ra Y<|Za<|K2 0 1 Y<|Tr<|Rm Y<|Ra Y<|Za<|Zg<|K3 0 1 6 Y<|Tr<|Rm Y<|R2 ZaJ Y<|Za<|K4 0 1 6 10 Y<|If h Y (fun h=>?_) fun h=>?_
 ·
  refine K3 0 1 6 Y<|Zt<|Rm Y<|Rm Y<|Rq Y (ZeD (ov Y) Y Y Z5)<|bE h fun q h_q h=>Rq Y (Zcc (ov Y) (ov Y) h_q)<|bE h fun u h_u h=>Rq Y (Zl0 (ov Y) Y Y Z5 on (oi<|ov Y) h_u)<|Ra Y<|Za<|I1 (fun o=>⟨[(1, .int .i64 power)], [some ⟨5, List.map R5 o⟩]⟩) h (fun h=>?_) fun o h=>?_
  ·
   refine K2 1 6 Y<|Tr<|Rm Y<|Rq Y (ZkZ (ov Y) Y (List.length_map ..) Z5)<|Rm Y<|Za<|Ze<|?_
   obtain ⟨r1, hl1, ho1⟩ := QI h
   refine L2 (fun o2 i=>⟨[(1, .int .i64 power), (6, .osl 0 o2.length (Int.toNat 0) (Int.toNat (q - 0))), (17, .int .i64 ((Int.toNat (q - 0) : Nat) : Int)), (18, .int .i64 i)], [some ⟨5, List.map R5 o2⟩]⟩) hl1 (ES [some 0]<|sd 1 Y Y<|sr 6 Y (.osl _ _ _ Y)<|sd 17 Y Y<|sd 18 Y Y sn) fun n1 o2 i h=>?_
   unfold Qm at h
   refine Tr<|R2 ZO Y<|Za<|Zg<|If h Y (fun h=>?_) fun h=>?_
   ·
    exact Zh<|Zg<|Ze<|K4 1 6 17 18 Y<|Tr<|Rm Y<|Ra Y<|Za<|K5 1 6 7 17 18 Y<|Zt<|Rm Y<|Rm Y<|bE h fun u2 h_u2 h=>bE h fun x2 h_x2 h=>Rq Y (ZkW (ov Y) (ov Y) Z5 Y Y (Zfv h_u).1 h_u2 h_x2)<|Rx Y (ZaM (u' := 255) (ov Y) (ov Y) (Zf tS5) Y Y h_x2 Y (Zb Y) Y)<|Za<|K4 1 6 17 18 Y<|Zt<|R2 ZM Y<|Rm Y<|Za<|⟨_, h, ES [some 0]<|sd 1 Y Y<|sr 6 Y (Znc (Eq.symm<|(List.length_set ..).trans Y) Y)<|sd 17 Y Y<|sd 18 Y Y sn⟩
   ·
    refine ZE<|?_
    replace h := lx h ▸ ho1
    exact ⟨_, h, ES [some 0]⟩
  ·
   refine Tr<|Rm Y<|R2 ZeV Y<|Rq Y (Zlj (ov Y) (ov Y) Y)<|Rm Y<|R2 ZcN Y<|Ra Y<|Ra Y<|Za<|?_
   obtain rfl := rt h
   exact Zn<|Zbd [some 0] Y (.cons (.tmp Y)<|.cons (.tmp Y) .nil) (.cons Y (roM D5) .nil) Y Y<|X0<|rlc (.dat Y)<|rlc (.dat Y) rln
 ·
  refine Zh<|I1 (fun o3=>⟨[(1, .int .i64 power)], [some ⟨5, List.map R5 o3⟩]⟩) h (fun h=>?_) fun o3 h=>?_
  ·
   refine K2 1 6 Y<|Tr<|Rm Y<|Rq Y (ZeD (ov Y) Y Y Z5)<|Rm Y<|Za<|Ze<|?_
   obtain ⟨r2, hl2, ho2⟩ := QI h
   refine L2 (fun o4 i2=>⟨[(1, .int .i64 power), (6, .own 0 o4.length), (17, .int .i64 (s.length : Int)), (18, .int .i64 i2)], [some ⟨5, List.map R5 o4⟩]⟩) hl2 (ES [some 0]) fun n2 o4 i2 h=>?_
   unfold Ql at h
   refine Tr<|R2 ZO Y<|Za<|Zg<|If h Y (fun h=>?_) fun h=>?_
   ·
    exact Zh<|Zg<|Ze<|K4 1 6 17 18 Y<|Tr<|Rm Y<|Ra Y<|Za<|K5 1 6 7 17 18 Y<|Zt<|Rm Y<|Rm Y<|bE h fun x3 h_x3 h=>Rq Y (XP (ov Y) (ov Y) Z5 Y Y h_x3)<|Rx Y (ZaM (u' := 255) (ov Y) (ov Y) (Zf tS5) Y Y h_x3 Y (Zb Y) Y)<|Za<|K4 1 6 17 18 Y<|Zt<|R2 ZM Y<|Rm Y<|Za<|⟨_, h, ES [some 0]<|sd 1 Y Y<|sr 6 Y (ZfY (Eq.symm<|(List.length_set ..).trans Y) Y)<|sd 17 Y Y<|sd 18 Y Y sn⟩
   ·
    refine ZE<|?_
    replace h := lx h ▸ ho2
    exact ⟨_, h, ES [some 0]⟩
  ·
   refine Tr<|Rm Y<|R2 ZeV Y<|Rq Y (Zlj (ov Y) (ov Y) Y)<|Rm Y<|R2 ZcN Y<|Ra Y<|Ra Y<|Za<|?_
   obtain rfl := rt h
   exact Zn<|Zbd [some 0] Y (.cons (.tmp Y)<|.cons (.tmp Y) .nil) (.cons Y (roM D5) .nil) Y Y<|X0<|rlc (.dat Y)<|rlc (.dat Y) rln
theorem Zdo {s : List Int} {at_ : Int} {data : List Int} {power : Int} {r : Int × Bool × (List Int)} (h : Q7 s at_ data power = some r) :
 GSpec Tryz.prog gl0 72 [.own 0 s.length, .int .i64 at_, .sl 5 (List.map R5 data), .int .i64 power] [some ⟨5, List.map R5 s⟩] (.tuple [.int .i64 r.1, .bool r.2.1]) [some ⟨5, List.map R5 r.2.2⟩] := by
 unfold Q7 at h
 replace h := Z0 h
 refine QF (by kernel_rfl) Tryz.func72 Y Y<|?_
 intro w0 A W φ0
 refine Tr<|Ra Y<|Ra Y<|Za<|J2 (fun j => (.inr j)) (fun o power2=>⟨[(3, .int .i64 power2)], [some ⟨5, List.map R5 o⟩]⟩) h (fun h=>?_) fun o power2 h=>?_
 ·
  refine K4 0 1 2 3 Y<|Tr<|Rm Y<|Rl tZ_5 Z5 Y<|Rm Y<|Za<|Ze<|?_
  obtain ⟨r1, hl1, ho1⟩ := QI h
  refine L3 (fun o2 power3 i=>⟨[(0, .own 0 o2.length), (1, .int .i64 at_), (3, .int .i64 power3), (12, .sl 5 (List.map R5 data)), (13, .int .i64 (data.length : Int)), (14, .int .i64 i)], [some ⟨5, List.map R5 o2⟩]⟩) hl1 (ES [some 0]) fun n1 o2 power3 i h=>?_
  unfold QH at h
  refine Tr<|R2 ZO Y<|Za<|Zg<|If h Y (fun h=>?_) fun h=>?_
  ·
   refine Zh<|Zg<|Ze<|K6 0 1 3 12 13 14 Y<|Tr<|Rm Y<|bE h fun x h_x h=>Rq Y (ZQ (ov Y) (ov Y) Z5 h_x)<|Rq Y (Zd (ov Y) tS5 Y)<|Ra Y<|Ra Y<|Za<|Zg<|K8 0 1 3 10 11 12 13 14 Y<|Tr<|Rm Y<|R2 ZaJ Y<|Za<|K9 0 1 3 10 11 12 13 14 20 Y<|If h Y (fun h=>?_) fun h=>?_
   ·
    refine K4 0 1 10 11 Y<|Tr<|Rm Y<|Rm Y<|Rm Y<|R2 ZM Y<|bE h fun x2 h_x2 h=>Rq Y (XP (ov Y) (ov Y) Z5 Y Y h_x2)<|Rq Y (XQ (ov Y) Y Y h_x2 tS5 Y)<|Rm Y<|R2 Ze5 Y<|R2 Zau Y<|bE h fun x3 h_x3 h=>Rq Y (XP (ov Y) (ov Y) Z5 Y Y h_x3)<|Rx Y (ZaM (u' := (Q6 .u8 x2 (bor .u8 x 15))) (ov Y) (ov Y) (Zf tS5) Y Y h_x3 Y (Zb Y) Y)<|Za<|K0<|Tr<|Ra Y<|Ra Y<|Za<|?_
    replace h := lx h ▸ ho1
    obtain rfl := rt h
    exact Zn<|Zbd [some 0] Y (.cons (.tmp Y)<|.cons (.tmp Y) .nil) (.cons Y (roM D5) .nil) Y Y<|X0<|rlc (.dat Y)<|rlc (.dat Y) rln
   ·
    exact Zh<|K8 0 1 3 10 11 12 13 14 Y<|Tr<|Rm Y<|Rm Y<|Rm Y<|R2 ZM Y<|bE h fun x4 h_x4 h=>Rq Y (XP (ov Y) (ov Y) Z5 Y Y h_x4)<|Rq Y (XQ (ov Y) Y Y h_x4 tS5 Y)<|Rm Y<|R2 Zau Y<|bE h fun x5 h_x5 h=>Rq Y (XP (ov Y) (ov Y) Z5 Y Y h_x5)<|Rx Y (ZaM (u' := (Q6 .u8 x4 x)) (ov Y) (ov Y) (Zf tS5) Y Y h_x5 Y (Zb Y) Y)<|Za<|K6 0 1 3 12 13 14 Y<|Zt<|Rm Y<|R2 ZeV Y<|Ra Y<|Za<|K6 0 1 3 12 13 14 Y<|Zt<|R2 ZM Y<|Rm Y<|Za<|⟨_, h, ES [some 0]<|sr 0 Y (ZfY (Eq.symm<|(List.length_set ..).trans Y) Y)<|sd 1 Y Y<|sd 3 Y Y<|sd 12 Y Y<|sd 13 Y Y<|sd 14 Y Y sn⟩
  ·
   refine ZE<|?_
   replace h := lx h ▸ ho1
   exact ⟨_, h, ES [some 0]⟩
 ·
  replace h := elr h
  replace h := t2i h
  refine Tr<|Rm Y<|Ra Y<|Ra Y<|Za<|?_
  obtain rfl := rt h
  exact Zn<|Zbd [some 0] Y (.cons (.tmp Y)<|.cons (.tmp Y) .nil) (.cons Y (roM D5) .nil) Y Y<|X0<|rlc (.dat Y)<|rlc (.dat Y) rln
theorem Zcr {b : ring_Recorder} {k : Int} {power : Int} {r : Int × Bool × ring_Recorder} (h : Xy b k power = some r) :
 GSpec Tryz.prog gl0 112 [.ptr 0 1 0 0, .int .i64 k, .int .i64 power] [some ⟨102, [[.own 1 b.bank.memories.length, .own 2 b.bank.spots.length, .int .i64 b.copies, .bool b.frozen, .bool b.stopped, .int .i64 b.last, .bool b.some_]]⟩, some ⟨26, List.map O26 b.bank.memories⟩, some ⟨105, List.map R105 b.bank.spots⟩] (.tuple [.int .i64 r.1, .bool r.2.1]) [some ⟨102, [[.own 3 r.2.2.bank.memories.length, .own 4 r.2.2.bank.spots.length, .int .i64 r.2.2.copies, .bool r.2.2.frozen, .bool r.2.2.stopped, .int .i64 r.2.2.last, .bool r.2.2.some_]]⟩, none, none, some ⟨26, List.map O26 r.2.2.bank.memories⟩, some ⟨105, List.map R105 r.2.2.bank.spots⟩] := by
 unfold Xy at h
 replace h := Z0 h
 refine QF (by kernel_rfl) Tryz.func112 Y Y<|?_
 intro w0 A W φ0
 refine Ze6 (Ent.sel [some 0, some 1, some 2, some 1, some 2] (sr 0 Y (.ptr (r' := 0) _ _ _ Y)<|sd 1 Y Y<|sd 2 Y Y sn) (.cons Y (ro1 (by exact tZ_102.symm)<|rlc (.own (r' := 3) _ Y)<|rlc (.own (r' := 4) _ Y)<|rlc (.dat Y)<|rlc (.dat Y)<|rlc (.dat Y)<|rlc (.dat Y)<|rlc (.dat Y) rln)<|.dead<|.dead<|.cons Y (roO Xo)<|.cons Y (roM D105) .nil) Y Y)<|QQ [some ⟨102, [[.own 3 b.bank.memories.length, .own 4 b.bank.spots.length, .int .i64 b.copies, .bool b.frozen, .bool b.stopped, .int .i64 b.last, .bool b.some_]]⟩, none, none, some ⟨26, List.map O26 b.bank.memories⟩, some ⟨105, List.map R105 b.bank.spots⟩] Y<|Tr<|Ra Y<|Ra Y<|Za<|Zg<|K3 0 1 2 Y<|Qp (cw := md0) (by kernel_rfl)<|D1 0 Zc Y<|Dq 1 Y (Zv (ov Y) Y Y)<|Dq 2 Y (Zk (ov Y) Y Y Zco)<|Dq 3 Y (Zu (ov Y) Y Y Y ZiB Y)<|D1 4 Zc Y<|bE h fun x h_x h=>Dq 5 Y (XP (ov Y) (ov Y) ZcF Y Y h_x)<|D1 6 Zc Y<|D1 7 Zc Y<|bE h fun y h_y h=>Dq 8 Y (Zcn (ZaS h_y) .int<|.cons (ov Y) (View.ptrS (j := 0) (k := 2) Y Y Y (Nat.le_of_ble_eq_true Y)<|.cons (View.ownO Y Y Xo (fun x=>(D26 x).1) Zjv)<|.cons (View.ownM Y Y D105) .nil)<|.cons (ov Y) (Dat.view<|.b Y) .nil)<|D1 9 Z8 Y<|D1 10 Z8 Y<|Dd<|K5 0 1 2 8 9 Y<|Tr<|Rm Y<|Rm Y<|Rm Y<|bE h fun y2 h_y2 h=>Rq Y (Zcn (Zbn h_y2) .int<|.cons (ov Y) (View.ptrS (j := 0) (k := 2) Y Y Y (Nat.le_of_ble_eq_true Y)<|.cons (View.ownO Y Y Xo (fun x=>(D26 x).1) Zjv)<|.cons (View.ownM Y Y D105) .nil)<|.cons (ov Y) (Dat.view<|.b Y)<|.cons (ov Y) (Dat.view<|.b Y) .nil)<|Ra Y<|Za<|K6 0 1 2 8 9 10 Y<|Tr<|Rm Y<|Rq Y (Zv (ov Y) Y<|List.length_map ..)<|Rq Y (ZcA (ov Y) Y Y Ze7)<|QG (Ent.focusH (r := 3) (j := 3) (e' := 3) (g := R3) (ys := x.Wear) Y (Zw h_x).2 Y DR3)<|Rq Y (ZbU (ov Y) Y Y (Zw h_x).2 Zjm Y)<|Rm Y<|bE h fun x2 h_x2 h=>Rq Y (XP (ov Y) (ov Y) Q3 Y Y h_x2)<|Rq Y (XQ (ov Y) Y Y h_x2 tS3 Y)<|R2 ZM Y<|bE h fun x3 h_x3 h=>Rq Y (XP (ov Y) (ov Y) Q3 Y Y h_x3)<|Rx Y (ZaM (u' := (i64 (x2 + 1))) (ov Y) (ov Y) (Zf tS3) Y Y h_x3 Y (Zb Y) Y)<|ZeC [some ⟨102, [[.own 3 b.bank.memories.length, .own 4 b.bank.spots.length, .int .i64 b.copies, .bool b.frozen, .bool b.stopped, .int .i64 b.last, .bool b.some_]]⟩, none, none, some ⟨26, List.set (List.map O26 b.bank.memories) k.toNat [.int .i64 x.Slots, .int .i64 x.Limit, .osub 49 (List.map O49 x.Sectors), .own 5 x.Wear.length, .osub 4 (List.map R4 x.Bad)]⟩, some ⟨105, List.map R105 b.bank.spots⟩, some ⟨3, List.map R3 (x.Wear.set y.toNat (i64 (x2 + 1)))⟩] Y<|?_
 have h_x4 := XB (y := (api_Memory.mk x.Slots x.Limit x.Sectors (x.Wear.set y.toNat (i64 (x2 + 1))) x.Bad)) h_x
 have h_x5 := XB (y := (api_Memory.mk x.Slots x.Limit x.Sectors (x.Wear.set y.toNat (i64 (x2 + 1))) x.Bad)) h_x
 have h_x6 := XB (y := (api_Memory.mk x.Slots x.Limit x.Sectors (x.Wear.set y.toNat (i64 (x2 + 1))) x.Bad)) h_x
 have h_x7 := XB (y := (api_Memory.mk x.Slots x.Limit x.Sectors (x.Wear.set y.toNat (i64 (x2 + 1))) x.Bad)) h_x
 refine QG (Ent.absorbH (r := 3) (j := 3) (q := 5) Y (Zw h_x).2 Y Y ((List.length_map ..).trans<|(List.length_set ..).trans Y) Y)<|QG (Ent.closeH (r := 3) (y := (api_Memory.mk x.Slots x.Limit x.Sectors (x.Wear.set y.toNat (i64 (x2 + 1))) x.Bad)) Y Y)<|Za<|K6 0 1 2 8 9 10 Y<|QQ [some ⟨102, [[.own 3 b.bank.memories.length, .own 4 b.bank.spots.length, .int .i64 b.copies, .bool b.frozen, .bool b.stopped, .int .i64 b.last, .bool b.some_]]⟩, none, none, some ⟨26, List.map O26 (b.bank.memories.set k.toNat (api_Memory.mk x.Slots x.Limit x.Sectors (x.Wear.set y.toNat (i64 (x2 + 1))) x.Bad))⟩, some ⟨105, List.map R105 b.bank.spots⟩, none] Y<|Tr<|Rm Y<|Rq Y (Zv (ov Y) Y<|(List.length_map ..).trans<|(List.length_set ..).trans Y)<|Rq Y (ZcA (ov Y) Y ((List.length_set ..).trans Y) ZG)<|QG (Ent.focusH (r := 3) (j := 2) (e' := 49) (g := O49) (ys := x.Sectors) Y (Zw h_x4).2 Y Xn)<|Rq Y (ZbU (ov Y) Y ((List.length_set ..).trans Y) (Zw h_x4).2 Qd Y)<|Rm Y<|bE h fun x8 h_x8 h=>Rq Y (XP (ov Y) (ov Y) Z1 Y Y h_x8)<|QG (Ent.focusH (r := 6) (j := 0) (e' := 5) (g := R5) (ys := x8) Y (Zw h_x8).2 Y DR5)<|Rq Y (ZbU (ov Y) Y Y (Zw h_x8).2 ZgW Y)<|Rm Y<|bE h fun y3 h_y3 h=>Rx Y (ZF [7] (ZeU h_y3) (.cons (ov Y) (.own _ Y)<|.cons (ov Y) (.dat Y) .nil) (.cons Y (roM D5) .nil) Y (.keep Y Y<|.none<|.none<|.keep Y Y<|.keep Y Y<|.none<|.keep Y Y<|.lent 0 (.inl Y) Y (roM D5) .nil) Y Y<|X0<|rld Y)<|Rm Y<|Rq Y (Zl (ov Y) Y)<|Rq Y (Zl (ov Y) Y)<|Ra Y<|Ra Y<|ZeC [some ⟨102, [[.own 3 b.bank.memories.length, .own 4 b.bank.spots.length, .int .i64 b.copies, .bool b.frozen, .bool b.stopped, .int .i64 b.last, .bool b.some_]]⟩, none, none, some ⟨26, List.set (List.map O26 (b.bank.memories.set k.toNat (api_Memory.mk x.Slots x.Limit x.Sectors (x.Wear.set y.toNat (i64 (x2 + 1))) x.Bad))) k.toNat [.int .i64 x.Slots, .int .i64 x.Limit, .own 6 x.Sectors.length, .osub 3 (List.map R3 (x.Wear.set y.toNat (i64 (x2 + 1)))), .osub 4 (List.map R4 x.Bad)]⟩, some ⟨105, List.map R105 b.bank.spots⟩, none, some ⟨49, List.set (List.map O49 x.Sectors) y.toNat [.own 7 x8.length]⟩, some ⟨5, List.map R5 y3.2.2⟩] Y<|?_
 have h_x9 := XB (y := y3.2.2) h_x8
 have h_x10 := XB (y := (api_Memory.mk x.Slots x.Limit (x.Sectors.set y.toNat y3.2.2) (x.Wear.set y.toNat (i64 (x2 + 1))) x.Bad)) h_x4
 have h_x11 := XB (y := (api_Memory.mk x.Slots x.Limit (x.Sectors.set y.toNat y3.2.2) (x.Wear.set y.toNat (i64 (x2 + 1))) x.Bad)) h_x4
 have h_x12 := XB (y := (api_Memory.mk x.Slots x.Limit (x.Sectors.set y.toNat y3.2.2) (x.Wear.set y.toNat (i64 (x2 + 1))) x.Bad)) h_x4
 have h_x13 := XB (y := (api_Memory.mk x.Slots x.Limit (x.Sectors.set y.toNat y3.2.2) (x.Wear.set y.toNat (i64 (x2 + 1))) x.Bad)) h_x4
 refine QG (Ent.absorbH (r := 6) (j := 0) (q := 7) Y (Zw h_x8).2 Y Y ((List.length_map ..).trans<|Ze1 h_y3) Y)<|QG (Ent.closeH (r := 6) (y := y3.2.2) Y Y)<|QG (Ent.absorbH (r := 3) (j := 2) (q := 6) Y (Zw h_x4).2 Y Y ((List.length_map ..).trans<|(List.length_set ..).trans Y) Y)<|QG (Ent.closeH (r := 3) (y := (api_Memory.mk x.Slots x.Limit (x.Sectors.set y.toNat y3.2.2) (x.Wear.set y.toNat (i64 (x2 + 1))) x.Bad)) Y Y)<|Za<|Zg<|K7 0 1 2 8 9 10 11 Y<|QQ [some ⟨102, [[.own 3 b.bank.memories.length, .own 4 b.bank.spots.length, .int .i64 b.copies, .bool b.frozen, .bool b.stopped, .int .i64 b.last, .bool b.some_]]⟩, none, none, some ⟨26, List.map O26 ((b.bank.memories.set k.toNat (api_Memory.mk x.Slots x.Limit x.Sectors (x.Wear.set y.toNat (i64 (x2 + 1))) x.Bad)).set k.toNat (api_Memory.mk x.Slots x.Limit (x.Sectors.set y.toNat y3.2.2) (x.Wear.set y.toNat (i64 (x2 + 1))) x.Bad))⟩, some ⟨105, List.map R105 b.bank.spots⟩, none, none, none] Y<|Tr<|Rm Y<|R1 X2 Y<|Za<|K7 0 1 2 8 9 10 47 Y<|If h Y (fun h=>?_) fun h=>?_
 ·
  refine K1 2 Y<|Tr<|Rm Y<|Ra Y<|Ra Y<|Za<|?_
  obtain rfl := rt h
  exact Zn<|Zbd [some 0, some 1, some 2, some 3, some 4] Y (.cons (.tmp Y)<|.cons (.tmp Y) .nil) (.cons Y (ro1 (by exact tZ_102.symm)<|rlc (ZfY (Eq.symm<|(List.length_set ..).trans<|(List.length_set ..).trans Y) Y)<|rlc (.own _ Y)<|rlc (.dat Y)<|rlc (.dat Y)<|rlc (.dat Y)<|rlc (.dat Y)<|rlc (.dat Y) rln)<|.dead<|.dead<|.cons Y (roO Xo)<|.cons Y (roM D105) .nil) Y Y<|X0<|rlc (.dat Y)<|rlc (.dat Y) rln
 ·
  refine Zh<|I4 (fun memories spots power2 all=>⟨[(2, .int .i64 power2), (11, .bool all)], [some ⟨102, [[.own 3 memories.length, .own 4 spots.length, .int .i64 b.copies, .bool b.frozen, .bool b.stopped, .int .i64 b.last, .bool b.some_]]⟩, none, none, some ⟨26, List.map O26 memories⟩, some ⟨105, List.map R105 spots⟩]⟩) h (fun h=>?_) fun memories spots power2 all h=>?_
  ·
   refine Zg<|K6 0 1 2 8 9 10 Y<|bE h fun x14 h_x14 h=>Ze6 (Ent.focusH (r := 3) (j := 2) (e' := 49) (g := O49) (ys := x14.Sectors) Y (Zw h_x14).2 Y Xn)<|bE h fun x15 h_x15 h=>Ze6 (Ent.focusH (r := 8) (j := 0) (e' := 5) (g := R5) (ys := x15) Y (Zw h_x15).2 Y DR5)<|Qp (cw := ⟨true, true, [some ⟨102, [[.own 3 b.bank.memories.length, .own 4 b.bank.spots.length, .int .i64 b.copies, .bool b.frozen, .bool b.stopped, .int .i64 b.last, .bool b.some_]]⟩, none, none, some ⟨26, List.set (List.map O26 ((b.bank.memories.set k.toNat (api_Memory.mk x.Slots x.Limit x.Sectors (x.Wear.set y.toNat (i64 (x2 + 1))) x.Bad)).set k.toNat (api_Memory.mk x.Slots x.Limit (x.Sectors.set y.toNat y3.2.2) (x.Wear.set y.toNat (i64 (x2 + 1))) x.Bad))) k.toNat [.int .i64 x14.Slots, .int .i64 x14.Limit, .own 8 x14.Sectors.length, .osub 3 (List.map R3 x14.Wear), .osub 4 (List.map R4 x14.Bad)]⟩, some ⟨105, List.map R105 b.bank.spots⟩, none, none, none, some ⟨49, List.set (List.map O49 x14.Sectors) y.toNat [.own 9 x15.length]⟩, some ⟨5, List.map R5 x15⟩], [], [9]⟩) (by kernel_rfl)<|D1 7 Zc Y<|Z6 0 _ Y (by kernel_rfl) Y Y (fun hp'=>Zc<|ov Y)<|Xq 1 _ Y (by kernel_rfl) Y Y Y (EL.ext<|.keep<|.keep<|.keep<|.keep<|.keep<|.keep<|.keep<|.keep<|.keep<|.wr Y Y Y .nil) (fun hp' hx=>Zv (ov Y) (hx.get Y Y)<|((List.length_set ..).trans (List.length_map ..)).trans<|(List.length_set ..).trans<|(List.length_set ..).trans Y)<|Xq 2 _ Y (by kernel_rfl) Y Y Y (EL.ext<|.keep<|.keep<|.keep<|.keep<|.keep<|.keep<|.keep<|.keep<|.keep<|.wr Y Y Y .nil) (fun hp' hx=>Zh5 (ov Y) (hx.get Y Y) ((List.length_set ..).trans<|(List.length_set ..).trans Y) ZG)<|Xq 3 _ Y (by kernel_rfl) Y Y Y (EL.ext<|.keep<|.keep<|.keep<|.keep<|.keep<|.keep<|.keep<|.keep<|.keep<|.wr Y Y Y .nil) (fun hp' hx=>ZbU (ov Y) (hx.get Y Y) ((List.length_set ..).trans<|(List.length_set ..).trans Y) (Zw h_x14).2 Qd Y)<|Z6 4 _ Y (by kernel_rfl) Y Y (fun hp'=>Zc<|ov Y)<|bE h fun x16 h_x16 h=>Xq 5 _ Y (by kernel_rfl) Y Y Y (EL.ext<|.keep<|.keep<|.keep<|.keep<|.keep<|.keep<|.keep<|.keep<|.keep<|.wr Y Y Y .nil) (fun hp' hx=>Zjq (ov Y) (ov Y) Z1 (hx.get Y Y) Y h_x16)<|Xq 6 _ Y (by kernel_rfl) Y Y Y (EL.ext<|.keep<|.keep<|.keep<|.keep<|.keep<|.keep<|.keep<|.keep<|.keep<|.wr Y Y Y .nil) (fun hp' hx=>ZbU (ov Y) (hx.get Y Y) Y (Zw h_x15).2 ZgW Y)<|Z6 9 _ Y (by kernel_rfl) Y Y (fun hp'=>Zc<|ov Y)<|bE h fun y4 h_y4 h=>Jt 8 _ _ Y (by kernel_rfl) Y Y (fun h=>by cases h) (fun _=>by exact EL.ext (.keep <| .keep <| .keep <| .keep <| .keep <| .keep <| .keep <| .keep <| .keep <| .wr rfl rfl rfl <| .nil)) (XG<|Zo (Zey h_y4)<|.cons (ov Y) (.b Y) .nil)<|bE h fun y5 h_y5 h=>Jt 10 _ _ Y (by kernel_rfl) Y Y (fun h=>by cases h) (fun _=>by exact EL.ext (.keep <| .keep <| .keep <| .keep <| .keep <| .keep <| .keep <| .keep <| .keep <| .wr rfl rfl ((List.length_map ..).trans (Eq.trans (JT h_y5) (Eq.symm ((List.length_map ..).trans rfl)))) <| .nil)) (ZF [9] (Zdo h_y5) (.cons (ov Y) (.own _ Y)<|.cons (ov Y) (.dat Y)<|.cons (ov Y) (.dat Y)<|.cons (ov Y) (.dat Y) .nil) (.cons Y (roM D5) .nil) Y (.keep Y Y<|.none<|.none<|.keep Y Y<|.keep Y Y<|.none<|.none<|.none<|.keep Y Y<|.lent 0 (.inl Y) Y (roM D5) .nil) Y Y<|X0<|rld Y)<|D1 11 Zc Y<|Dq 12 Y (Zl (ov Y) Y)<|Dq 13 Y (Zl (ov Y) Y)<|D1 14 Z8 Y<|D1 15 Z8 Y<|?_
   have h_x17 := XB (y := y5.2.2) h_x16
   have h_x18 := XB (y := (api_Memory.mk x14.Slots x14.Limit (x14.Sectors.set y.toNat y5.2.2) x14.Wear x14.Bad)) h_x10
   have h_x19 := XB (y := (api_Memory.mk x14.Slots x14.Limit (x14.Sectors.set y.toNat y5.2.2) x14.Wear x14.Bad)) h_x10
   have h_x20 := XB (y := (api_Memory.mk x14.Slots x14.Limit (x14.Sectors.set y.toNat y5.2.2) x14.Wear x14.Bad)) h_x10
   have h_x21 := XB (y := (api_Memory.mk x14.Slots x14.Limit (x14.Sectors.set y.toNat y5.2.2) x14.Wear x14.Bad)) h_x10
   refine ZZ (by kernel_rfl) (Ent.trans (Ent.absorbH (r := 8) (j := 0) (q := 9) Y (Zw h_x15).2 Y Y ((List.length_map ..).trans<|JT h_y5) Y)<|Ent.trans (Ent.closeH (r := 8) (y := y5.2.2) Y Y)<|Ent.trans (Ent.absorbH (r := 3) (j := 2) (q := 8) Y (Zw h_x14).2 Y Y ((List.length_map ..).trans<|(List.length_set ..).trans Y) Y)<|Ent.closeH (r := 3) (y := (api_Memory.mk x14.Slots x14.Limit (x14.Sectors.set y.toNat y5.2.2) x14.Wear x14.Bad)) Y Y)<|K5 0 1 2 9 11 Y<|QQ [some ⟨102, [[.own 3 b.bank.memories.length, .own 4 b.bank.spots.length, .int .i64 b.copies, .bool b.frozen, .bool b.stopped, .int .i64 b.last, .bool b.some_]]⟩, none, none, some ⟨26, List.map O26 (((b.bank.memories.set k.toNat (api_Memory.mk x.Slots x.Limit x.Sectors (x.Wear.set y.toNat (i64 (x2 + 1))) x.Bad)).set k.toNat (api_Memory.mk x.Slots x.Limit (x.Sectors.set y.toNat y3.2.2) (x.Wear.set y.toNat (i64 (x2 + 1))) x.Bad)).set k.toNat (api_Memory.mk x14.Slots x14.Limit (x14.Sectors.set y.toNat y5.2.2) x14.Wear x14.Bad))⟩, some ⟨105, List.map R105 b.bank.spots⟩, none, none, none, none, none] Y<|Tr<|Rm Y<|Za<|If h Y (fun h=>?_) fun h=>?_
   ·
    exact K5 0 1 2 9 11 Y<|Zt<|Rm Y<|Rq Y (Zv (ov Y) Y Y)<|Rq Y (Zk (ov Y) Y Y ZdP)<|Rq Y (Zu (ov Y) Y Y Y Zjz Y)<|Rm Y<|Rm Y<|Rq Y (Xw (ys := [_, _]) ZjD ZjB Zif (.cons (cvs (ov Y)<|Zm Y) .nil) Y)<|bE h fun x22 h_x22 h=>Rq Y (XP (ov Y) (ov Y) Zjp Y Y h_x22)<|Rx Y (ZaM (u' := (ring_spot.mk y 0)) (ov Y) (ov Y) (Zs ZfL Y) Y Y h_x22 Y (Zb Y) Y)<|Za<|⟨_, h, ES [some 0, some 1, some 2, some 3, some 4] (hhp := .cons Y (ro1 (by exact tZ_102.symm)<|rlc (ZfY (Eq.symm<|(List.length_set ..).trans<|(List.length_set ..).trans<|(List.length_set ..).trans Y) Y)<|rlc (ZfY (Eq.symm<|(List.length_set ..).trans Y) Y)<|rlc (.dat Y)<|rlc (.dat Y)<|rlc (.dat Y)<|rlc (.dat Y)<|rlc (.dat Y) rln)<|.dead<|.dead<|.cons Y (roO Xo)<|.cons Y (roM D105) .nil)⟩
   ·
    exact Zh<|⟨_, h, ES [some 0, some 1, some 2, some 3, some 4] (hhp := .cons Y (ro1 (by exact tZ_102.symm)<|rlc (ZfY (Eq.symm<|(List.length_set ..).trans<|(List.length_set ..).trans<|(List.length_set ..).trans Y) Y)<|rlc (.own _ Y)<|rlc (.dat Y)<|rlc (.dat Y)<|rlc (.dat Y)<|rlc (.dat Y)<|rlc (.dat Y) rln)<|.dead<|.dead<|.cons Y (roO Xo)<|.cons Y (roM D105) .nil)⟩
  ·
   refine Tr<|Rm Y<|Rm Y<|Ra Y<|Ra Y<|Za<|?_
   obtain rfl := rt h
   exact Zn<|Zbd [some 0, some 1, some 2, some 3, some 4] Y (.cons (.tmp Y)<|.cons (.tmp Y) .nil) (.cons Y (ro1 (by exact tZ_102.symm)<|rlc (.own _ Y)<|rlc (.own _ Y)<|rlc (.dat Y)<|rlc (.dat Y)<|rlc (.dat Y)<|rlc (.dat Y)<|rlc (.dat Y) rln)<|.dead<|.dead<|.cons Y (roO Xo)<|.cons Y (roM D105) .nil) Y Y<|X0<|rlc (.dat Y)<|rlc (.dat Y) rln
theorem Zcp {b : ring_Recorder} {k : Int} {data : List Int} {power : Int} {r : Int × Bool × ring_Recorder} (h : Jh b k data power = some r) :
 GSpec Tryz.prog gl0 71 [.ptr 0 1 0 0, .int .i64 k, .slf 5 (List.map R5 data), .int .i64 power] [some ⟨102, [[.own 1 b.bank.memories.length, .own 2 b.bank.spots.length, .int .i64 b.copies, .bool b.frozen, .bool b.stopped, .int .i64 b.last, .bool b.some_]]⟩, some ⟨26, List.map O26 b.bank.memories⟩, some ⟨105, List.map R105 b.bank.spots⟩] (.tuple [.int .i64 r.1, .bool r.2.1]) [some ⟨102, [[.own 3 r.2.2.bank.memories.length, .own 4 r.2.2.bank.spots.length, .int .i64 r.2.2.copies, .bool r.2.2.frozen, .bool r.2.2.stopped, .int .i64 r.2.2.last, .bool r.2.2.some_]]⟩, none, none, some ⟨26, List.map O26 r.2.2.bank.memories⟩, some ⟨105, List.map R105 r.2.2.bank.spots⟩] := by
 unfold Jh at h
 replace h := Z0 h
 refine QF (by kernel_rfl) Tryz.func71 Y Y<|?_
 intro w0 A W φ0
 refine Ze6 (Ent.sel [some 0, some 1, some 2, some 1, some 2] (sr 0 Y (.ptr (r' := 0) _ _ _ Y)<|sd 1 Y Y<|sd 2 Y Y<|sd 3 Y Y sn) (.cons Y (ro1 (by exact tZ_102.symm)<|rlc (.own (r' := 3) _ Y)<|rlc (.own (r' := 4) _ Y)<|rlc (.dat Y)<|rlc (.dat Y)<|rlc (.dat Y)<|rlc (.dat Y)<|rlc (.dat Y) rln)<|.dead<|.dead<|.cons Y (roO Xo)<|.cons Y (roM D105) .nil) Y Y)<|QQ [some ⟨102, [[.own 3 b.bank.memories.length, .own 4 b.bank.spots.length, .int .i64 b.copies, .bool b.frozen, .bool b.stopped, .int .i64 b.last, .bool b.some_]]⟩, none, none, some ⟨26, List.map O26 b.bank.memories⟩, some ⟨105, List.map R105 b.bank.spots⟩] Y<|Tr<|Ra Y<|Ra Y<|Za<|J8 (fun j => (.inr j)) (fun memories spots copies frozen stopped last some_ power2=>⟨[(0, .ptr 0 1 0 0), (1, .int .i64 k), (2, .slf 5 (List.map R5 data)), (3, .int .i64 power2)], [some ⟨102, [[.own 3 memories.length, .own 4 spots.length, .int .i64 copies, .bool frozen, .bool stopped, .int .i64 last, .bool some_]]⟩, none, none, some ⟨26, List.map O26 memories⟩, some ⟨105, List.map R105 spots⟩]⟩) h (fun h=>?_) fun memories spots copies frozen stopped last some_ power2 h=>?_
 ·
  refine K4 0 1 2 3 Y<|Tr<|Rm Y<|Rm Y<|bE h fun y h_y h=>Rq Y (Zcn (J5 h_y) .bool<|.cons (ov Y) (View.ptrS (j := 0) (k := 2) Y Y Y (Nat.le_of_ble_eq_true Y)<|.cons (View.ownO Y Y Xo (fun x=>(D26 x).1) Zjv)<|.cons (View.ownM Y Y D105) .nil)<|.cons (ov Y) (Dat.view<|.b Y) .nil)<|Za<|K5 0 1 2 3 15 Y<|If h Y (fun h=>?_) fun h=>?_
  ·
   refine K4 0 1 2 3 Y<|Tr<|Ra Y<|Za<|Tr<|Rm Y<|Rm Y<|Rm Y<|bE h fun y2 h_y2 h=>Rx Y (ZF [0, 3, 4] (Zcr h_y2) (.cons (ov Y) (.ptr _ _ _ Y)<|.cons (ov Y) (.dat Y)<|.cons (ov Y) (.dat Y) .nil) (.cons Y (ro1 (by exact tZ_102.symm)<|rlc (.own _ Y)<|rlc (.own _ Y)<|rlc (.dat Y)<|rlc (.dat Y)<|rlc (.dat Y)<|rlc (.dat Y)<|rlc (.dat Y) rln)<|.cons Y (roO Xo)<|.cons Y (roM D105) .nil) Y (.lent 0 (.inl Y) Y (ro1 (by exact tZ_102.symm)<|rlc (.own _<|.inr ⟨Nat.le_of_ble_eq_true Y, Y⟩)<|rlc (.own _<|.inr ⟨Nat.le_of_ble_eq_true Y, Y⟩)<|rlc (.dat Y)<|rlc (.dat Y)<|rlc (.dat Y)<|rlc (.dat Y)<|rlc (.dat Y) rln)<|.none<|.none<|.none<|.none<|.lent 3 (.inr ⟨Nat.le_of_ble_eq_true Y, Y⟩) Y (roO Xo)<|.lent 4 (.inr ⟨Nat.le_of_ble_eq_true Y, Y⟩) Y (roM D105) .nil) Y Y<|X0<|rld Y)<|Rm Y<|Rq Y (Zl (ov Y) Y)<|Rq Y (Zl (ov Y) Y)<|Ra Y<|Ra Y<|Za<|K5 0 1 2 3 10 Y<|QQ [some ⟨102, [[.own 5 y2.2.2.bank.memories.length, .own 6 y2.2.2.bank.spots.length, .int .i64 y2.2.2.copies, .bool y2.2.2.frozen, .bool y2.2.2.stopped, .int .i64 y2.2.2.last, .bool y2.2.2.some_]]⟩, none, none, none, none, some ⟨26, List.map O26 y2.2.2.bank.memories⟩, some ⟨105, List.map R105 y2.2.2.bank.spots⟩] Y<|Tr<|Rm Y<|R1 X2 Y<|Za<|K5 0 1 2 3 24 Y<|If h Y (fun h=>?_) fun h=>?_
   ·
    refine K1 3 Y<|Tr<|Rm Y<|Ra Y<|Ra Y<|Za<|?_
    obtain rfl := rt h
    exact Zn<|Zbd [some 0, some 1, some 2, some 5, some 6] Y (.cons (.tmp Y)<|.cons (.tmp Y) .nil) (.cons Y (ro1 (by exact tZ_102.symm)<|rlc (.own _ Y)<|rlc (.own _ Y)<|rlc (.dat Y)<|rlc (.dat Y)<|rlc (.dat Y)<|rlc (.dat Y)<|rlc (.dat Y) rln)<|.dead<|.dead<|.cons Y (roO Xo)<|.cons Y (roM D105) .nil) Y Y<|X0<|rlc (.dat Y)<|rlc (.dat Y) rln
   ·
    exact Zh<|⟨_, h, ES [some 0, some 1, some 2, some 5, some 6] (hhp := .cons Y (ro1 (by exact tZ_102.symm)<|rlc (.own _ Y)<|rlc (.own _ Y)<|rlc (.dat Y)<|rlc (.dat Y)<|rlc (.dat Y)<|rlc (.dat Y)<|rlc (.dat Y) rln)<|.dead<|.dead<|.cons Y (roO Xo)<|.cons Y (roM D105) .nil)⟩
  ·
   exact Zh<|⟨_, h, ES [some 0, some 1, some 2, some 3, some 4] (hhp := .cons Y (ro1 (by exact tZ_102.symm)<|rlc (.own _ Y)<|rlc (.own _ Y)<|rlc (.dat Y)<|rlc (.dat Y)<|rlc (.dat Y)<|rlc (.dat Y)<|rlc (.dat Y) rln)<|.dead<|.dead<|.cons Y (roO Xo)<|.cons Y (roM D105) .nil)⟩
 ·
  replace h := elr h
  replace h := t8i h
  refine Tr<|Rm Y<|Rq Y (Zv (ov Y) Y Y)<|Rq Y (Zk (ov Y) Y Y ZdP)<|Rq Y (Zu (ov Y) Y Y Y Zjz Y)<|Rm Y<|bE h fun x h_x h=>Rq Y (XP (ov Y) (ov Y) Zjp Y Y h_x)<|Ra Y<|Za<|Zg<|K5 0 1 2 3 11 Y<|bE h fun x2 h_x2 h=>Ze6 (Ent.focusH (r := 3) (j := 2) (e' := 49) (g := O49) (ys := x2.Sectors) Y (Zw h_x2).2 Y Xn)<|bE h fun x3 h_x3 h=>Ze6 (Ent.focusH (r := 5) (j := 0) (e' := 5) (g := R5) (ys := x3) Y (Zw h_x3).2 Y DR5)<|Qp (cw := ⟨true, true, [some ⟨102, [[.own 3 memories.length, .own 4 spots.length, .int .i64 copies, .bool frozen, .bool stopped, .int .i64 last, .bool some_]]⟩, none, none, some ⟨26, List.set (List.map O26 memories) k.toNat [.int .i64 x2.Slots, .int .i64 x2.Limit, .own 5 x2.Sectors.length, .osub 3 (List.map R3 x2.Wear), .osub 4 (List.map R4 x2.Bad)]⟩, some ⟨105, List.map R105 spots⟩, some ⟨49, List.set (List.map O49 x2.Sectors) x.sector.toNat [.own 6 x3.length]⟩, some ⟨5, List.map R5 x3⟩], [], [6]⟩) (by kernel_rfl)<|Z6 0 _ Y (by kernel_rfl) Y Y (fun hp'=>Zc<|ov Y)<|Xq 1 _ Y (by kernel_rfl) Y Y Y (EL.ext<|.keep<|.keep<|.keep<|.keep<|.keep<|.keep<|.wr Y Y Y .nil) (fun hp' hx=>Zv (ov Y) (hx.get Y Y) Y)<|Xq 2 _ Y (by kernel_rfl) Y Y Y (EL.ext<|.keep<|.keep<|.keep<|.keep<|.keep<|.keep<|.wr Y Y Y .nil) (fun hp' hx=>Zk (ov Y) (hx.get Y Y) Y Zco)<|Xq 3 _ Y (by kernel_rfl) Y Y Y (EL.ext<|.keep<|.keep<|.keep<|.keep<|.keep<|.keep<|.wr Y Y Y .nil) (fun hp' hx=>Zu (ov Y) (hx.get Y Y) Y Y ZiB Y)<|Z6 4 _ Y (by kernel_rfl) Y Y (fun hp'=>Zc<|ov Y)<|bE h fun x4 h_x4 h=>Xq 5 _ Y (by kernel_rfl) Y Y Y (EL.ext<|.keep<|.keep<|.keep<|.keep<|.keep<|.keep<|.wr Y Y Y .nil) (fun hp' hx=>Zjq (ov Y) (ov Y) ZcF (hx.get Y Y) Y h_x4)<|Xq 6 _ Y (by kernel_rfl) Y Y Y (EL.ext<|.keep<|.keep<|.keep<|.keep<|.keep<|.keep<|.wr Y Y Y .nil) (fun hp' hx=>Zh5 (ov Y) (hx.get Y Y) Y ZG)<|Xq 7 _ Y (by kernel_rfl) Y Y Y (EL.ext<|.keep<|.keep<|.keep<|.keep<|.keep<|.keep<|.wr Y Y Y .nil) (fun hp' hx=>ZbU (ov Y) (hx.get Y Y) Y (Zw h_x2).2 Qd Y)<|Z6 8 _ Y (by kernel_rfl) Y Y (fun hp'=>Zc<|ov Y)<|Xq 9 _ Y (by kernel_rfl) Y Y Y (EL.ext<|.keep<|.keep<|.keep<|.keep<|.keep<|.keep<|.wr Y Y Y .nil) (fun hp' hx=>Zv (ov Y) (hx.get Y Y)<|List.length_map ..)<|Xq 10 _ Y (by kernel_rfl) Y Y Y (EL.ext<|.keep<|.keep<|.keep<|.keep<|.keep<|.keep<|.wr Y Y Y .nil) (fun hp' hx=>ZcA (ov Y) (hx.get Y Y) Y ZeI)<|Xq 11 _ Y (by kernel_rfl) Y Y Y (EL.ext<|.keep<|.keep<|.keep<|.keep<|.keep<|.keep<|.wr Y Y Y .nil) (fun hp' hx=>XQ (ov Y) (hx.get Y Y) Y h_x tS3 Y)<|bE h fun x5 h_x5 h=>Xq 12 _ Y (by kernel_rfl) Y Y Y (EL.ext<|.keep<|.keep<|.keep<|.keep<|.keep<|.keep<|.wr Y Y Y .nil) (fun hp' hx=>Zjq (ov Y) (ov Y) Z1 (hx.get Y Y) Y h_x5)<|Xq 13 _ Y (by kernel_rfl) Y Y Y (EL.ext<|.keep<|.keep<|.keep<|.keep<|.keep<|.keep<|.wr Y Y Y .nil) (fun hp' hx=>ZbU (ov Y) (hx.get Y Y) Y (Zw h_x3).2 ZgW Y)<|Z6 14 _ Y (by kernel_rfl) Y Y (fun hp'=>Zc<|ov Y)<|Xq 15 _ Y (by kernel_rfl) Y Y Y (EL.ext<|.keep<|.keep<|.keep<|.keep<|.keep<|.keep<|.wr Y Y Y .nil) (fun hp' hx=>Zv (ov Y) (hx.get Y Y)<|List.length_map ..)<|Xq 16 _ Y (by kernel_rfl) Y Y Y (EL.ext<|.keep<|.keep<|.keep<|.keep<|.keep<|.keep<|.wr Y Y Y .nil) (fun hp' hx=>ZcA (ov Y) (hx.get Y Y) Y ZfC)<|Xq 17 _ Y (by kernel_rfl) Y Y Y (EL.ext<|.keep<|.keep<|.keep<|.keep<|.keep<|.keep<|.wr Y Y Y .nil) (fun hp' hx=>XQ (ov Y) (hx.get Y Y) Y h_x tS3 Y)<|Z6 18 _ Y (by kernel_rfl) Y Y (fun hp'=>Zl1 (ov Y) (ov Y) Y)<|Z6 19 _ Y (by kernel_rfl) Y Y (fun hp'=>ZjU (ov Y) (ov Y) Y)<|Z6 20 _ Y (by kernel_rfl) Y Y (fun hp'=>Zc<|ov Y)<|Z6 23 _ Y (by kernel_rfl) Y Y (fun hp'=>Zc<|ov Y)<|Jt 21 (.sl 5<|List.map R5 ([0] : List Int)) _ Y (by kernel_rfl) Y Y (fun h=>by cases h) (fun _=>by exact EL.ext (.keep <| .keep <| .keep <| .keep <| .keep <| .keep <| .wr rfl rfl rfl <| .nil)) (XG<|XC Z5 (.cons (cvs (ov Y)<|Zm Y) Y (.cons (.b Y) .nil) .nil) Y Y)<|bE h fun l h_l h=>Jt 22 _ _ Y (by kernel_rfl) Y Y (fun h=>by cases h) (fun _=>by exact EL.ext (.keep <| .keep <| .keep <| .keep <| .keep <| .keep <| .wr rfl rfl rfl <| .nil)) (XG<|Zkd (f := R5) (ov Y) (Qv (ov Y) tZ_5) Z5 Y Y (fun x=>(D5 x).2) h_l)<|bE h fun y3 h_y3 h=>Jt 24 _ _ Y (by kernel_rfl) Y Y (fun h=>by cases h) (fun _=>by exact EL.ext (.keep <| .keep <| .keep <| .keep <| .keep <| .keep <| .wr rfl rfl ((List.length_map ..).trans (Eq.trans (JT h_y3) (Eq.symm ((List.length_map ..).trans rfl)))) <| .nil)) (ZF [6] (Zdo h_y3) (.cons (ov Y) (.own _ Y)<|.cons (ov Y) (.dat Y)<|.cons (ov Y) (.dat Y)<|.cons (ov Y) (.dat Y) .nil) (.cons Y (roM D5) .nil) Y (.keep Y Y<|.none<|.none<|.keep Y Y<|.keep Y Y<|.keep Y Y<|.lent 0 (.inl Y) Y (roM D5) .nil) Y Y<|X0<|rld Y)<|D1 25 Zc Y<|Dq 26 Y (Zl (ov Y) Y)<|Dq 27 Y (Zl (ov Y) Y)<|D1 28 Z8 Y<|D1 29 Z8 Y<|?_
  have h_x6 := XB (y := y3.2.2) h_x5
  have h_x7 := XB (y := (api_Memory.mk x2.Slots x2.Limit (x2.Sectors.set x.sector.toNat y3.2.2) x2.Wear x2.Bad)) h_x4
  have h_x8 := XB (y := (api_Memory.mk x2.Slots x2.Limit (x2.Sectors.set x.sector.toNat y3.2.2) x2.Wear x2.Bad)) h_x4
  refine ZZ (by kernel_rfl) (Ent.trans (Ent.absorbH (r := 5) (j := 0) (q := 6) Y (Zw h_x3).2 Y Y ((List.length_map ..).trans<|JT h_y3) Y)<|Ent.trans (Ent.closeH (r := 5) (y := y3.2.2) Y Y)<|Ent.trans (Ent.absorbH (r := 3) (j := 2) (q := 5) Y (Zw h_x2).2 Y Y ((List.length_map ..).trans<|(List.length_set ..).trans Y) Y)<|Ent.closeH (r := 3) (y := (api_Memory.mk x2.Slots x2.Limit (x2.Sectors.set x.sector.toNat y3.2.2) x2.Wear x2.Bad)) Y Y)<|K3 3 11 12 Y<|QQ [some ⟨102, [[.own 3 memories.length, .own 4 spots.length, .int .i64 copies, .bool frozen, .bool stopped, .int .i64 last, .bool some_]]⟩, none, none, some ⟨26, List.map O26 (memories.set k.toNat (api_Memory.mk x2.Slots x2.Limit (x2.Sectors.set x.sector.toNat y3.2.2) x2.Wear x2.Bad))⟩, some ⟨105, List.map R105 spots⟩, none, none] Y<|Tr<|Rm Y<|Rq Y (Zv (ov Y) Y<|List.length_map ..)<|Rq Y (ZcA (ov Y) Y Y ZfC)<|Rq Y (XQ (ov Y) Y Y h_x tS3 Y)<|R2 ZM Y<|Rq Y (Zv (ov Y) Y<|List.length_map ..)<|Rq Y (ZcA (ov Y) Y Y ZfC)<|Rx Y (ZaM (u' := (ring_spot.mk x.sector (i64 (x.slot + 1)))) (ov Y) (ov Y) (Zf tS3) Y Y h_x Y (Zb Y) Y)<|Za<|K2 3 12 Y<|QQ [some ⟨102, [[.own 3 memories.length, .own 4 spots.length, .int .i64 copies, .bool frozen, .bool stopped, .int .i64 last, .bool some_]]⟩, none, none, some ⟨26, List.map O26 (memories.set k.toNat (api_Memory.mk x2.Slots x2.Limit (x2.Sectors.set x.sector.toNat y3.2.2) x2.Wear x2.Bad))⟩, some ⟨105, List.map R105 (spots.set k.toNat (ring_spot.mk x.sector (i64 (x.slot + 1))))⟩, none, none] Y<|Tr<|Rm Y<|Rm Y<|Ra Y<|Ra Y<|Za<|?_
  obtain rfl := rt h
  exact Zn<|Zbd [some 0, some 1, some 2, some 3, some 4] Y (.cons (.tmp Y)<|.cons (.tmp Y) .nil) (.cons Y (ro1 (by exact tZ_102.symm)<|rlc (ZfY (Eq.symm<|(List.length_set ..).trans Y) Y)<|rlc (ZfY (Eq.symm<|(List.length_set ..).trans Y) Y)<|rlc (.dat Y)<|rlc (.dat Y)<|rlc (.dat Y)<|rlc (.dat Y)<|rlc (.dat Y) rln)<|.dead<|.dead<|.cons Y (roO Xo)<|.cons Y (roM D105) .nil) Y Y<|X0<|rlc (.dat Y)<|rlc (.dat Y) rln
end Go.Proofs.YtnlmjeleocelgaaGreatDoor
