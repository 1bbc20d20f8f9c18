/- A text of the proof: a verified executor of the program form, or the contracts of the functions that the law reaches. -/
import Derived.Test.YtnlmjeleocelgaaGreatDoorOkRb
set_option linter.all false
namespace Go.Proofs.YtnlmjeleocelgaaGreatDoor
open Go Go.Vx
set_option maxRecDepth 10000
set_option maxHeartbeats 2000000
set_option linter.unusedVariables false
theorem Zcg {data : List Int} {n : Int} {cmp : Int → Int → Option Int} {r : (List Int)} {cmp_f : FuncId} {cmp_c : List AV} (cmp_d : cmp_c.all datB = true) (cmp_h : ∀ (z0 : Int) (z1 : Int) z, cmp z0 z1 = some z → CSpec Tryz.prog gl0 cmp_f ([.int .i64 z0, .int .i64 z1] ++ cmp_c) (.int .i64 z)) (h : Qe data n cmp = some r) :
 GSpec Tryz.prog gl0 137 [.own 0 data.length, .int .i64 n, .fn cmp_f cmp_c] [some ⟨3, List.map R3 data⟩] (.tuple []) [some ⟨3, List.map R3 r⟩] := by
 unfold Qe at h
 replace h := Qd h
 refine Qt (by kernel_rfl) Tryz.func137 Y Y<|?_
 intro w0 A W φ0
 refine Tr<|Ra Y<|Za<|Tr<|Rm Y<|Ra Y<|Ra Y<|Za<|I2 (fun o a=>⟨[(0, .own 0 o.length), (1, .int .i64 n), (2, .fn cmp_f cmp_c), (6, .int .i64 20), (7, .int .i64 a)], [some ⟨3, List.map R3 o⟩]⟩) h (fun h=>?_) fun o a h=>?_
 ·
  refine Zk<|?_
  obtain ⟨r1, hl1, ho1⟩ := QY h
  refine L3 (fun o2 a2 b=>⟨[(0, .own 0 o2.length), (1, .int .i64 n), (2, .fn cmp_f cmp_c), (6, .int .i64 20), (7, .int .i64 a2), (8, .int .i64 b)], [some ⟨3, List.map R3 o2⟩]⟩) hl1 (ES [some 0]<|sr 0 Y (.own _ Y)<|sd 1 Y Y<|sr 2 Y (rFn<|rld cmp_d)<|sd 6 Y Y<|sd 7 Y Y<|sd 8 Y Y sn) fun n1 o2 a2 b h=>?_
  unfold ZU at h
  refine Zl<|Tr<|Rm Y<|Rm Y<|R2 ZhD Y<|Za<|K7 0 1 2 6 7 8 13 Y<|If h Y (fun h=>?_) fun h=>?_
  ·
   exact Zm<|Zk<|K6 0 1 2 6 7 8 Y<|Tr<|Rm Y<|Rm Y<|Rm Y<|Rm Y<|bE h fun y h_y h=>Rx Y (Zv [0] (Xf cmp_d cmp_h h_y) (.cons (ov Y) (.own _ Y)<|.cons (ov Y) (.dat Y)<|.cons (ov Y) (.dat Y)<|.cons (ov Y) (rFn<|rld cmp_d) .nil) (.cons Y (roM D3) .nil) Y (.lent 0 (.inl Y) Y (roM D3) .nil) Y Y<|Xo<|rld Y)<|Za<|K6 0 1 2 6 7 8 Y<|Tr<|Rm Y<|Ra Y<|Za<|K6 0 1 2 6 7 8 Y<|ZA<|Rm Y<|Rm Y<|R2 ZY Y<|Ra Y<|Za<|⟨_, h, ES [some 0]<|sr 0 Y (Zfd (Eq.symm<|Z9 h_y) Y)<|sd 1 Y Y<|sr 2 Y (rFn<|rld cmp_d)<|sd 6 Y Y<|sd 7 Y Y<|sd 8 Y Y sn⟩
  ·
   refine ZN<|?_
   replace h := lx h ▸ ho1
   exact ⟨_, h, ES [some 0]<|sr 0 Y (.own _ Y)<|sd 1 Y Y<|sr 2 Y (rFn<|rld cmp_d)<|sd 6 Y Y<|sd 7 Y Y sn⟩
 ·
  refine Tr<|Rm Y<|Rm Y<|Rm Y<|Rm Y<|bE h fun y2 h_y2 h=>Rx Y (Zv [0] (Xf cmp_d cmp_h h_y2) (.cons (ov Y) (.own _ Y)<|.cons (ov Y) (.dat Y)<|.cons (ov Y) (.dat Y)<|.cons (ov Y) (rFn<|rld cmp_d) .nil) (.cons Y (roM D3) .nil) Y (.lent 0 (.inl Y) Y (roM D3) .nil) Y Y<|Xo<|rld Y)<|Za<|Zk<|?_
  obtain ⟨r2, hl2, ho2⟩ := QY h
  refine L1 (fun blockSize=>⟨[(0, .own 0 y2.length), (1, .int .i64 n), (2, .fn cmp_f cmp_c), (6, .int .i64 blockSize)], [some ⟨3, List.map R3 y2⟩]⟩) hl2 (ES [some 0]<|sr 0 Y (Zfd (Eq.symm<|Z9 h_y2) Y)<|sd 1 Y Y<|sr 2 Y (rFn<|rld cmp_d)<|sd 6 Y Y sn) fun n2 blockSize h=>?_
  unfold Z0 at h
  refine Zl<|Tr<|Rm Y<|Rm Y<|R2 Z1 Y<|Za<|K5 0 1 2 6 30 Y<|If h Y (fun h=>?_) fun h=>?_
  ·
   refine Zm<|Zk<|K4 0 1 2 6 Y<|Tr<|Rm Y<|R2 Zft Y<|Ra Y<|Ra Y<|Za<|I0 ⟨[(0, .own 0 y2.length), (1, .int .i64 n), (2, .fn cmp_f cmp_c), (6, .int .i64 blockSize), (7, .int .i64 0)], [some ⟨3, List.map R3 y2⟩]⟩ h (fun h=>?_) fun h=>?_
   ·
    refine Zk<|?_
    obtain ⟨r3, hl3, ho3⟩ := QY h
    refine L0 ⟨[(0, .own 0 y2.length), (1, .int .i64 n), (2, .fn cmp_f cmp_c), (6, .int .i64 blockSize), (7, .int .i64 0), (8, .int .i64 (i64 (2 * blockSize)))], [some ⟨3, List.map R3 y2⟩]⟩ hl3 (ES [some 0]<|sr 0 Y (.own _ Y)<|sd 1 Y Y<|sr 2 Y (rFn<|rld cmp_d)<|sd 6 Y Y<|sd 7 Y Y<|sd 8 Y Y sn) fun n3 h=>?_
    unfold Qw at h
    refine Zl<|Tr<|Rm Y<|Rm Y<|R2 ZhD Y<|Za<|K7 0 1 2 6 7 8 35 Y<|If h Y (fun h=>?_) fun h=>?_
    ·
     exact Zm<|Zk<|(ZiF h).elim
    ·
     refine ZN<|?_
     replace h := lx h ▸ ho3
     exact ⟨(), h, ES [some 0]<|sr 0 Y (.own _ Y)<|sd 1 Y Y<|sr 2 Y (rFn<|rld cmp_d)<|sd 6 Y Y<|sd 7 Y Y sn⟩
   ·
    refine Zl<|Tr<|Rm Y<|Rm Y<|R2 ZY Y<|Ra Y<|Za<|K6 0 1 2 6 7 9 Y<|Tr<|Rm Y<|Rm Y<|R2 Z1 Y<|Za<|K7 0 1 2 6 7 9 54 Y<|If h Y (fun h=>?_) fun h=>?_
    ·
     exact (ZiF h).elim
    ·
     exact Zm<|K4 0 1 2 6 Y<|ZA<|Rm Y<|R2 Zft Y<|Ra Y<|Za<|⟨_, h, ES [some 0]<|sr 0 Y (.own _ Y)<|sd 1 Y Y<|sr 2 Y (rFn<|rld cmp_d)<|sd 6 Y Y sn⟩
  ·
   refine ZN<|?_
   replace h := lx h ▸ ho2
   obtain rfl := rt h
   exact Zhz [some 0] Y .nil (.cons Y (roM D3) .nil) Y Y<|Xo rln
theorem ZaN {x : List Int} {cmp : Int → Int → Option Int} {r : (List Int)} {cmp_f : FuncId} {cmp_c : List AV} (cmp_d : cmp_c.all datB = true) (cmp_h : ∀ (z0 : Int) (z1 : Int) z, cmp z0 z1 = some z → CSpec Tryz.prog gl0 cmp_f ([.int .i64 z0, .int .i64 z1] ++ cmp_c) (.int .i64 z)) (h : ZO x cmp = some r) :
 GSpec Tryz.prog gl0 114 [.own 0 x.length, .fn cmp_f cmp_c] [some ⟨3, List.map R3 x⟩] (.tuple []) [some ⟨3, List.map R3 r⟩] := by
 unfold ZO at h
 replace h := Qd h
 refine Qt (by kernel_rfl) Tryz.func114 Y Y<|?_
 intro w0 A W φ0
 refine ZA<|Rm Y<|Rm Y<|Rq Y (Zdt (ov Y) Y Y QH)<|Rm Y<|bE h fun y h_y h=>Rx Y (Zv [0] (Zcg cmp_d cmp_h h_y) (.cons (ov Y) (.own _ Y)<|.cons (ov Y) (.dat Y)<|.cons (ov Y) (rFn<|rld cmp_d) .nil) (.cons Y (roM D3) .nil) Y (.lent 0 (.inl Y) Y (roM D3) .nil) Y Y<|Xo<|rld Y)<|Za<|?_
 obtain rfl := rt h
 exact Zhz [some 0] Y .nil (.cons Y (roM D3) .nil) Y Y<|Xo rln
theorem ZcT {i : Int} {c0 : api_Memory} {r : Int} (h : XR i c0 = some r) :
 CSpec Tryz.prog gl0 113 [.int .i64 i, .rp [.int .i64 c0.Slots, .int .i64 c0.Limit, .sl 49 (List.map R49 c0.Sectors), .sl 3 (List.map R3 c0.Wear), .sl 4 (List.map R4 c0.Bad)] 0] (.int .i64 r) := by
 unfold XR at h
 replace h := Qd h
 refine So Tryz.func113 Y fun w0 A=>Tr<|Ra Y<|Za<|K2 0 1 Y<|Tr<|Rq Y (ZM (ov Y) Zp)<|Rq Y (Zi (ov Y) ZD Y)<|Rm Y<|bE h fun x h_x h=>Rq Y (Z4 (ov Y) (ov Y) Zz h_x)<|Rq Y (Zi (ov Y) Zfl Y)<|bE h fun y h_y h=>Rq Y (Zq (Zaz h_y)<|.cons (ov Y) (.b Y) .nil)<|Rm Y<|Rq Y (Zr (ov Y) Y)<|Rq Y (Zr (ov Y) Y)<|Rq Y (Zr (ov Y) Y)<|Ra Y<|Ra Y<|Ra Y<|Za<|K1 4 Y<|Tr<|Rm Y<|Ra Y<|Za<|?_
 obtain rfl := rt h
 exact Zs (ZQ Y (.one<|rb Y))
theorem ZfM {a : Int} {b : Int} {k : api_Memory} {r : Int} (h : Jn a b k = some r) :
 CSpec Tryz.prog gl0 115 [.int .i64 a, .int .i64 b, .rp [.fn 113 [.rp [.int .i64 k.Slots, .int .i64 k.Limit, .sl 49 (List.map R49 k.Sectors), .sl 3 (List.map R3 k.Wear), .sl 4 (List.map R4 k.Bad)] 0]] 0] (.int .i64 r) := by
 unfold Jn at h
 replace h := Qd h
 refine So Tryz.func115 Y fun w0 A=>Tr<|Ra Y<|Za<|Zl<|Qj (cw := md0) (by kernel_rfl)<|Dq 0 Y (Zi (ov Y) Zlk Y)<|D1 1 Zj Y<|bE h fun y h_y h=>Dq 2 Y (Zfn (ov Y) Y (ZcT h_y)<|.cons (ov Y) (.b Y) .nil)<|Dq 3 Y (Zi (ov Y) Zlk Y)<|D1 4 Zj Y<|bE h fun y2 h_y2 h=>Dq 5 Y (Zfn (ov Y) Y (ZcT h_y2)<|.cons (ov Y) (.b Y) .nil)<|D2 6 Zg9 Y<|D1 7 Qm Y<|Dd<|?_
 obtain rfl := rt h
 exact Zs (ZQ Y (.one<|rb Y))
theorem ZdM {m : api_Memory} {r : (List Int)} (h : JH m = some r) :
 CSpec Tryz.prog gl0 76 [.agg [.int .i64 m.Slots, .int .i64 m.Limit, .sl 49 (List.map R49 m.Sectors), .sl 3 (List.map R3 m.Wear), .sl 4 (List.map R4 m.Bad)]] (.sl 3 (List.map R3 r)) := by
 unfold JH at h
 replace h := Qd h
 refine So Tryz.func76 Y fun w0 A=>Tr<|Rq Y (ZbY (cva<|ov Y) Y tZ_26 Y)<|Ra Y<|Za<|K1 1 Y<|Tr<|Ra Y<|Za<|Tr<|Rq Y (Zg4<|.cons (ov Y) .nil)<|Rx Y (ZL (row := [_]) 0 Y ZlQ Y tZ_92)<|Rx Y (Zh (ov Y) (ov Y) (Zf Zlk) Y Y Y (Nat.le_of_ble_eq_true Y) (Zb Y) Y)<|Za<|I1 (fun out=>⟨[(3, .own 0 out.length), (4, .ptr 1 1 0 0)], [some ⟨3, List.map R3 out⟩, some ⟨92, [[.fn 113 [.rp [.int .i64 m.Slots, .int .i64 m.Limit, .sl 49 (List.map R49 m.Sectors), .sl 3 (List.map R3 m.Wear), .sl 4 (List.map R4 m.Bad)] 0]]]⟩]⟩) h (fun h=>?_) fun out h=>?_
 ·
  refine K3 1 3 4 Y<|Tr<|Rq Y (ZM (ov Y) Zp)<|Rq Y (Zi (ov Y) ZD Y)<|Rl tZ_49 Zz Y<|Rm Y<|Za<|Zk<|?_
  obtain ⟨r1, hl1, ho1⟩ := QY h
  refine L2 (fun out2 i=>⟨[(1, .rp [.int .i64 m.Slots, .int .i64 m.Limit, .sl 49 (List.map R49 m.Sectors), .sl 3 (List.map R3 m.Wear), .sl 4 (List.map R4 m.Bad)] 0), (3, .own 0 out2.length), (4, .ptr 1 1 0 0), (12, .sl 49 (List.map R49 m.Sectors)), (13, .int .i64 (m.Sectors.length : Int)), (14, .int .i64 i)], [some ⟨3, List.map R3 out2⟩, some ⟨92, [[.fn 113 [.rp [.int .i64 m.Slots, .int .i64 m.Limit, .sl 49 (List.map R49 m.Sectors), .sl 3 (List.map R3 m.Wear), .sl 4 (List.map R4 m.Bad)] 0]]]⟩]⟩) hl1 (ES [none, some 0] (hhp := .row 3<|.cons Y (ro1 (by exact tZ_92.symm)<|rlc (rFn<|rlc (.dat Y) rln) rln) .nil)) fun n1 out2 i h=>?_
  unfold Zab at h
  refine Tr<|R2 Z1 Y<|Za<|Zl<|If h Y (fun h=>?_) fun h=>?_
  ·
   refine Zm<|Zl<|Zk<|K6 1 3 4 12 13 14 Y<|Tr<|Rm Y<|bE h fun x h_x h=>Rq Y (Z4 (ov Y) (ov Y) Zz h_x)<|Rq Y (Zi (ov Y) Zfl Y)<|Ra Y<|Ra Y<|Za<|K8 1 3 4 5 6 12 13 14 Y<|Tr<|Rm Y<|bE h fun y h_y h=>Rq Y (Zq (Zaz h_y)<|.cons (ov Y) (.b Y) .nil)<|Rm Y<|Rq Y (Zr (ov Y) Y)<|Rq Y (Zr (ov Y) Y)<|Rq Y (Zr (ov Y) Y)<|Ra Y<|Ra Y<|Ra Y<|Za<|K8 1 3 4 5 9 12 13 14 Y<|Tr<|Rm Y<|Rm Y<|Rq Y (.guarded (y.2.2 == true) Y Y Y Y fun h => ZM (ov Y) Zd1)<|Rq Y (.guarded (y.2.2 == true) Y Y Y Y fun h => Zi (ow Y h) ZhO Y)<|Rq Y (.guarded (y.2.2 == true) Y Y Y Y fun h => Zj<|ov Y)<|bE h fun x2 h_x2 h=>Rq Y (.guarded (y.2.2 == true) Y Y Y Y fun h => Z4 (ow Y h) (ow Y h) Zb0<|gdT h_x2 h)<|Rq Y (.guarded (y.2.2 == true) Y Y Y Y fun h => Zi (ow Y h) tS4 Y)<|Rq Y (.guarded (y.2.2 == true) Y Y Y Y fun h => XU<|ow Y h)<|Rq Y (ZaX (ov Y) fun hp=>ow Y<|gT hp)<|Za<|K8 1 3 4 5 12 13 14 33 Y<|If h Y (fun h=>?_) fun h=>?_
   ·
    exact K7 1 3 4 5 12 13 14 Y<|ZA<|Rm Y<|Rm Y<|R_q (.sl 3<|List.map R3 ([i] : List Int)) Y (Q0 QH (.cons (cvs (ov Y)<|Zd Y) Y (.cons (.b Y) .nil) .nil) Y Y)<|bE h fun l h_l h=>Rx Y (Q2 (ov Y) (QX (ov Y) tZ_3) QH Y Y Y (fun _=>Zb Y) Y h_l)<|Ra Y<|Za<|K6 1 3 4 12 13 14 Y<|ZA<|R2 ZY Y<|Rm Y<|Za<|⟨_, h, ES [some 0, some 1] (hhp := .cons Y (roM D3)<|.cons Y (ro1 (by exact tZ_92.symm)<|rlc (rFn<|rlc (.dat Y) rln) rln) .nil)⟩
   ·
    exact Zm<|K6 1 3 4 12 13 14 Y<|ZA<|R2 ZY Y<|Rm Y<|Za<|⟨_, h, ES [some 0, some 1] (hhp := .cons Y (roM D3)<|.cons Y (ro1 (by exact tZ_92.symm)<|rlc (rFn<|rlc (.dat Y) rln) rln) .nil)⟩
  ·
   refine ZN<|?_
   replace h := lx h ▸ ho1
   exact ⟨_, h, ES [some 0, some 1] (hhp := .cons Y (roM D3)<|.cons Y (ro1 (by exact tZ_92.symm)<|rlc (rFn<|rlc (.dat Y) rln) rln) .nil)⟩
 ·
  refine Tr<|Rm Y<|QK (Ent.sel [some 0, none] (sr 3 Y (.own (r' := 0) _ Y)<|sr 4 Y (.frp ⟨Y, ⟨_, Y⟩, Y, Y⟩)<|sr 39 Y (.own (r' := 0) _ Y) sn) (.cons Y (roM D3)<|.row 92 .nil) Y Y)<|Rq Y (Zg4<|.cons (ov Y) .nil)<|bE h fun y2 h_y2 h=>Rx Y (Zv [0] (ZaN Y (fun z0 z1 _ hz=>ZfM hz) h_y2) (.cons (ov Y) (.own _ Y)<|.cons (ov Y) (.dat Y) .nil) (.cons Y (roM D3) .nil) Y (.lent 0 (.inl Y) Y (roM D3)<|.keep Y Y .nil) Y Y<|Xo<|rld Y)<|Za<|K1 3 Y<|Tr<|Rm Y<|Ra Y<|Za<|?_
  obtain rfl := rt h
  exact Zs (ZQ Y (.one<|.tmp Y<|View.ownM Y (Za5 h_y2) D3))
theorem Zei {s : List Int} {i : Int} {r : (Vector Int 97)} (h : Zas s i = some r) :
 CSpec Tryz.prog gl0 77 [.sl 5 (List.map R5 s), .int .i64 i] (.rp (List.map C5 r.toList) 0) := by
 unfold Zas at h
 replace h := Qd h
 refine So Tryz.func77 Y fun w0 A=>Tr<|Ra Y<|Za<|K2 0 1 Y<|Tr<|Rm Y<|R2 Zft Y<|R2 ZY Y<|Ra Y<|Za<|K2 0 5 Y<|Tr<|Rm Y<|Rm Y<|Rm Y<|R2 ZY Y<|bE h fun l h_l h=>Rq Y (Zhf (ov Y) Qg (oi<|ov Y) (oi<|ov Y) h_l)<|bE h fun v h_v h=>Rq Y (ZiN (f := C5) (ov Y) Zi1 tZ_5 Y h_v)<|Ra Y<|Za<|?_
 obtain rfl := rt h
 exact Zs (ZQ Y (.one<|rb Y))
theorem ZbK {s : List Int} {f : Int → Option Bool} {r : Int} {f_f : FuncId} {f_c : List AV} (f_d : f_c.all datB = true) (f_h : ∀ (z0 : Int) z, f z0 = some z → CSpec Tryz.prog gl0 f_f ([.int .u8 z0] ++ f_c) (.bool z)) (h : Qh s f = some r) :
 CSpec Tryz.prog gl0 138 [.sl 5 (List.map R5 s), .fn f_f f_c] (.int .i64 r) := by
 unfold Qh at h
 replace h := Qd h
 refine So Tryz.func138 Y fun w0 A=>Tr<|Ra Y<|Za<|J0 (fun j => (.inr j)) ⟨[], []⟩ h (fun h=>?_) fun h=>?_
 ·
  refine K2 0 1 Y<|Tr<|Rm Y<|Rl tZ_5 Qg Y<|Rm Y<|Za<|Zk<|?_
  obtain ⟨r1, hl1, ho1⟩ := QY h
  refine L1 (fun i=>⟨[(0, .sl 5 (List.map R5 s)), (1, .fn f_f f_c), (7, .int .i64 (s.length : Int)), (8, .int .i64 i)], []⟩) hl1 (ES []<|sd 0 Y Y<|sr 1 Y (rFn<|rld f_d)<|sd 7 Y Y<|sd 8 Y Y sn) fun n1 i h=>?_
  unfold Qs at h
  refine Tr<|R2 Z1 Y<|Za<|Zl<|If h Y (fun h=>?_) fun h=>?_
  ·
   refine Zm<|Zl<|Zk<|K4 0 1 7 8 Y<|Tr<|Rm Y<|Ra Y<|Za<|K5 0 1 5 7 8 Y<|Tr<|Rm Y<|Rm Y<|Rm Y<|bE h fun x h_x h=>Rq Y (Z4 (ov Y) (ov Y) Qg h_x)<|Rq Y (Zi (ov Y) tS5 Y)<|bE h fun y h_y h=>Rq Y (Zfn (ov Y) f_d (f_h _ _ h_y)<|.cons (ov Y) (.b Y) .nil)<|Za<|K6 0 1 5 7 8 16 Y<|If h Y (fun h=>?_) fun h=>?_
   ·
    refine K1 5 Y<|Tr<|Rm Y<|Ra Y<|Za<|?_
    replace h := lx h ▸ ho1
    obtain rfl := rt h
    exact Zs (ZQ Y (.one<|rb Y))
   ·
    exact Zm<|K4 0 1 7 8 Y<|ZA<|R2 ZY Y<|Rm Y<|Za<|⟨_, h, ES []<|sd 0 Y Y<|sr 1 Y (rFn<|rld f_d)<|sd 7 Y Y<|sd 8 Y Y sn⟩
  ·
   refine ZN<|?_
   replace h := lx h ▸ ho1
   exact ⟨(), h, ES []⟩
 ·
  replace h := elr h
  replace h := t0i h
  refine Tr<|Ra Y<|Za<|?_
  obtain rfl := rt h
  exact Zs (ZQ Y (.one<|rb Y))
theorem Za2 {s : List Int} {f : Int → Option Bool} {r : Bool} {f_f : FuncId} {f_c : List AV} (f_d : f_c.all datB = true) (f_h : ∀ (z0 : Int) z, f z0 = some z → CSpec Tryz.prog gl0 f_f ([.int .u8 z0] ++ f_c) (.bool z)) (h : Z5 s f = some r) :
 CSpec Tryz.prog gl0 116 [.sl 5 (List.map R5 s), .fn f_f f_c] (.bool r) := by
 unfold Z5 at h
 replace h := Qd h
 refine So Tryz.func116 Y fun w0 A=>Tr<|Ra Y<|Za<|Tr<|Rm Y<|Rm Y<|bE h fun y h_y h=>Rq Y (Zq (ZbK f_d f_h h_y)<|.cons (ov Y) (.b Y)<|.cons (ov Y) (Dat.fnC<|.refl fun x hx => .b<|List.all_eq_true.1 f_d x hx) .nil)<|R2 Zha Y<|Ra Y<|Za<|?_
 obtain rfl := rt h
 exact Zs (ZQ Y (.one<|rb Y))
theorem ZfB {b : Int} {r : Bool} (h : Js b = some r) :
 CSpec Tryz.prog gl0 117 [.int .u8 b] (.bool r) := by
 unfold Js at h
 replace h := Qd h
 refine So Tryz.func117 Y fun w0 A=>Tr<|Ra Y<|Za<|Tr<|Rm Y<|R2 XK Y<|Ra Y<|Za<|?_
 obtain rfl := rt h
 exact Zs (ZQ Y (.one<|rb Y))
theorem ZdI {p : Vector Int 97} {r : Int} (h : JG p = some r) :
 CSpec Tryz.prog gl0 78 [.rp (List.map C5 p.toList) 0] (.int .i64 r) := by
 unfold JG at h
 replace h := Qd h
 refine So Tryz.func78 Y fun w0 A=>Tr<|Ra Y<|Za<|Zl<|Zk<|K1 0 Y<|Tr<|Rm Y<|R1 ZJ Y<|bE h fun x h_x h=>Rq Y (QC (ov Y) (ov Y) Zi1 h_x)<|Rq Y (Zi (ov Y) tS5<|Qp<|Xd (o := 0) (o' := ((Int.toNat 96) * 1)) (ZB arL)<|Xj h_x)<|R2 Zbg Y<|Ra Y<|Za<|K2 0 3 Y<|If h Y (fun h=>?_) fun h=>?_
 ·
  refine K0<|Tr<|Ra Y<|Za<|?_
  obtain rfl := rt h
  exact Zs (ZQ Y (.one<|rb Y))
 ·
  refine K1 0 Y<|Tr<|Rm Y<|R1 ZJ Y<|bE h fun l h_l h=>Rq Y (ZiX (f := C5) (ov Y) Zi1 tZ_5 (ZB arL) Y on on h_l)<|bE h fun y h_y h=>Rq Y (Zq (Za2 Y (fun z0 _ hz=>ZfB hz) h_y)<|.cons (ov Y) (.b Y)<|.cons (ov Y) .fn .nil)<|Ra Y<|Za<|K1 9 Y<|If h Y (fun h=>?_) fun h=>?_
  ·
   refine K0<|Tr<|Ra Y<|Za<|?_
   obtain rfl := rt h
   exact Zs (ZQ Y (.one<|rb Y))
  ·
   refine Zm<|K0<|Tr<|Ra Y<|Za<|?_
   obtain rfl := rt h
   exact Zs (ZQ Y (.one<|rb Y))
theorem ZfY {m : api_Memory} {r : ring_spot} (h : JT m = some r) :
 CSpec Tryz.prog gl0 64 [.agg [.int .i64 m.Slots, .int .i64 m.Limit, .sl 49 (List.map R49 m.Sectors), .sl 3 (List.map R3 m.Wear), .sl 4 (List.map R4 m.Bad)]] (.agg [.int .i64 r.sector, .int .i64 r.slot]) := by
 unfold JT at h
 replace h := Qd h
 refine So Tryz.func64 Y fun w0 A=>Tr<|Rq Y (ZbY (cva<|ov Y) Y tZ_26 Y)<|Rx Y (ZL (row := [_, _]) 0 Y ZhF Y tZ_105)<|Za<|K2 1 2 Y<|Tr<|Rq Y (Xb (ov Y) Qu Y Y)<|bE h fun y h_y h=>Rq Y (Zq (ZdM h_y)<|.cons (ov Y) (.aggB Y) .nil)<|Ra Y<|Za<|Zl<|K3 1 2 3 Y<|Tr<|Rm Y<|Rl tZ_3 QH Y<|R2 Zbg Y<|Za<|K4 1 2 3 10 Y<|If h Y (fun h=>?_) fun h=>?_
 ·
  refine K1 2 Y<|Tr<|Rq Y (Z8 (ys := [_, _]) ZiI ZiR ZhF (.cons (cvs (ov Y)<|Zd Y) .nil) Y)<|Rx Y (Zh (ov Y) (ov Y) (Zu ZfR Y) Y Y Y (Nat.le_of_ble_eq_true Y) (Zb Y) Y)<|Za<|?_
  obtain rfl := rt h
  exact Zs (ZQ Y (.one<|.agg Y Y Y Y ZfR Y Y<|pwB Y))
 ·
  refine Zm<|K3 1 2 3 Y<|Tr<|Rm Y<|Rm Y<|Rl tZ_3 QH Y<|R2 Zg9 Y<|bE h fun x h_x h=>Rq Y (Z4 (ov Y) (ov Y) QH h_x)<|Rq Y (Zi (ov Y) tS3 Y)<|Rq Y (Z8 (ys := [_, _]) ZiI ZiR ZhF (.cons (cvs (ov Y)<|Zd Y) .nil) Y)<|Rx Y (ZL (row := [_, _]) 1 Y ZhF Y tZ_105)<|Rx Y (Zh (ov Y) (ov Y) (Zu ZfR Y) Y Y Y (Nat.le_of_ble_eq_true Y) (Zb Y) Y)<|Za<|I1 (fun slot=>⟨[(2, .ptr 0 1 0 0), (4, .ptr 1 1 0 0)], [some ⟨105, [[.int .i64 0, .int .i64 0]]⟩, some ⟨105, [[.int .i64 x, .int .i64 slot]]⟩]⟩) h (fun h=>?_) fun slot h=>?_
  ·
   refine K3 1 2 4 Y<|Tr<|Rq Y (ZM (ov Y) Ze3)<|Rq Y (Zi (ov Y) tS3 Y)<|Rm Y<|Za<|Zk<|?_
   obtain ⟨r1, hl1, ho1⟩ := QY h
   refine L2 (fun slot2 i=>⟨[(1, .rp [.int .i64 m.Slots, .int .i64 m.Limit, .sl 49 (List.map R49 m.Sectors), .sl 3 (List.map R3 m.Wear), .sl 4 (List.map R4 m.Bad)] 0), (2, .ptr 0 1 0 0), (4, .ptr 1 1 0 0), (20, .int .i64 m.Slots), (21, .int .i64 i)], [some ⟨105, [[.int .i64 0, .int .i64 0]]⟩, some ⟨105, [[.int .i64 x, .int .i64 slot2]]⟩]⟩) hl1 (ES [some 0, some 1]) fun n1 slot2 i h=>?_
   unfold JB at h
   refine Tr<|R2 Z1 Y<|Za<|Zl<|If h Y (fun h=>?_) fun h=>?_
   ·
    refine Zm<|Zl<|Zk<|K5 1 2 4 20 21 Y<|Tr<|Rm Y<|Ra Y<|Za<|K6 1 2 4 5 20 21 Y<|Tr<|Rq Y (ZM (ov Y) Zp)<|Rq Y (Zi (ov Y) ZD Y)<|Rq Y (Zg (ov Y) Y Y Zes)<|Rq Y (Zo (ov Y) Y Y Y tS3 Y)<|bE h fun x2 h_x2 h=>Rq Y (Z4 (ov Y) (ov Y) Zz h_x2)<|Rq Y (Zi (ov Y) Zfl Y)<|Rm Y<|bE h fun y2 h_y2 h=>Rq Y (Zq (Zei h_y2)<|.cons (ov Y) (.b Y)<|.cons (ov Y) (.b Y) .nil)<|bE h fun y3 h_y3 h=>Rq Y (Zq (ZdI h_y3)<|.cons (ov Y) (.b Y) .nil)<|R2 XK Y<|Za<|K7 1 2 4 5 20 21 33 Y<|If h Y (fun h=>?_) fun h=>?_
    ·
     exact K6 1 2 4 5 20 21 Y<|ZA<|Rm Y<|R2 ZY Y<|Rq Y (Zg (ov Y) Y Y Zfp)<|Rx Y (Zh (ov Y) (ov Y) (Zf tS3) Y Y Y (Nat.le_of_ble_eq_true Y) (Zb Y) Y)<|Za<|K5 1 2 4 20 21 Y<|ZA<|R2 ZY Y<|Rm Y<|Za<|⟨_, h, ES [some 0, some 1]⟩
    ·
     exact Zm<|K5 1 2 4 20 21 Y<|ZA<|R2 ZY Y<|Rm Y<|Za<|⟨_, h, ES [some 0, some 1]⟩
   ·
    refine ZN<|?_
    replace h := lx h ▸ ho1
    exact ⟨_, h, ES [some 0, some 1]⟩
  ·
   refine Tr<|Rq Y (Qb (ov Y) Y Y Y ZfR Y Y)<|Rx Y (Zh (ov Y) (ov Y) (Zu ZfR Y) Y Y Y (Nat.le_of_ble_eq_true Y) (Zb Y) Y)<|Za<|?_
   obtain rfl := rt h
   exact Zs (ZQ Y (.one<|.agg Y Y Y Y ZfR Y Y<|pwB Y))
theorem ZdN {l : List api_Memory} {copies : Int} {r : (Int) ⊕ (ring_Recorder × Int)} (h : Zah l copies = some r) :
 GSpec Tryz.prog gl0 15 [.sl 26 (List.map R26 l), .int .i64 copies] [] (Sum.elim (fun r => .tuple [.lit (.pointer none), .int .i64 r]) (fun r => .tuple [.ptr 0 1 0 0, .int .i64 r.2]) r) (Sum.elim (fun r => []) (fun r => [some ⟨102, [[.own 1 r.1.bank.memories.length, .own 2 r.1.bank.spots.length, .int .i64 r.1.copies, .bool r.1.frozen, .bool r.1.stopped, .int .i64 r.1.last, .bool r.1.some_]]⟩, some ⟨26, List.map O26 r.1.bank.memories⟩, some ⟨105, List.map R105 r.1.bank.spots⟩]) r) := by
 unfold Zah at h
 replace h := Qd h
 refine Qt (by kernel_rfl) Tryz.func15 Y Y<|?_
 intro w0 A W φ0
 refine Tr<|Ra Y<|Ra Y<|Za<|Zl<|K2 0 1 Y<|Tr<|Rm Y<|bE h fun y h_y h=>Rq Y (Zq (Zdb h_y)<|.cons (ov Y) (.b Y) .nil)<|Ra Y<|Za<|K3 0 1 6 Y<|Tr<|Rm Y<|R2 XK Y<|Za<|K4 0 1 6 17 Y<|If h Y (fun h=>?_) fun h=>?_
 ·
  refine K1 6 Y<|Tr<|Rm Y<|Ra Y<|Ra Y<|Za<|?_
  obtain rfl := rt h
  exact Zs<|JI [] Y (.cons (.tmp Y)<|.cons (.tmp Y) .nil) .nil Y Y<|Xo<|rlc (.dat Y)<|rlc (.dat Y) rln
 ·
  refine Zm<|Zl<|K2 0 1 Y<|Tr<|Rm Y<|Rm Y<|Rl tZ_26 ZcD Y<|bE h fun y2 h_y2 h=>Rq Y (Zq (ZZ h_y2)<|.cons (ov Y) (.b Y)<|.cons (ov Y) (.b Y)<|.cons (ov Y) (.b Y) .nil)<|R1 XU Y<|Za<|K3 0 1 23 Y<|If h Y (fun h=>?_) fun h=>?_
  ·
   refine K0<|Tr<|Ra Y<|Ra Y<|Za<|?_
   obtain rfl := rt h
   exact Zs<|JI [] Y (.cons (.tmp Y)<|.cons (.tmp Y) .nil) .nil Y Y<|Xo<|rlc (.dat Y)<|rlc (.dat Y) rln
  ·
   refine Zm<|K2 0 1 Y<|Tr<|Rm Y<|Rq Y (Z8 (ys := [_, _, _, _, _, _, _]) Zlc Zk0 Zlv (.cons (cvs (ov Y)<|Zd Y) .nil) Y)<|Rx Y (Zja 0 Y (ov Y) Zlz Y)<|Ra Y<|Za<|K2 0 7 Y<|Tr<|Rm Y<|Rm Y<|bE h fun y3 h_y3 h=>Rx Y (Zv [] (ZfC h_y3) (.cons (ov Y) (.dat Y) .nil) .nil Y (.keep Y Y<|.lent 0 (.inr ⟨Nat.le_of_ble_eq_true Y, Y⟩) Y (roO Xn) .nil) Y Y<|.own _<|.inr ⟨Nat.le_of_ble_eq_true Y, Y⟩)<|Rq Y (ZC (ov Y) Y Y)<|Rq Y (Zg (ov Y) Y Y ZcO)<|Rq Y (Zg (ov Y) Y Y Zci)<|Rx Y (Zh (ov Y) (ov Y) (Zf Zh1) Y Y Y (Nat.le_of_ble_eq_true Y) (Zb Y) Y)<|Za<|I2 (fun spots frozen=>⟨[(7, .ptr 0 1 0 0)], [some ⟨102, [[.own 1 y3.length, .own 2 spots.length, .int .i64 copies, .bool frozen, .bool false, .int .i64 0, .bool false]]⟩, some ⟨26, List.map O26 y3⟩, some ⟨105, List.map R105 spots⟩]⟩) h (fun h=>?_) fun spots frozen h=>?_
   ·
    refine K1 7 Y<|QF [some ⟨102, [[.own 1 y3.length, .nils, .int .i64 copies, .bool false, .bool false, .int .i64 0, .bool false]]⟩, some ⟨26, List.map O26 y3⟩] Y<|Tr<|Rm Y<|Rq Y (ZC (ov Y) Y Y)<|Rq Y (Zg (ov Y) Y Y ZcO)<|Rq Y (Zg (ov Y) Y Y Zci)<|Rq Y (Zo (ov Y) Y Y Y Zh1 Y)<|Rq Y (Zdt (ov Y) Y Y ZcD)<|Rm Y<|Za<|Zk<|?_
    obtain ⟨r1, hl1, ho1⟩ := QY h
    refine L3 (fun spots2 frozen2 i=>⟨[(7, .ptr 0 1 0 0), (37, .own 1 y3.length), (38, .int .i64 (y3.length : Int)), (39, .int .i64 i)], [some ⟨102, [[.own 1 y3.length, .own 2 spots2.length, .int .i64 copies, .bool frozen2, .bool false, .int .i64 0, .bool false]]⟩, some ⟨26, List.map O26 y3⟩, some ⟨105, List.map R105 spots2⟩]⟩) hl1 (ES [some 0, some 1, none] (hhp := .cons Y (ro1 (by exact tZ_102.symm)<|rlc (.own _ Y)<|rlc (.row Y)<|rlc (.dat Y)<|rlc (.dat Y)<|rlc (.dat Y)<|rlc (.dat Y)<|rlc (.dat Y) rln)<|.cons Y (roO Xn)<|.row 105 .nil)) fun n1 spots2 frozen2 i h=>?_
    unfold ZbD at h
    refine Tr<|R2 Z1 Y<|Za<|Zl<|If h Y (fun h=>?_) fun h=>?_
    ·
     refine Zm<|Zl<|Zk<|K4 7 37 38 39 Y<|Tr<|bE h fun x h_x h=>Rq Y (XB (ov Y) (ov Y) ZcD Y Y h_x)<|QK (Ent.focusH (r := 1) (j := 2) (e' := 49) (g := O49) (ys := x.Sectors) Y (ZF h_x).2 Y ZW)<|QK (Ent.focusI (r := 1) (j := 3) (e' := 3) (g := R3) (ys := x.Wear) Y (ZF h_x).2 Y DR3)<|QK (Ent.focusI (r := 1) (j := 4) (e' := 4) (g := R4) (ys := x.Bad) Y (ZF h_x).2 Y DR4)<|Rq Y (Zkg (ov Y) Y Y (ZF h_x).2 Qu Y Y)<|Rx Y (ZL (row := [_, _, _, _, _]) 6 Y Q8 Y tZ_26)<|Rx Y (Zh (ov Y) (ov Y) (Zu Qu Y) Y Y Y (Nat.le_of_ble_eq_true Y) (Zb Y) Y)<|Zd6 [some ⟨102, [[.own 1 y3.length, .own 2 spots2.length, .int .i64 copies, .bool frozen2, .bool false, .int .i64 0, .bool false]]⟩, some ⟨26, List.set (List.map O26 y3) i.toNat [.int .i64 x.Slots, .int .i64 x.Limit, .own 3 x.Sectors.length, .own 4 x.Wear.length, .own 5 x.Bad.length]⟩, some ⟨105, List.map R105 spots2⟩, some ⟨49, List.map O49 x.Sectors⟩, some ⟨3, List.map R3 x.Wear⟩, some ⟨4, List.map R4 x.Bad⟩, some ⟨26, [[.int .i64 x.Slots, .int .i64 x.Limit, .own 3 x.Sectors.length, .own 4 x.Wear.length, .own 5 x.Bad.length]]⟩] Y<|Za<|K5 7 9 37 38 39 Y<|Tr<|Rq Y (Qb (ov Y) Y Y Y Qu Y Y)<|bE h fun y4 h_y4 h=>Rq Y (ZbA (ZfY h_y4) (.agg<|by simp only [List.mem_cons, List.not_mem_nil, or_false, forall_eq_or_imp, forall_eq]; exact ⟨.int, .int⟩)<|.cons (ov Y) (View.aggL<|.cons (Dat.view<|.b Y)<|.cons (Dat.view<|.b Y)<|.cons (View.ownO Y Y ZW (fun x=>(D49 x).1) Zj0)<|.cons (View.ownM Y Y D3)<|.cons (View.ownM Y Y D4) .nil) .nil)<|Rx Y (ZL (row := [_, _]) 7 Y ZhF Y tZ_105)<|Rx Y (Zh (ov Y) (ov Y) (Zu ZfR Y) Y Y Y (Nat.le_of_ble_eq_true Y) (Zb Y) Y)<|Zd6 [some ⟨102, [[.own 1 y3.length, .own 2 spots2.length, .int .i64 copies, .bool frozen2, .bool false, .int .i64 0, .bool false]]⟩, some ⟨26, List.set (List.map O26 y3) i.toNat [.int .i64 x.Slots, .int .i64 x.Limit, .own 3 x.Sectors.length, .own 4 x.Wear.length, .own 5 x.Bad.length]⟩, some ⟨105, List.map R105 spots2⟩, some ⟨49, List.map O49 x.Sectors⟩, some ⟨3, List.map R3 x.Wear⟩, some ⟨4, List.map R4 x.Bad⟩, some ⟨26, [[.int .i64 x.Slots, .int .i64 x.Limit, .own 3 x.Sectors.length, .own 4 x.Wear.length, .own 5 x.Bad.length]]⟩, some ⟨105, [[.int .i64 y4.sector, .int .i64 y4.slot]]⟩] Y<|Za<|Zl<|K6 7 9 10 37 38 39 Y<|Qj (cw := md0) (by kernel_rfl)<|D1 1 Zj Y<|Dq 2 Y (ZC (ov Y) Y Y)<|Dq 3 Y (Zg (ov Y) Y Y ZcO)<|Dq 4 Y (Zg (ov Y) Y Y ZdD)<|Dq 5 Y (Zo (ov Y) Y Y Y ZiL Y)<|Dq 6 Y (Qb (ov Y) Y Y Y ZfR Y Y)<|ZkH 7 (.sl 105<|List.map R105 ([y4] : List ring_spot)) Y (by kernel_rfl) Y Y (Q0 ZiT (.cons (cva<|ov Y) Y (pwD Y) .nil) Y Y)<|ZP 0 _ Y (by kernel_rfl) Y Y (fun hp'=>Zj<|ov Y)<|bE h fun l2 h_l2 h=>Do 8 Y (Q2 (ov Y) (QX (ov Y) tZ_105) ZiT Y Y Y (fun _=>Zb Y) Y h_l2)<|Dq 9 Y (ZC (ov Y) Y Y)<|Dq 10 Y (Zg (ov Y) Y Y ZcO)<|Dq 11 Y (Zg (ov Y) Y Y ZdD)<|Do 12 Y (Zh (ov Y) (ov Y) (Zf ZiL) Y Y Y (Nat.le_of_ble_eq_true Y) (Zb Y) Y)<|Dd<|K6 7 9 10 37 38 39 Y<|QF [some ⟨102, [[.own 1 y3.length, .own 2 l2.length, .int .i64 copies, .bool frozen2, .bool false, .int .i64 0, .bool false]]⟩, some ⟨26, List.set (List.map O26 y3) i.toNat [.int .i64 x.Slots, .int .i64 x.Limit, .own 3 x.Sectors.length, .own 4 x.Wear.length, .own 5 x.Bad.length]⟩, some ⟨105, List.map R105 l2⟩, some ⟨49, List.map O49 x.Sectors⟩, some ⟨3, List.map R3 x.Wear⟩, some ⟨4, List.map R4 x.Bad⟩, some ⟨26, [[.int .i64 x.Slots, .int .i64 x.Limit, .own 3 x.Sectors.length, .own 4 x.Wear.length, .own 5 x.Bad.length]]⟩, some ⟨105, [[.int .i64 y4.sector, .int .i64 y4.slot]]⟩] Y<|Tr<|Rq Y (Zg (ov Y) Y Y Zes)<|Rq Y (Zo (ov Y) Y Y Y tS3 Y)<|R2 Zha Y<|Za<|K7 7 9 10 37 38 39 59 Y<|If h Y (fun h=>?_) fun h=>?_
     ·
      exact K6 7 9 10 37 38 39 Y<|Tr<|Rq Y (Zg (ov Y) Y Y Zp)<|Rq Y (Zo (ov Y) Y Y Y ZD Y)<|Rq Y (Zg (ov Y) Y Y Zes)<|Rq Y (Zo (ov Y) Y Y Y tS3 Y)<|bE h fun x2 h_x2 h=>Rq Y (XB (ov Y) (ov Y) Zz Y Y h_x2)<|QK (Ent.focusH (r := 3) (j := 0) (e' := 5) (g := R5) (ys := x2) Y (ZF h_x2).2 Y DR5)<|Rq Y (ZbS (ov Y) Y Y (ZF h_x2).2 Zfl Y)<|bE h fun y5 h_y5 h=>Rq Y (ZbA (Zaz h_y5) (.tuple<|by simp only [List.mem_cons, List.not_mem_nil, or_false, forall_eq_or_imp, forall_eq]; exact ⟨.int, .bool, .bool⟩)<|.cons (ov Y) (View.ownM Y Y D5) .nil)<|Rm Y<|Rq Y (Zr (ov Y) Y)<|Rq Y (Zr (ov Y) Y)<|Rq Y (Zr (ov Y) Y)<|Ra Y<|Ra Y<|Ra Y<|Zd6 [some ⟨102, [[.own 1 y3.length, .own 2 l2.length, .int .i64 copies, .bool frozen2, .bool false, .int .i64 0, .bool false]]⟩, some ⟨26, List.set (List.map O26 y3) i.toNat [.int .i64 x.Slots, .int .i64 x.Limit, .own 3 x.Sectors.length, .own 4 x.Wear.length, .own 5 x.Bad.length]⟩, some ⟨105, List.map R105 l2⟩, some ⟨49, List.set (List.map O49 x.Sectors) y4.sector.toNat [.own 8 x2.length]⟩, some ⟨3, List.map R3 x.Wear⟩, some ⟨4, List.map R4 x.Bad⟩, some ⟨26, [[.int .i64 x.Slots, .int .i64 x.Limit, .own 3 x.Sectors.length, .own 4 x.Wear.length, .own 5 x.Bad.length]]⟩, some ⟨105, [[.int .i64 y4.sector, .int .i64 y4.slot]]⟩, some ⟨5, List.map R5 x2⟩] Y<|QK (Ent.absorbH (r := 3) (j := 0) (q := 8) Y (ZF h_x2).2 Y Y (List.length_map ..) Y)<|QK (Ent.closeS (r := 3) Y (ZF h_x2).2 Y)<|QK (Ent.absorbH (r := 1) (j := 2) (q := 3) Y (ZF h_x).2 Y Y (List.length_map ..) Y)<|QK (Ent.absorbH (r := 1) (j := 3) (q := 4) Y (ZF h_x).2 Y Y (List.length_map ..) Y)<|QK (Ent.absorbH (r := 1) (j := 4) (q := 5) Y (ZF h_x).2 Y Y (List.length_map ..) Y)<|QK (Ent.closeS (r := 1) Y (ZF h_x).2 Y)<|Za<|K5 7 12 37 38 39 Y<|QF [some ⟨102, [[.own 1 y3.length, .own 2 l2.length, .int .i64 copies, .bool frozen2, .bool false, .int .i64 0, .bool false]]⟩, some ⟨26, List.map O26 y3⟩, some ⟨105, List.map R105 l2⟩, none, none, none, some ⟨26, [[.int .i64 x.Slots, .int .i64 x.Limit, .own 3 x.Sectors.length, .own 4 x.Wear.length, .own 5 x.Bad.length]]⟩, some ⟨105, [[.int .i64 y4.sector, .int .i64 y4.slot]]⟩, none] Y<|ZA<|Rm Y<|Rm Y<|Rq Y (ZC (ov Y) Y Y)<|Rq Y (Zg (ov Y) Y Y ZhT)<|Rq Y (Zo (ov Y) Y Y Y tS4 Y)<|Rm Y<|Rq Y (.guarded (frozen2 == false) Y Y Y Y fun h => Zj<|ov Y)<|Rq Y (ZdS (ov Y) fun hp=>ow Y<|gF hp)<|Rq Y (ZC (ov Y) Y Y)<|Rq Y (Zg (ov Y) Y Y ZhT)<|Rx Y (Zh (ov Y) (ov Y) (Zf tS4) Y Y Y (Nat.le_of_ble_eq_true Y) (Zb Y) Y)<|Za<|K4 7 37 38 39 Y<|QF [some ⟨102, [[.own 1 y3.length, .own 2 l2.length, .int .i64 copies, .bool (frozen2 || y5.2.1), .bool false, .int .i64 0, .bool false]]⟩, some ⟨26, List.map O26 y3⟩, some ⟨105, List.map R105 l2⟩, none, none, none, some ⟨26, [[.int .i64 x.Slots, .int .i64 x.Limit, .own 3 x.Sectors.length, .own 4 x.Wear.length, .own 5 x.Bad.length]]⟩, some ⟨105, [[.int .i64 y4.sector, .int .i64 y4.slot]]⟩, none] Y<|ZA<|R2 ZY Y<|Rm Y<|Za<|⟨_, h, ES [some 0, some 1, some 2] (hhp := .cons Y (ro1 (by exact tZ_102.symm)<|rlc (.own _ Y)<|rlc (.own _ Y)<|rlc (.dat Y)<|rlc (.dat Y)<|rlc (.dat Y)<|rlc (.dat Y)<|rlc (.dat Y) rln)<|.cons Y (roO Xn)<|.cons Y (roM D105) .nil)⟩
     ·
      exact Zm<|K4 7 37 38 39 Y<|ZA<|R2 ZY Y<|Rm Y<|QK (Ent.absorbH (r := 1) (j := 2) (q := 3) Y (ZF h_x).2 Y Y (List.length_map ..) Y)<|QK (Ent.absorbH (r := 1) (j := 3) (q := 4) Y (ZF h_x).2 Y Y (List.length_map ..) Y)<|QK (Ent.absorbH (r := 1) (j := 4) (q := 5) Y (ZF h_x).2 Y Y (List.length_map ..) Y)<|QK (Ent.closeS (r := 1) Y (ZF h_x).2 Y)<|Za<|⟨_, h, ES [some 0, some 1, some 2] (hhp := .cons Y (ro1 (by exact tZ_102.symm)<|rlc (.own _ Y)<|rlc (.own _ Y)<|rlc (.dat Y)<|rlc (.dat Y)<|rlc (.dat Y)<|rlc (.dat Y)<|rlc (.dat Y) rln)<|.cons Y (roO Xn)<|.cons Y (roM D105) .nil)⟩
    ·
     refine ZN<|?_
     replace h := lx h ▸ ho1
     exact ⟨_, h, ES [some 0, some 1, some 2] (hhp := .cons Y (ro1 (by exact tZ_102.symm)<|rlc (.own _ Y)<|rlc (.own _ Y)<|rlc (.dat Y)<|rlc (.dat Y)<|rlc (.dat Y)<|rlc (.dat Y)<|rlc (.dat Y) rln)<|.cons Y (roO Xn)<|.cons Y (roM D105) .nil)⟩
   ·
    refine Tr<|Rm Y<|Ra Y<|Ra Y<|Za<|?_
    obtain rfl := rt h
    exact Zs<|JI [some 0, some 1, some 2] Y (.cons (.tmp Y)<|.cons (.tmp Y) .nil) (.cons Y (ro1 (by exact tZ_102.symm)<|rlc (.own _ Y)<|rlc (.own _ Y)<|rlc (.dat Y)<|rlc (.dat Y)<|rlc (.dat Y)<|rlc (.dat Y)<|rlc (.dat Y) rln)<|.cons Y (roO Xn)<|.cons Y (roM D105) .nil) Y Y<|Xo<|rlc (.ptr _ _ _ Y)<|rlc (.dat Y) rln
theorem Zev {l : List api_Memory} {copies : Int} {r : Int} (h : Zah l copies = some (.inl r)) :
    GSpec Tryz.prog gl0 15 [.sl 26 (List.map R26 l), .int .i64 copies] [] (.tuple [.lit (.pointer none), .int .i64 r]) [] := ZdN h
theorem ZeD {l : List api_Memory} {copies : Int} {r : ring_Recorder × Int} (h : Zah l copies = some (.inr r)) :
    GSpec Tryz.prog gl0 15 [.sl 26 (List.map R26 l), .int .i64 copies] [] (.tuple [.ptr 0 1 0 0, .int .i64 r.2]) [some ⟨102, [[.own 1 r.1.bank.memories.length, .own 2 r.1.bank.spots.length, .int .i64 r.1.copies, .bool r.1.frozen, .bool r.1.stopped, .int .i64 r.1.last, .bool r.1.some_]]⟩, some ⟨26, List.map O26 r.1.bank.memories⟩, some ⟨105, List.map R105 r.1.bank.spots⟩] := ZdN h
theorem ZdW {r_ : ring_Recorder} {power : Int} {r : Int} (h : Xe r_ power = some r) :
 CSpec Tryz.prog gl0 65 [.rp [.sl 26 (List.map R26 r_.bank.memories), .sl 105 (List.map R105 r_.bank.spots), .int .i64 r_.copies, .bool r_.frozen, .bool r_.stopped, .int .i64 r_.last, .bool r_.some_] 0, .int .i64 power] (.int .i64 r) := by
 unfold Xe at h
 replace h := Qd h
 refine So Tryz.func65 Y fun w0 A=>Tr<|Ra Y<|Za<|Zl<|Zk<|K2 0 1 Y<|Tr<|Rm Y<|R1 ZJ Y<|Rq Y (ZM (ov Y) ZiZ)<|Rq Y (Zi (ov Y) tS4 Y)<|Ra Y<|Za<|K3 0 1 5 Y<|If h Y (fun h=>?_) fun h=>?_
 ·
  refine K0<|Tr<|Ra Y<|Za<|?_
  obtain rfl := rt h
  exact Zs (ZQ Y (.one<|rb Y))
 ·
  refine K2 0 1 Y<|Tr<|Rm Y<|R1 ZJ Y<|Rq Y (ZM (ov Y) ZhT)<|Rq Y (Zi (ov Y) tS4 Y)<|Ra Y<|Za<|K2 1 10 Y<|If h Y (fun h=>?_) fun h=>?_
  ·
   refine K0<|Tr<|Ra Y<|Za<|?_
   obtain rfl := rt h
   exact Zs (ZQ Y (.one<|rb Y))
  ·
   refine K1 1 Y<|Tr<|Rm Y<|bE h fun y h_y h=>Rq Y (Zq (ZZ h_y)<|.cons (ov Y) (.b Y)<|.cons (ov Y) (.b Y)<|.cons (ov Y) (.b Y) .nil)<|R1 XU Y<|Ra Y<|Za<|K1 15 Y<|If h Y (fun h=>?_) fun h=>?_
   ·
    refine K0<|Tr<|Ra Y<|Za<|?_
    obtain rfl := rt h
    exact Zs (ZQ Y (.one<|rb Y))
   ·
    refine Zm<|K0<|Tr<|Ra Y<|Za<|?_
    obtain rfl := rt h
    exact Zs (ZQ Y (.one<|rb Y))
theorem Je {w : Int} {r : Int} (h : XF w = some r) :
 CSpec Tryz.prog gl0 104 [.int .u16 w] (.int .i64 r) := by
 unfold XF at h
 replace h := Qd h
 refine So Tryz.func104 Y fun w0 A=>Tr<|Ra Y<|Za<|Tr<|Rm Y<|R2 Zan Y<|Rq Y (Qv (ov Y) ZcJ tI3 Y)<|Ra Y<|Za<|?_
 obtain rfl := rt h
 exact Zs (ZQ Y (.one<|rb Y))
theorem ZcP {f : Vector Int 64} {r : Int} (h : XJ f = some r) :
 CSpec Tryz.prog gl0 102 [.rp (List.map C40 f.toList) 0] (.int .i64 r) := by
 unfold XJ at h
 replace h := Qd h
 refine So Tryz.func102 Y fun w0 A=>Tr<|Ra Y<|Za<|Zl<|Qj (cw := md0) (by kernel_rfl)<|D1 0 Zj Y<|D1 1 ZJ Y<|bE h fun x h_x h=>Dq 2 Y (QC (ov Y) (ov Y) JL h_x)<|Dq 3 Y (Zi (ov Y) ZaG<|Qp<|Xd (o := 0) (o' := ((Int.toNat 1) * 1)) (ZB arL)<|Xj h_x)<|bE h fun y h_y h=>Dq 4 Y (Zq (Je h_y)<|.cons (ov Y) (.b Y) .nil)<|D1 5 Zj Y<|D1 6 ZJ Y<|bE h fun x2 h_x2 h=>Dq 7 Y (QC (ov Y) (ov Y) JL h_x2)<|Dq 8 Y (Zi (ov Y) ZaG<|Qp<|Xd (o := 0) (o' := ((Int.toNat 2) * 1)) (ZB arL)<|Xj h_x2)<|bE h fun y2 h_y2 h=>Dq 9 Y (Zq (Je h_y2)<|.cons (ov Y) (.b Y) .nil)<|bE h fun q h_q h=>Dq 10 Y (Zdr (ov Y) (ov Y) h_q)<|D2 11 ZeO Y<|D1 12 Qm Y<|Dd<|?_
 obtain rfl := rt h
 exact Zs (ZQ Y (.one<|rb Y))
theorem ZeF {x : Int} {r : Int} (h : XS x = some r) :
 CSpec Tryz.prog gl0 135 [.int .u16 x] (.int .i64 r) := by
 unfold XS at h
 replace h := Qd h
 refine So Tryz.func135 Y fun w0 A=>Tr<|Ra Y<|Za<|Zl<|Qj (cw := md0) (by kernel_rfl)<|D1 0 Zj Y<|bE h fun q h_q h=>Dq 1 Y (Zb8 (ov Y) (ov Y) h_q)<|bE h fun b h_b h=>Dq 2 Y (Ziv (ov Y) (ov Y) Zi4 h_b)<|D1 3 Zj Y<|D2 4 Zan Y<|bE h fun b2 h_b2 h=>Dq 5 Y (Ziv (ov Y) (ov Y) Zi4 h_b2)<|D2 6 ZY Y<|Dq 7 Y (Qv (ov Y) tI5 tI3 Y)<|D1 8 Qm Y<|Dd<|?_
 obtain rfl := rt h
 exact Zs (ZQ Y (.one<|rb Y))
theorem ZdA {w : Int} {r : Bool} (h : Zbv w = some r) :
 CSpec Tryz.prog gl0 103 [.int .u16 w] (.bool r) := by
 unfold Zbv at h
 replace h := Qd h
 refine So Tryz.func103 Y fun w0 A=>Tr<|Ra Y<|Za<|Tr<|Rm Y<|R2 ZhD Y<|Rm Y<|Rq Y (.guarded ((decide (w ≤ 4095)) == true) Y Y Y Y fun h => Zj<|ov Y)<|bE h fun y h_y h=>Rq Y (.guarded ((decide (w ≤ 4095)) == true) Y Y Y Y fun h => Zq (ZeF<|gdT h_y h)<|.cons (ow Y h) (.b Y) .nil)<|bE h fun q h_q h=>Rq Y (.guarded ((decide (w ≤ 4095)) == true) Y Y Y Y fun h => JM (ow Y h) (ov Y)<|gdT h_q h)<|Rq Y (.guarded ((decide (w ≤ 4095)) == true) Y Y Y Y fun h => Zbg (ow Y h)<|ov Y)<|Rq Y (ZaX (ov Y) fun hp=>ow Y<|gT hp)<|Ra Y<|Za<|?_
 obtain rfl := rt h
 exact Zs (ZQ Y (.one<|rb Y))
theorem Zhb {f : Vector Int 64} {r : Int} (h : ZbU f = some r) :
 CSpec Tryz.prog gl0 105 [.rp (List.map C40 f.toList) 0] (.int .i64 r) := by
 unfold ZbU at h
 replace h := Qd h
 refine So Tryz.func105 Y fun w0 A=>Tr<|Ra Y<|Za<|K1 0 Y<|Tr<|Ra Y<|Za<|I1 (fun n=>⟨[(3, .int .i64 n)], []⟩) h (fun h=>?_) fun n h=>?_
 ·
  refine Tr<|Rm Y<|Za<|Zk<|?_
  obtain ⟨r1, hl1, ho1⟩ := QY h
  refine L2 (fun n2 i=>⟨[(0, .rp (List.map C40 f.toList) 0), (3, .int .i64 n2), (5, .int .i64 i)], []⟩) hl1 (ES []) fun n1 n2 i h=>?_
  unfold ZaJ at h
  refine Tr<|R2 Z1 Y<|Za<|Zl<|If h Y (fun h=>?_) fun h=>?_
  ·
   exact Zm<|Zl<|Zk<|K3 0 3 5 Y<|Tr<|Rm Y<|Ra Y<|Za<|K4 0 3 4 5 Y<|ZA<|Rm Y<|Rm Y<|Rm Y<|R2 ZY Y<|R1 ZJ Y<|bE h fun x h_x h=>Rq Y (QC (ov Y) (ov Y) JL h_x)<|Rq Y (Zi (ov Y) ZaG<|Qp<|Xd (o := 0) (o' := ((i64 (i + 1)).toNat * 1)) (ZB arL)<|Xj h_x)<|bE h fun y h_y h=>Rq Y (Zq (Je h_y)<|.cons (ov Y) (.b Y) .nil)<|R2 Zh2 Y<|Ra Y<|Za<|K3 0 3 5 Y<|ZA<|R2 ZY Y<|Rm Y<|Za<|⟨_, h, ES []⟩
  ·
   refine ZN<|?_
   replace h := lx h ▸ ho1
   exact ⟨_, h, ES []⟩
 ·
  refine Tr<|Rm Y<|Ra Y<|Za<|?_
  obtain rfl := rt h
  exact Zs (ZQ Y (.one<|rb Y))
theorem Zf5 {f : Vector Int 64} {r : Int} (h : J3 f = some r) :
 CSpec Tryz.prog gl0 106 [.rp (List.map C40 f.toList) 0] (.int .i64 r) := by
 unfold J3 at h
 replace h := Qd h
 refine So Tryz.func106 Y fun w0 A=>Tr<|Ra Y<|Za<|K1 0 Y<|Tr<|Ra Y<|Za<|I1 (fun n=>⟨[(3, .int .i64 n)], []⟩) h (fun h=>?_) fun n h=>?_
 ·
  refine Tr<|Rm Y<|Za<|Zk<|?_
  obtain ⟨r1, hl1, ho1⟩ := QY h
  refine L2 (fun n2 i=>⟨[(0, .rp (List.map C40 f.toList) 0), (3, .int .i64 n2), (7, .int .i64 i)], []⟩) hl1 (ES []) fun n1 n2 i h=>?_
  unfold JF at h
  refine Tr<|R2 Z1 Y<|Za<|Zl<|If h Y (fun h=>?_) fun h=>?_
  ·
   refine Zm<|I1 (fun n3=>⟨[(0, .rp (List.map C40 f.toList) 0), (3, .int .i64 n3), (7, .int .i64 i)], []⟩) h (fun h=>?_) fun n3 h=>?_
   ·
    refine Zk<|K3 0 3 7 Y<|Tr<|Rm Y<|Ra Y<|Za<|K4 0 3 4 7 Y<|Tr<|Ra Y<|Za<|Zk<|?_
    obtain ⟨r2, hl2, ho2⟩ := QY h
    refine L2 (fun n4 k=>⟨[(0, .rp (List.map C40 f.toList) 0), (3, .int .i64 n4), (4, .int .i64 i), (5, .int .i64 k), (7, .int .i64 i)], []⟩) hl2 (ES []) fun n2 n4 k h=>?_
    unfold Jv at h
    refine Zl<|Tr<|Rm Y<|R2 Zha Y<|Za<|K6 0 3 4 5 7 11 Y<|If h Y (fun h=>?_) fun h=>?_
    ·
     refine Zm<|Zl<|Zk<|K5 0 3 4 5 7 Y<|Tr<|Rm Y<|R2 Zan Y<|R2 XK Y<|Ra Y<|Za<|K6 0 3 4 5 6 7 Y<|Tr<|Rm Y<|bE h fun q h_q h=>Rq Y (Zdr (ov Y) (ov Y) h_q)<|R2 Zan Y<|Ra Y<|Za<|K6 0 3 4 5 6 7 Y<|Tr<|Rm Y<|Rm Y<|Rm Y<|R1 ZJ Y<|bE h fun x h_x h=>Rq Y (QC (ov Y) (ov Y) JL h_x)<|Rq Y (Zi (ov Y) ZaG<|Qp<|Xd (o := 0) (o' := (i.toNat * 1)) (ZB arL)<|Xj h_x)<|Rm Y<|bE h fun q2 h_q2 h=>Rq Y (Zb8 (ov Y) (ov Y) h_q2)<|R2 Zan Y<|R2 Zbg Y<|Rq Y (Zh8 .neq (by simp) (ov Y) (ov Y) tB4)<|Za<|K6 0 3 4 5 7 30 Y<|If h Y (fun h=>?_) fun h=>?_
     ·
      exact K5 0 3 4 5 7 Y<|ZA<|Rm Y<|R2 Zh2 Y<|Ra Y<|Za<|K5 0 3 4 5 7 Y<|ZA<|Rm Y<|R2 Zg9 Y<|Ra Y<|Za<|⟨_, h, ES []⟩
     ·
      exact Zm<|K5 0 3 4 5 7 Y<|ZA<|Rm Y<|R2 Zg9 Y<|Ra Y<|Za<|⟨_, h, ES []⟩
    ·
     refine ZN<|?_
     replace h := lx h ▸ ho2
     exact ⟨_, h, ES []⟩
   ·
    exact ZA<|R2 ZY Y<|Rm Y<|Za<|⟨_, h, ES []⟩
  ·
   refine ZN<|?_
   replace h := lx h ▸ ho1
   exact ⟨_, h, ES []⟩
 ·
  refine Tr<|Rm Y<|Ra Y<|Za<|?_
  obtain rfl := rt h
  exact Zs (ZQ Y (.one<|rb Y))
theorem ZdX {f : Vector Int 64} {r : (List api_Flaw)} (h : Zau f = some r) :
 CSpec Tryz.prog gl0 66 [.agg (List.map C40 f.toList)] (.sl 149 (List.map R149 r)) := by
 unfold Zau at h
 replace h := Qd h
 refine So Tryz.func66 Y fun w0 A=>Tr<|Rq Y (ZbY (cva<|ov Y) arL tZ_42<|arD fun _ => Y)<|Ra Y<|Za<|K1 1 Y<|Tr<|Ra Y<|Za<|I1 (fun out=>⟨[(1, .rp (List.map C40 f.toList) 0), (3, .own 0 out.length)], [some ⟨149, List.map R149 out⟩]⟩) h (fun h=>?_) fun out h=>?_
 ·
  refine Tr<|Rq Y (Xb (ov Y) XT (Qx<|ZB arL) arL)<|Rm Y<|Za<|Zk<|?_
  obtain ⟨r1, hl1, ho1⟩ := QY h
  refine L2 (fun out2 i=>⟨[(1, .rp (List.map C40 f.toList) 0), (3, .own 0 out2.length), (7, .agg (List.map C40 f.toList)), (8, .int .i64 i)], [some ⟨149, List.map R149 out2⟩]⟩) hl1 (ES [none]) fun n1 out2 i h=>?_
  unfold Za4 at h
  refine Tr<|R2 Z1 Y<|Za<|Zl<|If h Y (fun h=>?_) fun h=>?_
  ·
   refine Zm<|Zl<|Zk<|K4 1 3 7 8 Y<|Tr<|Rm Y<|bE h fun x h_x h=>Rq Y (Zhv (ov Y) (ov Y) JL ZaG h_x)<|Ra Y<|Ra Y<|Za<|K6 1 3 4 5 7 8 Y<|Tr<|Rm Y<|R2 Zcu Y<|Za<|K6 1 3 4 7 8 13 Y<|If h Y (fun h=>?_) fun h=>?_
   ·
    exact K5 1 3 4 7 8 Y<|ZA<|Rm Y<|Rm Y<|Rq Y (Z8 (ys := [_, _]) Zhg Zhe Zif (.cons (cvs (ov Y)<|Zd Y)<|.cons (cvs (ov Y)<|Zd Y) .nil) Y)<|R_q (.sl 149<|List.map R149 ([(api_Flaw.mk i 5)] : List api_Flaw)) Y (Q0 Zdf (.cons (cva<|ov Y) Y (pwD Y) .nil) Y Y)<|bE h fun l h_l h=>Rx Y (Q2 (ov Y) (QX (ov Y) tZ_149) Zdf Y Y Y (fun _=>Zb Y) Y h_l)<|Ra Y<|Za<|K4 1 3 7 8 Y<|ZA<|R2 ZY Y<|Rm Y<|Za<|⟨_, h, ES [some 0]⟩
   ·
    exact Zm<|K4 1 3 7 8 Y<|ZA<|R2 ZY Y<|Rm Y<|Za<|⟨_, h, ES [some 0]⟩
  ·
   refine ZN<|?_
   replace h := lx h ▸ ho1
   exact ⟨_, h, ES [some 0]⟩
 ·
  refine Zl<|Tr<|Rm Y<|Rq Y (Zdt (ov Y) Y Y Zdf)<|R2 Zcu Y<|Za<|K3 1 3 22 Y<|If h Y (fun h=>?_) fun h=>?_
  ·
   refine K1 3 Y<|Tr<|Rm Y<|Ra Y<|Za<|?_
   obtain rfl := rt h
   exact Zs (ZQ Y (.one<|.tmp Y<|View.ownM Y Y D149))
  ·
   refine Zm<|I1 (fun out3=>⟨[(1, .rp (List.map C40 f.toList) 0), (3, .own 0 out3.length)], [some ⟨149, List.map R149 out3⟩]⟩) h (fun h=>?_) fun out3 h=>?_
   ·
    refine Zl<|K2 1 3 Y<|Qj (cw := md0) (by kernel_rfl)<|bE h fun x2 h_x2 h=>Dq 0 Y (QC (ov Y) (ov Y) JL h_x2)<|Dq 1 Y (Zi (ov Y) ZaG<|Qp<|Xd (o := 0) (o' := ((Int.toNat 0) * 1)) (ZB arL)<|Xj h_x2)<|bE h fun y h_y h=>Dq 2 Y (Zq (ZcP h_y)<|.cons (ov Y) (.b Y) .nil)<|bE h fun q h_q h=>Dq 3 Y (JM (ov Y) (ov Y) h_q)<|bE h fun x3 h_x3 h=>Dq 4 Y (QC (og (v := gv_frame_syncs) (k := .u16) (f := C40) (by simp [gl0]) fun _=>Y) (ov Y) Zlr h_x3)<|Dq 5 Y (Zi (ov Y) ZaG<|Qp<|Xd (o := 0) (o' := (q.toNat * 1)) (ZB arL)<|Xj h_x3)<|D2 6 XK Y<|Dd<|K3 1 3 30 Y<|If h Y (fun h=>?_) fun h=>?_
    ·
     exact K2 1 3 Y<|ZA<|Rm Y<|Rq Y (Z8 (ys := [_, _]) Zhg Zhe Zif (.cons (cvs (ov Y)<|Zd Y)<|.cons (cvs (ov Y)<|Zd Y) .nil) Y)<|R_q (.sl 149<|List.map R149 ([(api_Flaw.mk 0 1)] : List api_Flaw)) Y (Q0 Zdf (.cons (cva<|ov Y) Y (pwD Y) .nil) Y Y)<|bE h fun l2 h_l2 h=>Rx Y (Q2 (ov Y) (QX (ov Y) tZ_149) Zdf Y Y Y (fun _=>Zb Y) Y h_l2)<|Ra Y<|Za<|⟨_, h, ES [some 0]⟩
    ·
     exact Zm<|⟨_, h, ES [some 0]⟩
   ·
    refine I1 (fun out4=>⟨[(1, .rp (List.map C40 f.toList) 0), (3, .own 0 out4.length)], [some ⟨149, List.map R149 out4⟩]⟩) h (fun h=>?_) fun out4 h=>?_
    ·
     refine Tr<|Ra Y<|Za<|Zk<|?_
     obtain ⟨r2, hl2, ho2⟩ := QY h
     refine L2 (fun out5 i2=>⟨[(1, .rp (List.map C40 f.toList) 0), (3, .own 0 out5.length), (6, .int .i64 i2)], [some ⟨149, List.map R149 out5⟩]⟩) hl2 (ES [some 0]) fun n2 out5 i2 h=>?_
     unfold ZaV at h
     refine Zl<|Tr<|Rm Y<|R2 Z1 Y<|Za<|K4 1 3 6 36 Y<|If h Y (fun h=>?_) fun h=>?_
     ·
      refine Zm<|Zl<|Zk<|K3 1 3 6 Y<|Tr<|Rm Y<|bE h fun x4 h_x4 h=>Rq Y (QC (ov Y) (ov Y) JL h_x4)<|Rq Y (Zi (ov Y) ZaG<|Qp<|Xd (o := 0) (o' := (i2.toNat * 1)) (ZB arL)<|Xj h_x4)<|bE h fun y2 h_y2 h=>Rq Y (Zq (ZdA h_y2)<|.cons (ov Y) (.b Y) .nil)<|R1 XU Y<|Za<|K4 1 3 6 43 Y<|If h Y (fun h=>?_) fun h=>?_
      ·
       exact K3 1 3 6 Y<|ZA<|Rm Y<|Rm Y<|Rq Y (Z8 (ys := [_, _]) Zhg Zhe Zif (.cons (cvs (ov Y)<|Zd Y)<|.cons (cvs (ov Y)<|Zd Y) .nil) Y)<|R_q (.sl 149<|List.map R149 ([(api_Flaw.mk i2 2)] : List api_Flaw)) Y (Q0 Zdf (.cons (cva<|ov Y) Y (pwD Y) .nil) Y Y)<|bE h fun l3 h_l3 h=>Rx Y (Q2 (ov Y) (QX (ov Y) tZ_149) Zdf Y Y Y (fun _=>Zb Y) Y h_l3)<|Ra Y<|Za<|K3 1 3 6 Y<|ZA<|Rm Y<|R2 ZY Y<|Ra Y<|Za<|⟨_, h, ES [some 0]⟩
      ·
       exact Zm<|K3 1 3 6 Y<|ZA<|Rm Y<|R2 ZY Y<|Ra Y<|Za<|⟨_, h, ES [some 0]⟩
     ·
      refine ZN<|?_
      replace h := lx h ▸ ho2
      exact ⟨_, h, ES [some 0]⟩
    ·
     refine I1 (fun out6=>⟨[(1, .rp (List.map C40 f.toList) 0), (3, .own 0 out6.length)], [some ⟨149, List.map R149 out6⟩]⟩) h (fun h=>?_) fun out6 h=>?_
     ·
      refine Tr<|bE h fun x5 h_x5 h=>Rq Y (QC (ov Y) (ov Y) JL h_x5)<|Rq Y (Zi (ov Y) ZaG<|Qp<|Xd (o := 0) (o' := ((Int.toNat 61) * 1)) (ZB arL)<|Xj h_x5)<|bE h fun y3 h_y3 h=>Rq Y (Zq (Je h_y3)<|.cons (ov Y) (.b Y) .nil)<|bE h fun y4 h_y4 h=>Rq Y (Zq (Zhb h_y4)<|.cons (ov Y) (.b Y) .nil)<|R2 XK Y<|Za<|K3 1 3 53 Y<|If h Y (fun h=>?_) fun h=>?_
      ·
       exact K2 1 3 Y<|ZA<|Rm Y<|Rq Y (Z8 (ys := [_, _]) Zhg Zhe Zif (.cons (cvs (ov Y)<|Zd Y)<|.cons (cvs (ov Y)<|Zd Y) .nil) Y)<|R_q (.sl 149<|List.map R149 ([(api_Flaw.mk 61 3)] : List api_Flaw)) Y (Q0 Zdf (.cons (cva<|ov Y) Y (pwD Y) .nil) Y Y)<|bE h fun l4 h_l4 h=>Rx Y (Q2 (ov Y) (QX (ov Y) tZ_149) Zdf Y Y Y (fun _=>Zb Y) Y h_l4)<|Ra Y<|Za<|⟨_, h, ES [some 0]⟩
      ·
       exact Zm<|⟨_, h, ES [some 0]⟩
     ·
      refine Zl<|Zl<|Qj (cw := md0) (by kernel_rfl)<|bE h fun x6 h_x6 h=>Dq 0 Y (QC (ov Y) (ov Y) JL h_x6)<|Dq 1 Y (Zi (ov Y) ZaG<|Qp<|Xd (o := 0) (o' := ((Int.toNat 62) * 1)) (ZB arL)<|Xj h_x6)<|bE h fun y5 h_y5 h=>Dq 2 Y (Zq (Je h_y5)<|.cons (ov Y) (.b Y) .nil)<|bE h fun q2 h_q2 h=>Dq 3 Y (Zdr (ov Y) (ov Y) h_q2)<|bE h fun x7 h_x7 h=>Dq 4 Y (QC (ov Y) (ov Y) JL h_x7)<|Dq 5 Y (Zi (ov Y) ZaG<|Qp<|Xd (o := 0) (o' := ((Int.toNat 63) * 1)) (ZB arL)<|Xj h_x7)<|bE h fun y6 h_y6 h=>Dq 6 Y (Zq (Je h_y6)<|.cons (ov Y) (.b Y) .nil)<|D2 7 ZeO Y<|bE h fun y7 h_y7 h=>Dq 8 Y (Zq (Zf5 h_y7)<|.cons (ov Y) (.b Y) .nil)<|D2 9 XK Y<|Dd<|K2 3 67 Y<|If h Y (fun h=>?_) fun h=>?_
      ·
       refine K1 3 Y<|ZA<|Rm Y<|Rq Y (Z8 (ys := [_, _]) Zhg Zhe Zif (.cons (cvs (ov Y)<|Zd Y)<|.cons (cvs (ov Y)<|Zd Y) .nil) Y)<|R_q (.sl 149<|List.map R149 ([(api_Flaw.mk 62 4)] : List api_Flaw)) Y (Q0 Zdf (.cons (cva<|ov Y) Y (pwD Y) .nil) Y Y)<|bE h fun l5 h_l5 h=>Rx Y (Q2 (ov Y) (QX (ov Y) tZ_149) Zdf Y Y Y (fun _=>Zb Y) Y h_l5)<|Ra Y<|Za<|K1 3 Y<|Tr<|Rm Y<|Ra Y<|Za<|?_
       obtain rfl := rt h
       exact Zs (ZQ Y (.one<|.tmp Y<|View.ownM Y Y D149))
      ·
       refine Zm<|K1 3 Y<|Tr<|Rm Y<|Ra Y<|Za<|?_
       obtain rfl := rt h
       exact Zs (ZQ Y (.one<|.tmp Y<|View.ownM Y Y D149))
theorem ZdP {f : Vector Int 64} {r : Int × Bool} (h : JA f = some r) :
 CSpec Tryz.prog gl0 67 [.agg (List.map C40 f.toList)] (.tuple [.int .i64 r.1, .bool r.2]) := by
 unfold JA at h
 replace h := Qd h
 refine So Tryz.func67 Y fun w0 A=>Tr<|Rq Y (ZbY (cva<|ov Y) arL tZ_42<|arD fun _ => Y)<|Ra Y<|Ra Y<|Za<|Zl<|K1 1 Y<|Tr<|bE h fun x h_x h=>Rq Y (QC (ov Y) (ov Y) JL h_x)<|Rq Y (Zi (ov Y) ZaG<|Qp<|Xd (o := 0) (o' := ((Int.toNat 1) * 1)) (ZB arL)<|Xj h_x)<|bE h fun y h_y h=>Rq Y (Zq (ZdA h_y)<|.cons (ov Y) (.b Y) .nil)<|R1 XU Y<|Rm Y<|bE h fun x2 h_x2 h=>Rq Y (.guarded ((!y) == false) Y Y Y Y fun h => QC (ov Y) (ov Y) JL<|gdT h_x2 h)<|Rq Y (.guarded ((!y) == false) Y Y Y Y fun h => Zi (ow Y h) ZaG<|Qp<|Xd (o := 0) (o' := ((Int.toNat 2) * 1)) (ZB arL)<|Xj<|gdT h_x2 h)<|bE h fun y2 h_y2 h=>Rq Y (.guarded ((!y) == false) Y Y Y Y fun h => Zq (ZdA<|gdT h_y2 h)<|.cons (ow Y h) (.b Y) .nil)<|Rq Y (.guarded ((!y) == false) Y Y Y Y fun h => XU<|ow Y h)<|Rq Y (ZdS (ov Y) fun hp=>ow Y<|gF hp)<|Za<|K2 1 13 Y<|If h Y (fun h=>?_) fun h=>?_
 ·
  refine K0<|Tr<|Ra Y<|Ra Y<|Za<|?_
  obtain rfl := rt h
  exact Zs (ZQ Y (.two (rb Y)<|rb Y))
 ·
  refine Zm<|K1 1 Y<|Tr<|bE h fun y3 h_y3 h=>Rq Y (Zq (ZcP h_y3)<|.cons (ov Y) (.b Y) .nil)<|Ra Y<|Ra Y<|Za<|?_
  obtain rfl := rt h
  exact Zs (ZQ Y (.two (rb Y)<|rb Y))
theorem Zgz {number : Int} {memories : Int} {copies : Int} {r : (List Int)} (h : ZaU number memories copies = some r) :
 CSpec Tryz.prog gl0 68 [.int .i64 number, .int .i64 memories, .int .i64 copies] (.sl 3 (List.map R3 r)) := by
 unfold ZaU at h
 replace h := Qd h
 refine So Tryz.func68 Y fun w0 A=>Tr<|Ra Y<|Za<|K3 0 1 2 Y<|Tr<|Ra Y<|Za<|I1 (fun out=>⟨[(7, .own 0 out.length)], [some ⟨3, List.map R3 out⟩]⟩) h (fun h=>?_) fun out h=>?_
 ·
  refine Tr<|Rm Y<|Rm Y<|Za<|Zk<|?_
  obtain ⟨r1, hl1, ho1⟩ := QY h
  refine L2 (fun out2 i=>⟨[(0, .int .i64 number), (1, .int .i64 memories), (7, .own 0 out2.length), (9, .int .i64 copies), (10, .int .i64 i)], [some ⟨3, List.map R3 out2⟩]⟩) hl1 (ES [none]) fun n1 out2 i h=>?_
  unfold J5 at h
  refine Tr<|R2 Z1 Y<|Za<|Zl<|If h Y (fun h=>?_) fun h=>?_
  ·
   exact Zm<|Zl<|Zk<|K5 0 1 7 9 10 Y<|Tr<|Rm Y<|Ra Y<|Za<|K6 0 1 7 8 9 10 Y<|ZA<|Rm Y<|Rm Y<|Rm Y<|R2 ZY Y<|Rm Y<|bE h fun q h_q h=>Rq Y (JM (ov Y) (ov Y) h_q)<|R_q (.sl 3<|List.map R3 ([q] : List Int)) Y (Q0 QH (.cons (cvs (ov Y)<|Zd Y) Y (.cons (.b Y) .nil) .nil) Y Y)<|bE h fun l h_l h=>Rx Y (Q2 (ov Y) (QX (ov Y) tZ_3) QH Y Y Y (fun _=>Zb Y) Y h_l)<|Ra Y<|Za<|K5 0 1 7 9 10 Y<|ZA<|R2 ZY Y<|Rm Y<|Za<|⟨_, h, ES [some 0]⟩
  ·
   refine ZN<|?_
   replace h := lx h ▸ ho1
   exact ⟨_, h, ES [some 0]⟩
 ·
  refine Tr<|Rm Y<|Ra Y<|Za<|?_
  obtain rfl := rt h
  exact Zs (ZQ Y (.one<|.tmp Y<|View.ownM Y Y D3))
theorem JK {b : ring_bank} {k : Int} {r : Bool} (h : QP b k = some r) :
 CSpec Tryz.prog gl0 107 [.rp [.sl 26 (List.map R26 b.memories), .sl 105 (List.map R105 b.spots)] 0, .int .i64 k] (.bool r) := by
 unfold QP at h
 replace h := Qd h
 refine So Tryz.func107 Y fun w0 A=>Tr<|Ra Y<|Za<|Zl<|Qj (cw := md0) (by kernel_rfl)<|D1 0 Zj Y<|D1 1 ZJ Y<|Dq 2 Y (ZM (ov Y) ZdD)<|Dq 3 Y (Zi (ov Y) ZiL Y)<|D1 4 Zj Y<|bE h fun x h_x h=>Dq 5 Y (Z4 (ov Y) (ov Y) ZiT h_x)<|Dq 6 Y (ZM (ov Y) Zes)<|Dq 7 Y (Zi (ov Y) tS3 Y)<|D2 8 Z1 Y<|D1 9 Zj Y<|Dq 10 Y (.guarded ((decide (x.sector < 0)) == false) Y Y Y Y fun h => Zj<|ov Y)<|Dq 11 Y (.guarded ((decide (x.sector < 0)) == false) Y Y Y Y fun h => ZJ<|ow Y h)<|Dq 12 Y (.guarded ((decide (x.sector < 0)) == false) Y Y Y Y fun h => ZM (ow Y h) ZdD)<|Dq 13 Y (.guarded ((decide (x.sector < 0)) == false) Y Y Y Y fun h => Zi (ow Y h) ZiL Y)<|Dq 14 Y (.guarded ((decide (x.sector < 0)) == false) Y Y Y Y fun h => Zj<|ov Y)<|bE h fun x2 h_x2 h=>Dq 15 Y (.guarded ((decide (x.sector < 0)) == false) Y Y Y Y fun h => Z4 (ow Y h) (ow Y h) ZiT<|gdT h_x2 h)<|Dq 16 Y (.guarded ((decide (x.sector < 0)) == false) Y Y Y Y fun h => ZM (ow Y h) Zfp)<|Dq 17 Y (.guarded ((decide (x.sector < 0)) == false) Y Y Y Y fun h => Zi (ow Y h) tS3 Y)<|Dq 18 Y (.guarded ((decide (x.sector < 0)) == false) Y Y Y Y fun h => Zj<|ov Y)<|Dq 19 Y (.guarded ((decide (x.sector < 0)) == false) Y Y Y Y fun h => ZJ<|ow Y h)<|Dq 20 Y (.guarded ((decide (x.sector < 0)) == false) Y Y Y Y fun h => ZM (ow Y h) Zci)<|Dq 21 Y (.guarded ((decide (x.sector < 0)) == false) Y Y Y Y fun h => Zi (ow Y h) Zh1 Y)<|Dq 22 Y (.guarded ((decide (x.sector < 0)) == false) Y Y Y Y fun h => Zj<|ov Y)<|bE h fun x3 h_x3 h=>Dq 23 Y (.guarded ((decide (x.sector < 0)) == false) Y Y Y Y fun h => Z4 (ow Y h) (ow Y h) ZcD<|gdT h_x3 h)<|Dq 24 Y (.guarded ((decide (x.sector < 0)) == false) Y Y Y Y fun h => ZM (ow Y h) Ze3)<|Dq 25 Y (.guarded ((decide (x.sector < 0)) == false) Y Y Y Y fun h => Zi (ow Y h) tS3 Y)<|Dq 26 Y (.guarded ((decide (x.sector < 0)) == false) Y Y Y Y fun h => Zbg (ow Y h)<|ow Y h)<|Dq 27 Y (ZdS (ov Y) fun hp=>ow Y<|gF hp)<|D1 28 Qm Y<|Dd<|?_
 obtain rfl := rt h
 exact Zs (ZQ Y (.one<|rb Y))
theorem ZaM {b : ring_bank} {k : Int} {r : Int} (h : Xc b k = some r) :
 CSpec Tryz.prog gl0 108 [.rp [.sl 26 (List.map R26 b.memories), .sl 105 (List.map R105 b.spots)] 0, .int .i64 k] (.int .i64 r) := by
 unfold Xc at h
 replace h := Qd h
 refine So Tryz.func108 Y fun w0 A=>Tr<|Ra Y<|Za<|K2 0 1 Y<|Tr<|Rm Y<|R1 ZJ Y<|Rq Y (ZM (ov Y) Zci)<|Rq Y (Zi (ov Y) Zh1 Y)<|Rm Y<|bE h fun x h_x h=>Rq Y (Z4 (ov Y) (ov Y) ZcD h_x)<|Rq Y (Xb (ov Y) Qu Y Y)<|Rx Y (ZL (row := [_, _, _, _, _]) 0 Y Q8 Y tZ_26)<|Rx Y (Zh (ov Y) (ov Y) (Zu Qu Y) Y Y Y (Nat.le_of_ble_eq_true Y) (Zb Y) Y)<|Za<|K3 0 1 5 Y<|Tr<|Rq Y (Zg (ov Y) Y Y Zp)<|Rq Y (Zo (ov Y) Y Y Y ZD Y)<|Rl tZ_49 Zz Y<|Ra Y<|Za<|J0 (fun j => (.inr j)) ⟨[], []⟩ h (fun h=>?_) fun h=>?_
 ·
  refine K4 0 1 5 6 Y<|Tr<|Rm Y<|Rm Y<|Za<|Zk<|?_
  obtain ⟨r1, hl1, ho1⟩ := QY h
  refine L1 (fun i=>⟨[(0, .rp [.sl 26 (List.map R26 b.memories), .sl 105 (List.map R105 b.spots)] 0), (1, .int .i64 k), (5, .ptr 0 1 0 0), (6, .int .i64 (x.Sectors.length : Int)), (19, .int .i64 (x.Sectors.length : Int)), (20, .int .i64 i)], [some ⟨26, [[.int .i64 x.Slots, .int .i64 x.Limit, .sl 49 (List.map R49 x.Sectors), .sl 3 (List.map R3 x.Wear), .sl 4 (List.map R4 x.Bad)]]⟩]⟩) hl1 (ES [some 0]) fun n1 i h=>?_
  unfold Jk at h
  refine Tr<|R2 Z1 Y<|Za<|Zl<|If h Y (fun h=>?_) fun h=>?_
  ·
   refine Zm<|Zl<|Zk<|K6 0 1 5 6 19 20 Y<|Tr<|Rm Y<|Ra Y<|Za<|K7 0 1 5 6 7 19 20 Y<|Tr<|Rm Y<|R1 ZJ Y<|Rq Y (ZM (ov Y) ZdD)<|Rq Y (Zi (ov Y) ZiL Y)<|Rm Y<|bE h fun x2 h_x2 h=>Rq Y (Z4 (ov Y) (ov Y) ZiT h_x2)<|Rq Y (ZM (ov Y) Zes)<|Rq Y (Zi (ov Y) tS3 Y)<|R2 ZY Y<|Rm Y<|R2 ZY Y<|Rm Y<|bE h fun q h_q h=>Rq Y (JM (ov Y) (ov Y) h_q)<|Ra Y<|Za<|Zl<|K7 0 1 5 6 8 19 20 Y<|Qj (cw := md0) (by kernel_rfl)<|Dq 0 Y (Zg (ov Y) Y Y Zd1)<|Dq 1 Y (Zo (ov Y) Y Y Y ZhO Y)<|D1 2 Zj Y<|bE h fun x3 h_x3 h=>Dq 3 Y (Z4 (ov Y) (ov Y) Zb0 h_x3)<|Dq 4 Y (Zi (ov Y) tS4 Y)<|D1 5 XU Y<|D1 6 Zj Y<|Dq 7 Y (.guarded ((!x3) == true) Y Y Y Y fun h => Zg (ov Y) Y Y Zdy)<|Dq 8 Y (.guarded ((!x3) == true) Y Y Y Y fun h => Zo (ow Y h) Y Y Y Zh4 Y)<|Dq 9 Y (.guarded ((!x3) == true) Y Y Y Y fun h => Zj<|ov Y)<|bE h fun x4 h_x4 h=>Dq 10 Y (.guarded ((!x3) == true) Y Y Y Y fun h => Z4 (ow Y h) (ow Y h) QH<|gdT h_x4 h)<|Dq 11 Y (.guarded ((!x3) == true) Y Y Y Y fun h => Zi (ow Y h) tS3 Y)<|Dq 12 Y (.guarded ((!x3) == true) Y Y Y Y fun h => Zg (ov Y) Y Y ZgO)<|Dq 13 Y (.guarded ((!x3) == true) Y Y Y Y fun h => Zo (ow Y h) Y Y Y tS3 Y)<|Dq 14 Y (.guarded ((!x3) == true) Y Y Y Y fun h => Z1 (ow Y h)<|ow Y h)<|Dq 15 Y (ZaX (ov Y) fun hp=>ow Y<|gT hp)<|Dd<|K8 0 1 5 6 8 19 20 51 Y<|If h Y (fun h=>?_) fun h=>?_
   ·
    refine K1 8 Y<|Tr<|Rm Y<|Ra Y<|Za<|?_
    replace h := lx h ▸ ho1
    obtain rfl := rt h
    exact Zs (ZQ Y (.one<|rb Y))
   ·
    exact Zm<|K6 0 1 5 6 19 20 Y<|ZA<|R2 ZY Y<|Rm Y<|Za<|⟨_, h, ES [some 0]⟩
  ·
   refine ZN<|?_
   replace h := lx h ▸ ho1
   exact ⟨(), h, ES []⟩
 ·
  replace h := elr h
  replace h := t0i h
  refine Tr<|Ra Y<|Za<|?_
  obtain rfl := rt h
  exact Zs (ZQ Y (.one<|rb Y))
theorem Zbf {b : ring_bank} {k : Int} {sector : Int} {r : Int} (h : QN b k sector = some r) :
 CSpec Tryz.prog gl0 109 [.rp [.sl 26 (List.map R26 b.memories), .sl 105 (List.map R105 b.spots)] 0, .int .i64 k, .int .i64 sector] (.int .i64 r) := by
 unfold QN at h
 replace h := Qd h
 refine So Tryz.func109 Y fun w0 A=>Tr<|Ra Y<|Za<|K3 0 1 2 Y<|Tr<|Ra Y<|Za<|I1 (fun most=>⟨[(7, .int .i64 most)], []⟩) h (fun h=>?_) fun most h=>?_
 ·
  refine Tr<|Rm Y<|R1 ZJ Y<|Rq Y (ZM (ov Y) Zci)<|Rq Y (Zi (ov Y) Zh1 Y)<|Rm Y<|bE h fun x h_x h=>Rq Y (Z4 (ov Y) (ov Y) ZcD h_x)<|Rq Y (ZM (ov Y) Zp)<|Rq Y (Zi (ov Y) ZD Y)<|Rl tZ_49 Zz Y<|Rm Y<|Za<|Zk<|?_
  obtain ⟨r1, hl1, ho1⟩ := QY h
  refine L2 (fun most2 i=>⟨[(2, .int .i64 sector), (7, .int .i64 most2), (20, .sl 49 (List.map R49 x.Sectors)), (21, .int .i64 (x.Sectors.length : Int)), (22, .int .i64 i)], []⟩) hl1 (ES []) fun n1 most2 i h=>?_
  unfold Xm at h
  refine Tr<|R2 Z1 Y<|Za<|Zl<|If h Y (fun h=>?_) fun h=>?_
  ·
   refine Zm<|Zl<|Zk<|K5 2 7 20 21 22 Y<|Tr<|Rm Y<|bE h fun x2 h_x2 h=>Rq Y (Z4 (ov Y) (ov Y) Zz h_x2)<|Rq Y (Zi (ov Y) Zfl Y)<|Ra Y<|Ra Y<|Za<|K7 2 7 8 9 20 21 22 Y<|Tr<|Rm Y<|bE h fun y h_y h=>Rq Y (Zq (Zaz h_y)<|.cons (ov Y) (.b Y) .nil)<|Rm Y<|Rq Y (Zr (ov Y) Y)<|Rq Y (Zr (ov Y) Y)<|Rq Y (Zr (ov Y) Y)<|Ra Y<|Ra Y<|Ra Y<|Za<|K8 2 7 8 10 12 20 21 22 Y<|Tr<|Rm Y<|Rm Y<|Rq Y (.guarded (y.2.2 == true) Y Y Y Y fun h => Zj<|ov Y)<|Rq Y (.guarded (y.2.2 == true) Y Y Y Y fun h => Zj<|ov Y)<|Rq Y (.guarded (y.2.2 == true) Y Y Y Y fun h => XK (ow Y h)<|ow Y h)<|Rq Y (ZaX (ov Y) fun hp=>ow Y<|gT hp)<|Za<|K7 2 7 10 20 21 22 38 Y<|If h Y (fun h=>?_) fun h=>?_
   ·
    exact K6 2 7 10 20 21 22 Y<|ZA<|Rm Y<|Rm Y<|Rq Y (ZjU (ov Y) (ov Y) Y)<|Ra Y<|Za<|K5 2 7 20 21 22 Y<|ZA<|R2 ZY Y<|Rm Y<|Za<|⟨_, h, ES []⟩
   ·
    exact Zm<|K5 2 7 20 21 22 Y<|ZA<|R2 ZY Y<|Rm Y<|Za<|⟨_, h, ES []⟩
  ·
   refine ZN<|?_
   replace h := lx h ▸ ho1
   exact ⟨_, h, ES []⟩
 ·
  refine Tr<|Rm Y<|R2 ZY Y<|Ra Y<|Za<|?_
  obtain rfl := rt h
  exact Zs (ZQ Y (.one<|rb Y))
theorem Zfb {b : ring_bank} {l : List Int} {r : Int} (h : X5 b l = some r) :
 CSpec Tryz.prog gl0 69 [.rp [.sl 26 (List.map R26 b.memories), .sl 105 (List.map R105 b.spots)] 0, .sl 3 (List.map R3 l)] (.int .i64 r) := by
 unfold X5 at h
 replace h := Qd h
 refine So Tryz.func69 Y fun w0 A=>Tr<|Ra Y<|Za<|J0 (fun j => (.inr j)) ⟨[(0, .rp [.sl 26 (List.map R26 b.memories), .sl 105 (List.map R105 b.spots)] 0), (1, .sl 3 (List.map R3 l))], []⟩ h (fun h=>?_) fun h=>?_
 ·
  refine K2 0 1 Y<|Tr<|Rm Y<|Rl tZ_3 QH Y<|Rm Y<|Za<|Zk<|?_
  obtain ⟨r1, hl1, ho1⟩ := QY h
  refine L1 (fun i=>⟨[(0, .rp [.sl 26 (List.map R26 b.memories), .sl 105 (List.map R105 b.spots)] 0), (1, .sl 3 (List.map R3 l)), (9, .sl 3 (List.map R3 l)), (10, .int .i64 (l.length : Int)), (11, .int .i64 i)], []⟩) hl1 (ES []) fun n1 i h=>?_
  unfold XV at h
  refine Tr<|R2 Z1 Y<|Za<|Zl<|If h Y (fun h=>?_) fun h=>?_
  ·
   refine Zm<|Zl<|Zk<|K5 0 1 9 10 11 Y<|Tr<|bE h fun x h_x h=>Rq Y (Z4 (ov Y) (ov Y) QH h_x)<|Rq Y (Zi (ov Y) tS3 Y)<|Ra Y<|Za<|K6 0 1 6 9 10 11 Y<|Tr<|Rm Y<|Rm Y<|bE h fun y h_y h=>Rq Y (Zq (JK h_y)<|.cons (ov Y) (.b Y)<|.cons (ov Y) (.b Y) .nil)<|Rm Y<|Rq Y (.guarded (y == true) Y Y Y Y fun h => Zj<|ov Y)<|Rq Y (.guarded (y == true) Y Y Y Y fun h => Zj<|ov Y)<|bE h fun y2 h_y2 h=>Rq Y (.guarded (y == true) Y Y Y Y fun h => Zq (ZaM<|gdT h_y2 h)<|.cons (ow Y h) (.b Y)<|.cons (ow Y h) (.b Y) .nil)<|Rq Y (.guarded (y == true) Y Y Y Y fun h => Z1 (ow Y h)<|ov Y)<|Rq Y (ZaX (ov Y) fun hp=>ow Y<|gT hp)<|Za<|K6 0 1 9 10 11 23 Y<|If h Y (fun h=>?_) fun h=>?_
   ·
    refine K0<|Tr<|Ra Y<|Za<|?_
    replace h := lx h ▸ ho1
    obtain rfl := rt h
    exact Zs (ZQ Y (.one<|rb Y))
   ·
    exact Zm<|K5 0 1 9 10 11 Y<|ZA<|R2 ZY Y<|Rm Y<|Za<|⟨_, h, ES []⟩
  ·
   refine ZN<|?_
   replace h := lx h ▸ ho1
   exact ⟨(), h, ES []⟩
 ·
  replace h := elr h
  replace h := t0i h
  refine J0 (fun j => (.inr j)) ⟨[], []⟩ h (fun h=>?_) fun h=>?_
  ·
   refine Tr<|Rm Y<|Rl tZ_3 QH Y<|Rm Y<|Za<|Zk<|?_
   obtain ⟨r2, hl2, ho2⟩ := QY h
   refine L1 (fun i2=>⟨[(0, .rp [.sl 26 (List.map R26 b.memories), .sl 105 (List.map R105 b.spots)] 0), (25, .sl 3 (List.map R3 l)), (26, .int .i64 (l.length : Int)), (27, .int .i64 i2)], []⟩) hl2 (ES []) fun n2 i2 h=>?_
   unfold X2 at h
   refine Tr<|R2 Z1 Y<|Za<|Zl<|If h Y (fun h=>?_) fun h=>?_
   ·
    refine Zm<|Zl<|Zk<|K4 0 25 26 27 Y<|Tr<|bE h fun x2 h_x2 h=>Rq Y (Z4 (ov Y) (ov Y) QH h_x2)<|Rq Y (Zi (ov Y) tS3 Y)<|Ra Y<|Za<|K5 0 8 25 26 27 Y<|Tr<|Rm Y<|Rm Y<|bE h fun y3 h_y3 h=>Rq Y (Zq (JK h_y3)<|.cons (ov Y) (.b Y)<|.cons (ov Y) (.b Y) .nil)<|Rm Y<|Rq Y (.guarded (y3 == true) Y Y Y Y fun h => Zj<|ov Y)<|Rq Y (.guarded (y3 == true) Y Y Y Y fun h => Zj<|ov Y)<|Rq Y (.guarded (y3 == true) Y Y Y Y fun h => Zj<|ov Y)<|Rq Y (.guarded (y3 == true) Y Y Y Y fun h => Zj<|ov Y)<|bE h fun y4 h_y4 h=>Rq Y (.guarded (y3 == true) Y Y Y Y fun h => Zq (ZaM<|gdT h_y4 h)<|.cons (ow Y h) (.b Y)<|.cons (ow Y h) (.b Y) .nil)<|bE h fun y5 h_y5 h=>Rq Y (.guarded (y3 == true) Y Y Y Y fun h => Zq (Zbf<|gdT h_y5 h)<|.cons (ow Y h) (.b Y)<|.cons (ow Y h) (.b Y)<|.cons (ow Y h) (.b Y) .nil)<|Rq Y (.guarded (y3 == true) Y Y Y Y fun h => Zcu (ow Y h)<|ov Y)<|Rq Y (ZaX (ov Y) fun hp=>ow Y<|gT hp)<|Za<|K5 0 25 26 27 42 Y<|If h Y (fun h=>?_) fun h=>?_
    ·
     refine K0<|Tr<|Ra Y<|Za<|?_
     replace h := lx h ▸ ho2
     obtain rfl := rt h
     exact Zs (ZQ Y (.one<|rb Y))
    ·
     exact Zm<|K4 0 25 26 27 Y<|ZA<|R2 ZY Y<|Rm Y<|Za<|⟨_, h, ES []⟩
   ·
    refine ZN<|?_
    replace h := lx h ▸ ho2
    exact ⟨(), h, ES []⟩
  ·
   replace h := elr h
   replace h := t0i h
   refine Tr<|Ra Y<|Za<|?_
   obtain rfl := rt h
   exact Zs (ZQ Y (.one<|rb Y))
theorem Zhl {f : Vector Int 64} {r : Bool} (h : Zcz f = some r) :
 CSpec Tryz.prog gl0 110 [.rp (List.map C40 f.toList) 0] (.bool r) := by
 unfold Zcz at h
 replace h := Qd h
 refine So Tryz.func110 Y fun w0 A=>Tr<|Ra Y<|Za<|J0 (fun j => (.inr j)) ⟨[], []⟩ h (fun h=>?_) fun h=>?_
 ·
  refine K1 0 Y<|Tr<|Rm Y<|Za<|Zk<|?_
  obtain ⟨r1, hl1, ho1⟩ := QY h
  refine L1 (fun i=>⟨[(0, .rp (List.map C40 f.toList) 0), (4, .int .i64 i)], []⟩) hl1 (ES []) fun n1 i h=>?_
  unfold ZbE at h
  refine Tr<|R2 Z1 Y<|Za<|Zl<|If h Y (fun h=>?_) fun h=>?_
  ·
   refine Zm<|Zl<|Zk<|K2 0 4 Y<|Tr<|Rm Y<|Ra Y<|Za<|K3 0 3 4 Y<|Tr<|Rm Y<|Rm Y<|R1 ZJ Y<|bE h fun x h_x h=>Rq Y (QC (ov Y) (ov Y) JL h_x)<|Rq Y (Zi (ov Y) ZaG<|Qp<|Xd (o := 0) (o' := (i.toNat * 1)) (ZB arL)<|Xj h_x)<|R2 Zcu Y<|Za<|K3 0 4 12 Y<|If h Y (fun h=>?_) fun h=>?_
   ·
    refine K0<|Tr<|Ra Y<|Za<|?_
    replace h := lx h ▸ ho1
    obtain rfl := rt h
    exact Zs (ZQ Y (.one<|rb Y))
   ·
    exact Zm<|K2 0 4 Y<|ZA<|R2 ZY Y<|Rm Y<|Za<|⟨_, h, ES []⟩
  ·
   refine ZN<|?_
   replace h := lx h ▸ ho1
   exact ⟨(), h, ES []⟩
 ·
  replace h := elr h
  replace h := t0i h
  refine Tr<|Ra Y<|Za<|?_
  obtain rfl := rt h
  exact Zs (ZQ Y (.one<|rb Y))
theorem Zel {p : Vector Int 96} {i : Int} {w : Int} {r : (Vector Int 96)} (h : X9 p i w = some r) :
 GSpec Tryz.prog gl0 136 [.ptr 0 1 0 0, .int .i64 i, .int .u16 w] [some ⟨157, [(List.map C5 p.toList)]⟩] (.tuple []) [some ⟨157, [(List.map C5 r.toList)]⟩] := by
 unfold X9 at h
 replace h := Qd h
 refine Qt (by kernel_rfl) Tryz.func136 Y Y<|?_
 intro w0 A W φ0
 refine Tr<|Rm Y<|bE h fun q h_q h=>Rq Y (Zfe (ov Y) (ov Y) h_q)<|R2 Zft Y<|Ra Y<|Za<|Zl<|K4 0 1 2 6 Y<|Tr<|Rm Y<|bE h fun q2 h_q2 h=>Rq Y (JM (ov Y) (ov Y) h_q2)<|R2 Zbg Y<|Za<|K4 0 2 6 12 Y<|If h Y (fun h=>?_) fun h=>?_
 ·
  refine Zl<|K3 0 2 6 Y<|Qj (cw := ⟨false, false, [], [20, 24], []⟩) (by kernel_rfl)<|D1 0 Zj Y<|D1 1 Zj Y<|D1 5 Zj Y<|bE h fun q3 h_q3 h=>Dq 6 Y (Zb8 (ov Y) (ov Y) h_q3)<|Dq 7 Y (Qv (ov Y) ZcJ tI5 Y)<|D1 12 Zj Y<|D1 13 Zj Y<|D2 14 ZY Y<|Dq 15 Y (ZC (ov Y) Y Y)<|bE h fun x h_x h=>Dq 16 Y (Ji (ov Y) (ov Y) ZcR Y Y h_x)<|Dq 17 Y (Zo (ov Y) Y Y Y tS5<|Qp<|Xd (o := 0) (o' := ((i64 ((i64 (q * 3)) + 1)).toNat * 1)) (ZB arL)<|Xj h_x)<|Dq 20 Y (ZC (ov Y) Y Y)<|bE h fun x2 h_x2 h=>Dq 21 Y (Ji (ov Y) (ov Y) ZcR Y Y h_x2)<|ZP 2 _ Y (by kernel_rfl) Y Y (fun hp'=>Zj<|ov Y)<|ZP 3 _ Y (by kernel_rfl) Y Y (fun hp'=>Zj<|ov Y)<|ZP 4 _ Y (by kernel_rfl) Y Y (fun hp'=>Zi2 (ov Y) (ov Y) Y)<|ZP 8 _ Y (by kernel_rfl) Y Y (fun hp'=>Zj<|ov Y)<|ZP 9 _ Y (by kernel_rfl) Y Y (fun hp'=>Zan (ov Y)<|ov Y)<|bE h fun q4 h_q4 h=>ZP 10 _ Y (by kernel_rfl) Y Y (fun hp'=>Zdr (ov Y) (ov Y) h_q4)<|ZP 11 _ Y (by kernel_rfl) Y Y (fun hp'=>Qv (ov Y) ZcJ tI5 Y)<|ZP 18 _ Y (by kernel_rfl) Y Y (fun hp'=>Zan (ov Y)<|ov Y)<|ZP 19 _ Y (by kernel_rfl) Y Y (fun hp'=>ZeO (ov Y)<|ov Y)<|Dw 23 22 Y (ZC (ov Y) Y Y) (Zh (ov Y) (ov Y) (Zf tS5) Y Y Y (arB h_x2) (Zb Y)<|arS h_x2) ?_ ?_
  ·
   refine Do 22 Y (Zh (ov Y) (ov Y) (Zf tS5) Y Y Y (arB h_x2) (Zb Y)<|arS h_x2)<|bE h fun x3 h_x3 h=>Dq 24 Y (Ji (ov Y) (ov Y) ZcR Y Y h_x3)<|Do 25 Y (Zh (ov Y) (ov Y) (Zf tS5) Y Y Y (arB h_x3) (Zb Y)<|arS h_x3)<|Dd<|?_
   obtain rfl := rt h
   exact Zs<|JI [some 0] Y .nil (.cons Y (ro1 (by exact Eq.trans (b := 96) arL tZ_157.symm)<|rld<|arD fun _ => Y) .nil) Y Y<|Xo rln
  ·
   refine Dq 23 Y (ZC (ov Y) Y Y)<|bE h fun x3 h_x3 h=>Dq 24 Y (Ji (ov Y) (ov Y) ZcR Y Y h_x3)<|Do 25 Y (Zh (ov Y) (ov Y) (Zf tS5) Y Y Y (arB h_x3) (Zb Y)<|arS h_x3)<|Dd<|?_
   obtain rfl := rt h
   exact Zs<|JI [some 0] Y .nil (.cons Y (ro1 (by exact Eq.trans (b := 96) arL tZ_157.symm)<|rld<|arD fun _ => Y) .nil) Y Y<|Xo rln
 ·
  refine Zm<|K3 0 2 6 Y<|Qj (cw := ⟨false, false, [], [52, 55], []⟩) (by kernel_rfl)<|D1 0 Zj Y<|D1 1 Zj Y<|D2 2 ZY Y<|D1 6 Zj Y<|D1 7 Zj Y<|D2 8 ZY Y<|Dq 9 Y (ZC (ov Y) Y Y)<|bE h fun x4 h_x4 h=>Dq 10 Y (Ji (ov Y) (ov Y) ZcR Y Y h_x4)<|Dq 11 Y (Zo (ov Y) Y Y Y tS5<|Qp<|Xd (o := 0) (o' := ((i64 ((i64 (q * 3)) + 1)).toNat * 1)) (ZB arL)<|Xj h_x4)<|D2 12 Zan Y<|D1 13 Zj Y<|bE h fun q5 h_q5 h=>Dq 14 Y (Zb8 (ov Y) (ov Y) h_q5)<|Dq 15 Y (Qv (ov Y) ZcJ tI5 Y)<|D2 16 ZeO Y<|Dq 19 Y (ZC (ov Y) Y Y)<|bE h fun x5 h_x5 h=>Dq 20 Y (Ji (ov Y) (ov Y) ZcR Y Y h_x5)<|ZP 3 _ Y (by kernel_rfl) Y Y (fun hp'=>Zj<|ov Y)<|ZP 4 _ Y (by kernel_rfl) Y Y (fun hp'=>Zj<|ov Y)<|ZP 5 _ Y (by kernel_rfl) Y Y (fun hp'=>Zi2 (ov Y) (ov Y) Y)<|ZP 17 _ Y (by kernel_rfl) Y Y (fun hp'=>Zj<|ov Y)<|ZP 18 _ Y (by kernel_rfl) Y Y (fun hp'=>Qv (ov Y) ZcJ tI5 Y)<|Dw 22 21 Y (ZC (ov Y) Y Y) (Zh (ov Y) (ov Y) (Zf tS5) Y Y Y (arB h_x5) (Zb Y)<|arS h_x5) ?_ ?_
  ·
   refine Do 21 Y (Zh (ov Y) (ov Y) (Zf tS5) Y Y Y (arB h_x5) (Zb Y)<|arS h_x5)<|bE h fun x6 h_x6 h=>Dq 23 Y (Ji (ov Y) (ov Y) ZcR Y Y h_x6)<|Do 24 Y (Zh (ov Y) (ov Y) (Zf tS5) Y Y Y (arB h_x6) (Zb Y)<|arS h_x6)<|Dd<|?_
   obtain rfl := rt h
   exact Zhz [some 0] Y .nil (.cons Y (ro1 (by exact Eq.trans (b := 96) arL tZ_157.symm)<|rld<|arD fun _ => Y) .nil) Y Y<|Xo rln
  ·
   refine Dq 22 Y (ZC (ov Y) Y Y)<|bE h fun x6 h_x6 h=>Dq 23 Y (Ji (ov Y) (ov Y) ZcR Y Y h_x6)<|Do 24 Y (Zh (ov Y) (ov Y) (Zf tS5) Y Y Y (arB h_x6) (Zb Y)<|arS h_x6)<|Dd<|?_
   obtain rfl := rt h
   exact Zhz [some 0] Y .nil (.cons Y (ro1 (by exact Eq.trans (b := 96) arL tZ_157.symm)<|rld<|arD fun _ => Y) .nil) Y Y<|Xo rln
theorem ZgE {p : Vector Int 96} {f : Vector Int 64} {r : (Vector Int 96)} (h : Zcx p f = some r) :
 GSpec Tryz.prog gl0 111 [.ptr 0 1 0 0, .rp (List.map C40 f.toList) 0] [some ⟨157, [(List.map C5 p.toList)]⟩] (.tuple []) [some ⟨157, [(List.map C5 r.toList)]⟩] := by
 unfold Zcx at h
 replace h := Qd h
 refine Qt (by kernel_rfl) Tryz.func111 Y Y<|?_
 intro w0 A W φ0
 refine Tr<|Rm Y<|Za<|Zk<|?_
 obtain ⟨r1, hl1, ho1⟩ := QY h
 refine L2 (fun o i=>⟨[(0, .ptr 0 1 0 0), (1, .rp (List.map C40 f.toList) 0), (5, .int .i64 i)], [some ⟨157, [(List.map C5 o.toList)]⟩]⟩) hl1 (ES [some 0]) fun n1 o i h=>?_
 unfold ZbB at h
 refine Tr<|R2 Z1 Y<|Za<|Zl<|If h Y (fun h=>?_) fun h=>?_
 ·
  exact Zm<|Zl<|Zk<|K3 0 1 5 Y<|Tr<|Rm Y<|Ra Y<|Za<|K4 0 1 4 5 Y<|ZA<|Rm Y<|Rm Y<|Rm Y<|Rm Y<|R1 ZJ Y<|bE h fun x h_x h=>Rq Y (QC (ov Y) (ov Y) JL h_x)<|Rq Y (Zi (ov Y) ZaG<|Qp<|Xd (o := 0) (o' := (i.toNat * 1)) (ZB arL)<|Xj h_x)<|bE h fun y h_y h=>Rx Y (Zv [0] (Zel h_y) (.cons (ov Y) (.ptr _ _ _ Y)<|.cons (ov Y) (.dat Y)<|.cons (ov Y) (.dat Y) .nil) (.cons Y (ro1 (by exact Eq.trans (b := 96) arL tZ_157.symm)<|rld<|arD fun _ => Y) .nil) Y (.lent 0 (.inl Y) Y (ro1 (by exact Eq.trans (b := 96) arL tZ_157.symm)<|rld<|arD fun _ => Y) .nil) Y Y<|Xo<|rld Y)<|Za<|K3 0 1 5 Y<|ZA<|R2 ZY Y<|Rm Y<|Za<|⟨_, h, ES [some 0]⟩
 ·
  refine ZN<|?_
  replace h := lx h ▸ ho1
  obtain rfl := rt h
  exact Zhz [some 0] Y .nil (.cons Y (ro1 (by exact Eq.trans (b := 96) arL tZ_157.symm)<|rld<|arD fun _ => Y) .nil) Y Y<|Xo rln
theorem Zga {f : Vector Int 64} {r : (List Int) × Int} (h : JZ f = some r) :
 CSpec Tryz.prog gl0 70 [.agg (List.map C40 f.toList)] (.tuple [.sl 5 (List.map R5 r.1), .int .i64 r.2]) := by
 unfold JZ at h
 replace h := Qd h
 refine So Tryz.func70 Y fun w0 A=>Tr<|Rq Y (ZbY (cva<|ov Y) arL tZ_42<|arD fun _ => Y)<|Ra Y<|Ra Y<|Za<|Zl<|K1 1 Y<|Tr<|bE h fun y h_y h=>Rq Y (Zq (Zhl h_y)<|.cons (ov Y) (.b Y) .nil)<|Za<|If h Y (fun h=>?_) fun h=>?_
 ·
  refine K0<|Tr<|Ra Y<|Ra Y<|Za<|?_
  obtain rfl := rt h
  exact Zs (ZQ Y (.two (.tmp Y<|View.nils 5)<|rb Y))
 ·
  refine Zm<|K1 1 Y<|Tr<|Rx Y (ZL (row := (List.map C5 (Vector.replicate 96 0).toList)) 0 Y ZkW Y tZ_157)<|Za<|Tr<|bE h fun y2 h_y2 h=>Rx Y (Zv [0] (ZgE h_y2) (.cons (ov Y) (.ptr _ _ _ Y)<|.cons (ov Y) (.dat Y) .nil) (.cons Y (ro1 (by exact Eq.trans (b := 96) arL tZ_157.symm)<|rld<|arD fun _ => Y) .nil) Y (.lent 0 (.inl Y) Y (ro1 (by exact Eq.trans (b := 96) arL tZ_157.symm)<|rld<|arD fun _ => Y) .nil) Y Y<|Xo<|rld Y)<|Za<|K1 4 Y<|Tr<|bE h fun l h_l h=>QK (Ent.sel [none] (sr 4 Y (.frp ⟨Y, ⟨_, Y⟩, Y, (arD fun _ => Y)⟩) sn) (.row 157 .nil) Y Y)<|Rq Y (ZiX (f := C5) (ov Y) ZcR tZ_5 (ZB arL) Y on on h_l)<|Ra Y<|Ra Y<|Za<|?_
  obtain rfl := rt h
  exact Zs (ZQ Y (.two (rb Y)<|rb Y))
theorem Zez {s : List Int} {power : Int} {r : Int × Bool × (List Int)} (h : QM s power = some r) :
 GSpec Tryz.prog gl0 74 [.own 0 s.length, .int .i64 power] [some ⟨5, List.map R5 s⟩] (.tuple [.int .i64 r.1, .bool r.2.1]) [some ⟨5, List.map R5 r.2.2⟩] := by
 unfold QM at h
 replace h := Qd h
 refine Qt (by kernel_rfl) Tryz.func74 Y Y<|?_
 intro w0 A W φ0
 refine Tr<|Ra Y<|Ra Y<|Za<|K2 0 1 Y<|Tr<|Rm Y<|Ra Y<|Za<|Zl<|K3 0 1 6 Y<|Tr<|Rm Y<|R2 Zbg Y<|Za<|K4 0 1 6 10 Y<|If h Y (fun h=>?_) fun h=>?_
 ·
  refine K3 0 1 6 Y<|ZA<|Rm Y<|Rm Y<|Rq Y (Zdt (ov Y) Y Y Qg)<|bE h fun q h_q h=>Rq Y (Zfe (ov Y) (ov Y) h_q)<|bE h fun u h_u h=>Rq Y (ZkQ (ov Y) Y Y Qg on (oi<|ov Y) h_u)<|Ra Y<|Za<|I1 (fun o=>⟨[(1, .int .i64 power)], [some ⟨5, List.map R5 o⟩]⟩) h (fun h=>?_) fun o h=>?_
  ·
   refine K2 1 6 Y<|Tr<|Rm Y<|Rq Y (Zkf (ov Y) Y (List.length_map ..) Qg)<|Rm Y<|Za<|Zk<|?_
   obtain ⟨r1, hl1, ho1⟩ := QY h
   refine L2 (fun o2 i=>⟨[(1, .int .i64 power), (6, .osl 0 o2.length (Int.toNat 0) (Int.toNat (q - 0))), (17, .int .i64 ((Int.toNat (q - 0) : Nat) : Int)), (18, .int .i64 i)], [some ⟨5, List.map R5 o2⟩]⟩) hl1 (ES [some 0]<|sd 1 Y Y<|sr 6 Y (.osl _ _ _ Y)<|sd 17 Y Y<|sd 18 Y Y sn) fun n1 o2 i h=>?_
   unfold Qr at h
   refine Tr<|R2 Z1 Y<|Za<|Zl<|If h Y (fun h=>?_) fun h=>?_
   ·
    exact Zm<|Zl<|Zk<|K4 1 6 17 18 Y<|Tr<|Rm Y<|Ra Y<|Za<|K5 1 6 7 17 18 Y<|ZA<|Rm Y<|Rm Y<|bE h fun u2 h_u2 h=>bE h fun x2 h_x2 h=>Rq Y (ZjY (ov Y) (ov Y) Qg Y Y (Zfr h_u).1 h_u2 h_x2)<|Rx Y (JY (u' := 255) (ov Y) (ov Y) (Zf tS5) Y Y h_x2 Y (Zb Y) Y)<|Za<|K4 1 6 17 18 Y<|ZA<|R2 ZY Y<|Rm Y<|Za<|⟨_, h, ES [some 0]<|sd 1 Y Y<|sr 6 Y (ZlV (Eq.symm<|(List.length_set ..).trans Y) Y)<|sd 17 Y Y<|sd 18 Y Y sn⟩
   ·
    refine ZN<|?_
    replace h := lx h ▸ ho1
    exact ⟨_, h, ES [some 0]⟩
  ·
   refine Tr<|Rm Y<|R2 Zg9 Y<|Rq Y (ZjU (ov Y) (ov Y) Y)<|Rm Y<|R2 Zcu Y<|Ra Y<|Ra Y<|Za<|?_
   obtain rfl := rt h
   exact Zs<|JI [some 0] Y (.cons (.tmp Y)<|.cons (.tmp Y) .nil) (.cons Y (roM D5) .nil) Y Y<|Xo<|rlc (.dat Y)<|rlc (.dat Y) rln
 ·
  refine Zm<|I1 (fun o3=>⟨[(1, .int .i64 power)], [some ⟨5, List.map R5 o3⟩]⟩) h (fun h=>?_) fun o3 h=>?_
  ·
   refine K2 1 6 Y<|Tr<|Rm Y<|Rq Y (Zdt (ov Y) Y Y Qg)<|Rm Y<|Za<|Zk<|?_
   obtain ⟨r2, hl2, ho2⟩ := QY h
   refine L2 (fun o4 i2=>⟨[(1, .int .i64 power), (6, .own 0 o4.length), (17, .int .i64 (s.length : Int)), (18, .int .i64 i2)], [some ⟨5, List.map R5 o4⟩]⟩) hl2 (ES [some 0]) fun n2 o4 i2 h=>?_
   unfold Qn at h
   refine Tr<|R2 Z1 Y<|Za<|Zl<|If h Y (fun h=>?_) fun h=>?_
   ·
    exact Zm<|Zl<|Zk<|K4 1 6 17 18 Y<|Tr<|Rm Y<|Ra Y<|Za<|K5 1 6 7 17 18 Y<|ZA<|Rm Y<|Rm Y<|bE h fun x3 h_x3 h=>Rq Y (XB (ov Y) (ov Y) Qg Y Y h_x3)<|Rx Y (JY (u' := 255) (ov Y) (ov Y) (Zf tS5) Y Y h_x3 Y (Zb Y) Y)<|Za<|K4 1 6 17 18 Y<|ZA<|R2 ZY Y<|Rm Y<|Za<|⟨_, h, ES [some 0]<|sd 1 Y Y<|sr 6 Y (Zfd (Eq.symm<|(List.length_set ..).trans Y) Y)<|sd 17 Y Y<|sd 18 Y Y sn⟩
   ·
    refine ZN<|?_
    replace h := lx h ▸ ho2
    exact ⟨_, h, ES [some 0]⟩
  ·
   refine Tr<|Rm Y<|R2 Zg9 Y<|Rq Y (ZjU (ov Y) (ov Y) Y)<|Rm Y<|R2 Zcu Y<|Ra Y<|Ra Y<|Za<|?_
   obtain rfl := rt h
   exact Zs<|JI [some 0] Y (.cons (.tmp Y)<|.cons (.tmp Y) .nil) (.cons Y (roM D5) .nil) Y Y<|Xo<|rlc (.dat Y)<|rlc (.dat Y) rln
theorem Zdc {s : List Int} {at_ : Int} {data : List Int} {power : Int} {r : Int × Bool × (List Int)} (h : Xa s at_ data power = some r) :
 GSpec Tryz.prog gl0 72 [.own 0 s.length, .int .i64 at_, .sl 5 (List.map R5 data), .int .i64 power] [some ⟨5, List.map R5 s⟩] (.tuple [.int .i64 r.1, .bool r.2.1]) [some ⟨5, List.map R5 r.2.2⟩] := by
 unfold Xa at h
 replace h := Qd h
 refine Qt (by kernel_rfl) Tryz.func72 Y Y<|?_
 intro w0 A W φ0
 refine Tr<|Ra Y<|Ra Y<|Za<|J2 (fun j => (.inr j)) (fun o power2=>⟨[(3, .int .i64 power2)], [some ⟨5, List.map R5 o⟩]⟩) h (fun h=>?_) fun o power2 h=>?_
 ·
  refine K4 0 1 2 3 Y<|Tr<|Rm Y<|Rl tZ_5 Qg Y<|Rm Y<|Za<|Zk<|?_
  obtain ⟨r1, hl1, ho1⟩ := QY h
  refine L3 (fun o2 power3 i=>⟨[(0, .own 0 o2.length), (1, .int .i64 at_), (3, .int .i64 power3), (12, .sl 5 (List.map R5 data)), (13, .int .i64 (data.length : Int)), (14, .int .i64 i)], [some ⟨5, List.map R5 o2⟩]⟩) hl1 (ES [some 0]) fun n1 o2 power3 i h=>?_
  unfold QL at h
  refine Tr<|R2 Z1 Y<|Za<|Zl<|If h Y (fun h=>?_) fun h=>?_
  ·
   refine Zm<|Zl<|Zk<|K6 0 1 3 12 13 14 Y<|Tr<|Rm Y<|bE h fun x h_x h=>Rq Y (Z4 (ov Y) (ov Y) Qg h_x)<|Rq Y (Zi (ov Y) tS5 Y)<|Ra Y<|Ra Y<|Za<|Zl<|K8 0 1 3 10 11 12 13 14 Y<|Tr<|Rm Y<|R2 Zbg Y<|Za<|K9 0 1 3 10 11 12 13 14 20 Y<|If h Y (fun h=>?_) fun h=>?_
   ·
    refine K4 0 1 10 11 Y<|Tr<|Rm Y<|Rm Y<|Rm Y<|R2 ZY Y<|bE h fun x2 h_x2 h=>Rq Y (XB (ov Y) (ov Y) Qg Y Y h_x2)<|Rq Y (XQ (ov Y) Y Y h_x2 tS5 Y)<|Rm Y<|R2 ZeO Y<|R2 Zan Y<|bE h fun x3 h_x3 h=>Rq Y (XB (ov Y) (ov Y) Qg Y Y h_x3)<|Rx Y (JY (u' := (Xu .u8 x2 (bor .u8 x 15))) (ov Y) (ov Y) (Zf tS5) Y Y h_x3 Y (Zb Y) Y)<|Za<|K0<|Tr<|Ra Y<|Ra Y<|Za<|?_
    replace h := lx h ▸ ho1
    obtain rfl := rt h
    exact Zs<|JI [some 0] Y (.cons (.tmp Y)<|.cons (.tmp Y) .nil) (.cons Y (roM D5) .nil) Y Y<|Xo<|rlc (.dat Y)<|rlc (.dat Y) rln
   ·
    exact Zm<|K8 0 1 3 10 11 12 13 14 Y<|Tr<|Rm Y<|Rm Y<|Rm Y<|R2 ZY Y<|bE h fun x4 h_x4 h=>Rq Y (XB (ov Y) (ov Y) Qg Y Y h_x4)<|Rq Y (XQ (ov Y) Y Y h_x4 tS5 Y)<|Rm Y<|R2 Zan Y<|bE h fun x5 h_x5 h=>Rq Y (XB (ov Y) (ov Y) Qg Y Y h_x5)<|Rx Y (JY (u' := (Xu .u8 x4 x)) (ov Y) (ov Y) (Zf tS5) Y Y h_x5 Y (Zb Y) Y)<|Za<|K6 0 1 3 12 13 14 Y<|ZA<|Rm Y<|R2 Zg9 Y<|Ra Y<|Za<|K6 0 1 3 12 13 14 Y<|ZA<|R2 ZY Y<|Rm Y<|Za<|⟨_, h, ES [some 0]<|sr 0 Y (Zfd (Eq.symm<|(List.length_set ..).trans Y) Y)<|sd 1 Y Y<|sd 3 Y Y<|sd 12 Y Y<|sd 13 Y Y<|sd 14 Y Y sn⟩
  ·
   refine ZN<|?_
   replace h := lx h ▸ ho1
   exact ⟨_, h, ES [some 0]⟩
 ·
  replace h := elr h
  replace h := t2i h
  refine Tr<|Rm Y<|Ra Y<|Ra Y<|Za<|?_
  obtain rfl := rt h
  exact Zs<|JI [some 0] Y (.cons (.tmp Y)<|.cons (.tmp Y) .nil) (.cons Y (roM D5) .nil) Y Y<|Xo<|rlc (.dat Y)<|rlc (.dat Y) rln
theorem Zcj {b : ring_Recorder} {k : Int} {power : Int} {r : Int × Bool × ring_Recorder} (h : Xv b k power = some r) :
 GSpec Tryz.prog gl0 112 [.ptr 0 1 0 0, .int .i64 k, .int .i64 power] [some ⟨102, [[.own 1 b.bank.memories.length, .own 2 b.bank.spots.length, .int .i64 b.copies, .bool b.frozen, .bool b.stopped, .int .i64 b.last, .bool b.some_]]⟩, some ⟨26, List.map O26 b.bank.memories⟩, some ⟨105, List.map R105 b.bank.spots⟩] (.tuple [.int .i64 r.1, .bool r.2.1]) [some ⟨102, [[.own 3 r.2.2.bank.memories.length, .own 4 r.2.2.bank.spots.length, .int .i64 r.2.2.copies, .bool r.2.2.frozen, .bool r.2.2.stopped, .int .i64 r.2.2.last, .bool r.2.2.some_]]⟩, none, none, some ⟨26, List.map O26 r.2.2.bank.memories⟩, some ⟨105, List.map R105 r.2.2.bank.spots⟩] := by
 unfold Xv at h
 replace h := Qd h
 refine Qt (by kernel_rfl) Tryz.func112 Y Y<|?_
 intro w0 A W φ0
 refine ZeM (Ent.sel [some 0, some 1, some 2, some 1, some 2] (sr 0 Y (.ptr (r' := 0) _ _ _ Y)<|sd 1 Y Y<|sd 2 Y Y sn) (.cons Y (ro1 (by exact tZ_102.symm)<|rlc (.own (r' := 3) _ Y)<|rlc (.own (r' := 4) _ Y)<|rlc (.dat Y)<|rlc (.dat Y)<|rlc (.dat Y)<|rlc (.dat Y)<|rlc (.dat Y) rln)<|.dead<|.dead<|.cons Y (roO Xn)<|.cons Y (roM D105) .nil) Y Y)<|QF [some ⟨102, [[.own 3 b.bank.memories.length, .own 4 b.bank.spots.length, .int .i64 b.copies, .bool b.frozen, .bool b.stopped, .int .i64 b.last, .bool b.some_]]⟩, none, none, some ⟨26, List.map O26 b.bank.memories⟩, some ⟨105, List.map R105 b.bank.spots⟩] Y<|Tr<|Ra Y<|Ra Y<|Za<|Zl<|K3 0 1 2 Y<|Qj (cw := md0) (by kernel_rfl)<|D1 0 Zj Y<|Dq 1 Y (ZC (ov Y) Y Y)<|Dq 2 Y (Zg (ov Y) Y Y Zci)<|Dq 3 Y (Zo (ov Y) Y Y Y Zh1 Y)<|D1 4 Zj Y<|bE h fun x h_x h=>Dq 5 Y (XB (ov Y) (ov Y) ZcD Y Y h_x)<|D1 6 Zj Y<|D1 7 Zj Y<|bE h fun y h_y h=>Dq 8 Y (ZbA (ZaM h_y) .int<|.cons (ov Y) (View.ptrS (j := 0) (k := 2) Y Y Y (Nat.le_of_ble_eq_true Y)<|.cons (View.ownO Y Y Xn (fun x=>(D26 x).1) ZiQ)<|.cons (View.ownM Y Y D105) .nil)<|.cons (ov Y) (Dat.view<|.b Y) .nil)<|D1 9 Qm Y<|D1 10 Qm Y<|Dd<|K5 0 1 2 8 9 Y<|Tr<|Rm Y<|Rm Y<|Rm Y<|bE h fun y2 h_y2 h=>Rq Y (ZbA (Zbf h_y2) .int<|.cons (ov Y) (View.ptrS (j := 0) (k := 2) Y Y Y (Nat.le_of_ble_eq_true Y)<|.cons (View.ownO Y Y Xn (fun x=>(D26 x).1) ZiQ)<|.cons (View.ownM Y Y D105) .nil)<|.cons (ov Y) (Dat.view<|.b Y)<|.cons (ov Y) (Dat.view<|.b Y) .nil)<|Ra Y<|Za<|K6 0 1 2 8 9 10 Y<|Tr<|Rm Y<|Rq Y (ZC (ov Y) Y<|List.length_map ..)<|Rq Y (Zcp (ov Y) Y Y Zdy)<|QK (Ent.focusH (r := 3) (j := 3) (e' := 3) (g := R3) (ys := x.Wear) Y (ZF h_x).2 Y DR3)<|Rq Y (ZbS (ov Y) Y Y (ZF h_x).2 Zh4 Y)<|Rm Y<|bE h fun x2 h_x2 h=>Rq Y (XB (ov Y) (ov Y) QH Y Y h_x2)<|Rq Y (XQ (ov Y) Y Y h_x2 tS3 Y)<|R2 ZY Y<|bE h fun x3 h_x3 h=>Rq Y (XB (ov Y) (ov Y) QH Y Y h_x3)<|Rx Y (JY (u' := (i64 (x2 + 1))) (ov Y) (ov Y) (Zf tS3) Y Y h_x3 Y (Zb Y) Y)<|Zd6 [some ⟨102, [[.own 3 b.bank.memories.length, .own 4 b.bank.spots.length, .int .i64 b.copies, .bool b.frozen, .bool b.stopped, .int .i64 b.last, .bool b.some_]]⟩, none, none, some ⟨26, List.set (List.map O26 b.bank.memories) k.toNat [.int .i64 x.Slots, .int .i64 x.Limit, .osub 49 (List.map O49 x.Sectors), .own 5 x.Wear.length, .osub 4 (List.map R4 x.Bad)]⟩, some ⟨105, List.map R105 b.bank.spots⟩, some ⟨3, List.map R3 (x.Wear.set y.toNat (i64 (x2 + 1)))⟩] Y<|?_
 have h_x4 := Xx (y := (api_Memory.mk x.Slots x.Limit x.Sectors (x.Wear.set y.toNat (i64 (x2 + 1))) x.Bad)) h_x
 have h_x5 := Xx (y := (api_Memory.mk x.Slots x.Limit x.Sectors (x.Wear.set y.toNat (i64 (x2 + 1))) x.Bad)) h_x
 have h_x6 := Xx (y := (api_Memory.mk x.Slots x.Limit x.Sectors (x.Wear.set y.toNat (i64 (x2 + 1))) x.Bad)) h_x
 have h_x7 := Xx (y := (api_Memory.mk x.Slots x.Limit x.Sectors (x.Wear.set y.toNat (i64 (x2 + 1))) x.Bad)) h_x
 refine QK (Ent.absorbH (r := 3) (j := 3) (q := 5) Y (ZF h_x).2 Y Y ((List.length_map ..).trans<|(List.length_set ..).trans Y) Y)<|QK (Ent.closeH (r := 3) (y := (api_Memory.mk x.Slots x.Limit x.Sectors (x.Wear.set y.toNat (i64 (x2 + 1))) x.Bad)) Y Y)<|Za<|K6 0 1 2 8 9 10 Y<|QF [some ⟨102, [[.own 3 b.bank.memories.length, .own 4 b.bank.spots.length, .int .i64 b.copies, .bool b.frozen, .bool b.stopped, .int .i64 b.last, .bool b.some_]]⟩, none, none, some ⟨26, List.map O26 (b.bank.memories.set k.toNat (api_Memory.mk x.Slots x.Limit x.Sectors (x.Wear.set y.toNat (i64 (x2 + 1))) x.Bad))⟩, some ⟨105, List.map R105 b.bank.spots⟩, none] Y<|Tr<|Rm Y<|Rq Y (ZC (ov Y) Y<|(List.length_map ..).trans<|(List.length_set ..).trans Y)<|Rq Y (Zcp (ov Y) Y ((List.length_set ..).trans Y) Zp)<|QK (Ent.focusH (r := 3) (j := 2) (e' := 49) (g := O49) (ys := x.Sectors) Y (ZF h_x4).2 Y ZW)<|Rq Y (ZbS (ov Y) Y ((List.length_set ..).trans Y) (ZF h_x4).2 ZD Y)<|Rm Y<|bE h fun x8 h_x8 h=>Rq Y (XB (ov Y) (ov Y) Zz Y Y h_x8)<|QK (Ent.focusH (r := 6) (j := 0) (e' := 5) (g := R5) (ys := x8) Y (ZF h_x8).2 Y DR5)<|Rq Y (ZbS (ov Y) Y Y (ZF h_x8).2 Zfl Y)<|Rm Y<|bE h fun y3 h_y3 h=>Rx Y (Zv [7] (Zez h_y3) (.cons (ov Y) (.own _ Y)<|.cons (ov Y) (.dat Y) .nil) (.cons Y (roM D5) .nil) Y (.keep Y Y<|.none<|.none<|.keep Y Y<|.keep Y Y<|.none<|.keep Y Y<|.lent 0 (.inl Y) Y (roM D5) .nil) Y Y<|Xo<|rld Y)<|Rm Y<|Rq Y (Zr (ov Y) Y)<|Rq Y (Zr (ov Y) Y)<|Ra Y<|Ra Y<|Zd6 [some ⟨102, [[.own 3 b.bank.memories.length, .own 4 b.bank.spots.length, .int .i64 b.copies, .bool b.frozen, .bool b.stopped, .int .i64 b.last, .bool b.some_]]⟩, none, none, some ⟨26, List.set (List.map O26 (b.bank.memories.set k.toNat (api_Memory.mk x.Slots x.Limit x.Sectors (x.Wear.set y.toNat (i64 (x2 + 1))) x.Bad))) k.toNat [.int .i64 x.Slots, .int .i64 x.Limit, .own 6 x.Sectors.length, .osub 3 (List.map R3 (x.Wear.set y.toNat (i64 (x2 + 1)))), .osub 4 (List.map R4 x.Bad)]⟩, some ⟨105, List.map R105 b.bank.spots⟩, none, some ⟨49, List.set (List.map O49 x.Sectors) y.toNat [.own 7 x8.length]⟩, some ⟨5, List.map R5 y3.2.2⟩] Y<|?_
 have h_x9 := Xx (y := y3.2.2) h_x8
 have h_x10 := Xx (y := (api_Memory.mk x.Slots x.Limit (x.Sectors.set y.toNat y3.2.2) (x.Wear.set y.toNat (i64 (x2 + 1))) x.Bad)) h_x4
 have h_x11 := Xx (y := (api_Memory.mk x.Slots x.Limit (x.Sectors.set y.toNat y3.2.2) (x.Wear.set y.toNat (i64 (x2 + 1))) x.Bad)) h_x4
 have h_x12 := Xx (y := (api_Memory.mk x.Slots x.Limit (x.Sectors.set y.toNat y3.2.2) (x.Wear.set y.toNat (i64 (x2 + 1))) x.Bad)) h_x4
 have h_x13 := Xx (y := (api_Memory.mk x.Slots x.Limit (x.Sectors.set y.toNat y3.2.2) (x.Wear.set y.toNat (i64 (x2 + 1))) x.Bad)) h_x4
 refine QK (Ent.absorbH (r := 6) (j := 0) (q := 7) Y (ZF h_x8).2 Y Y ((List.length_map ..).trans<|ZeL h_y3) Y)<|QK (Ent.closeH (r := 6) (y := y3.2.2) Y Y)<|QK (Ent.absorbH (r := 3) (j := 2) (q := 6) Y (ZF h_x4).2 Y Y ((List.length_map ..).trans<|(List.length_set ..).trans Y) Y)<|QK (Ent.closeH (r := 3) (y := (api_Memory.mk x.Slots x.Limit (x.Sectors.set y.toNat y3.2.2) (x.Wear.set y.toNat (i64 (x2 + 1))) x.Bad)) Y Y)<|Za<|Zl<|K7 0 1 2 8 9 10 11 Y<|QF [some ⟨102, [[.own 3 b.bank.memories.length, .own 4 b.bank.spots.length, .int .i64 b.copies, .bool b.frozen, .bool b.stopped, .int .i64 b.last, .bool b.some_]]⟩, none, none, some ⟨26, List.map O26 ((b.bank.memories.set k.toNat (api_Memory.mk x.Slots x.Limit x.Sectors (x.Wear.set y.toNat (i64 (x2 + 1))) x.Bad)).set k.toNat (api_Memory.mk x.Slots x.Limit (x.Sectors.set y.toNat y3.2.2) (x.Wear.set y.toNat (i64 (x2 + 1))) x.Bad))⟩, some ⟨105, List.map R105 b.bank.spots⟩, none, none, none] Y<|Tr<|Rm Y<|R1 XU Y<|Za<|K7 0 1 2 8 9 10 47 Y<|If h Y (fun h=>?_) fun h=>?_
 ·
  refine K1 2 Y<|Tr<|Rm Y<|Ra Y<|Ra Y<|Za<|?_
  obtain rfl := rt h
  exact Zs<|JI [some 0, some 1, some 2, some 3, some 4] Y (.cons (.tmp Y)<|.cons (.tmp Y) .nil) (.cons Y (ro1 (by exact tZ_102.symm)<|rlc (Zfd (Eq.symm<|(List.length_set ..).trans<|(List.length_set ..).trans Y) Y)<|rlc (.own _ Y)<|rlc (.dat Y)<|rlc (.dat Y)<|rlc (.dat Y)<|rlc (.dat Y)<|rlc (.dat Y) rln)<|.dead<|.dead<|.cons Y (roO Xn)<|.cons Y (roM D105) .nil) Y Y<|Xo<|rlc (.dat Y)<|rlc (.dat Y) rln
 ·
  refine Zm<|I4 (fun memories spots power2 all=>⟨[(2, .int .i64 power2), (11, .bool all)], [some ⟨102, [[.own 3 memories.length, .own 4 spots.length, .int .i64 b.copies, .bool b.frozen, .bool b.stopped, .int .i64 b.last, .bool b.some_]]⟩, none, none, some ⟨26, List.map O26 memories⟩, some ⟨105, List.map R105 spots⟩]⟩) h (fun h=>?_) fun memories spots power2 all h=>?_
  ·
   refine Zl<|K6 0 1 2 8 9 10 Y<|bE h fun x14 h_x14 h=>ZeM (Ent.focusH (r := 3) (j := 2) (e' := 49) (g := O49) (ys := x14.Sectors) Y (ZF h_x14).2 Y ZW)<|bE h fun x15 h_x15 h=>ZeM (Ent.focusH (r := 8) (j := 0) (e' := 5) (g := R5) (ys := x15) Y (ZF h_x15).2 Y DR5)<|Qj (cw := ⟨true, true, [some ⟨102, [[.own 3 b.bank.memories.length, .own 4 b.bank.spots.length, .int .i64 b.copies, .bool b.frozen, .bool b.stopped, .int .i64 b.last, .bool b.some_]]⟩, none, none, some ⟨26, List.set (List.map O26 ((b.bank.memories.set k.toNat (api_Memory.mk x.Slots x.Limit x.Sectors (x.Wear.set y.toNat (i64 (x2 + 1))) x.Bad)).set k.toNat (api_Memory.mk x.Slots x.Limit (x.Sectors.set y.toNat y3.2.2) (x.Wear.set y.toNat (i64 (x2 + 1))) x.Bad))) k.toNat [.int .i64 x14.Slots, .int .i64 x14.Limit, .own 8 x14.Sectors.length, .osub 3 (List.map R3 x14.Wear), .osub 4 (List.map R4 x14.Bad)]⟩, some ⟨105, List.map R105 b.bank.spots⟩, none, none, none, some ⟨49, List.set (List.map O49 x14.Sectors) y.toNat [.own 9 x15.length]⟩, some ⟨5, List.map R5 x15⟩], [], [9]⟩) (by kernel_rfl)<|D1 7 Zj Y<|ZP 0 _ Y (by kernel_rfl) Y Y (fun hp'=>Zj<|ov Y)<|Xq 1 _ Y (by kernel_rfl) Y Y Y (EL.ext<|.keep<|.keep<|.keep<|.keep<|.keep<|.keep<|.keep<|.keep<|.keep<|.wr Y Y Y .nil) (fun hp' hx=>ZC (ov Y) (hx.get Y Y)<|((List.length_set ..).trans (List.length_map ..)).trans<|(List.length_set ..).trans<|(List.length_set ..).trans Y)<|Xq 2 _ Y (by kernel_rfl) Y Y Y (EL.ext<|.keep<|.keep<|.keep<|.keep<|.keep<|.keep<|.keep<|.keep<|.keep<|.wr Y Y Y .nil) (fun hp' hx=>Zhu (ov Y) (hx.get Y Y) ((List.length_set ..).trans<|(List.length_set ..).trans Y) Zp)<|Xq 3 _ Y (by kernel_rfl) Y Y Y (EL.ext<|.keep<|.keep<|.keep<|.keep<|.keep<|.keep<|.keep<|.keep<|.keep<|.wr Y Y Y .nil) (fun hp' hx=>ZbS (ov Y) (hx.get Y Y) ((List.length_set ..).trans<|(List.length_set ..).trans Y) (ZF h_x14).2 ZD Y)<|ZP 4 _ Y (by kernel_rfl) Y Y (fun hp'=>Zj<|ov Y)<|bE h fun x16 h_x16 h=>Xq 5 _ Y (by kernel_rfl) Y Y Y (EL.ext<|.keep<|.keep<|.keep<|.keep<|.keep<|.keep<|.keep<|.keep<|.keep<|.wr Y Y Y .nil) (fun hp' hx=>ZiJ (ov Y) (ov Y) Zz (hx.get Y Y) Y h_x16)<|Xq 6 _ Y (by kernel_rfl) Y Y Y (EL.ext<|.keep<|.keep<|.keep<|.keep<|.keep<|.keep<|.keep<|.keep<|.keep<|.wr Y Y Y .nil) (fun hp' hx=>ZbS (ov Y) (hx.get Y Y) Y (ZF h_x15).2 Zfl Y)<|ZP 9 _ Y (by kernel_rfl) Y Y (fun hp'=>Zj<|ov Y)<|bE h fun y4 h_y4 h=>QA 8 _ _ Y (by kernel_rfl) Y Y (fun h=>by cases h) (fun _=>by exact EL.ext (.keep <| .keep <| .keep <| .keep <| .keep <| .keep <| .keep <| .keep <| .keep <| .wr rfl rfl rfl <| .nil)) (Z7<|Zq (ZdZ h_y4)<|.cons (ov Y) (.b Y) .nil)<|bE h fun y5 h_y5 h=>QA 10 _ _ Y (by kernel_rfl) Y Y (fun h=>by cases h) (fun _=>by exact EL.ext (.keep <| .keep <| .keep <| .keep <| .keep <| .keep <| .keep <| .keep <| .keep <| .wr rfl rfl ((List.length_map ..).trans (Eq.trans (JE h_y5) (Eq.symm ((List.length_map ..).trans rfl)))) <| .nil)) (Zv [9] (Zdc h_y5) (.cons (ov Y) (.own _ Y)<|.cons (ov Y) (.dat Y)<|.cons (ov Y) (.dat Y)<|.cons (ov Y) (.dat Y) .nil) (.cons Y (roM D5) .nil) Y (.keep Y Y<|.none<|.none<|.keep Y Y<|.keep Y Y<|.none<|.none<|.none<|.keep Y Y<|.lent 0 (.inl Y) Y (roM D5) .nil) Y Y<|Xo<|rld Y)<|D1 11 Zj Y<|Dq 12 Y (Zr (ov Y) Y)<|Dq 13 Y (Zr (ov Y) Y)<|D1 14 Qm Y<|D1 15 Qm Y<|?_
   have h_x17 := Xx (y := y5.2.2) h_x16
   have h_x18 := Xx (y := (api_Memory.mk x14.Slots x14.Limit (x14.Sectors.set y.toNat y5.2.2) x14.Wear x14.Bad)) h_x10
   have h_x19 := Xx (y := (api_Memory.mk x14.Slots x14.Limit (x14.Sectors.set y.toNat y5.2.2) x14.Wear x14.Bad)) h_x10
   have h_x20 := Xx (y := (api_Memory.mk x14.Slots x14.Limit (x14.Sectors.set y.toNat y5.2.2) x14.Wear x14.Bad)) h_x10
   have h_x21 := Xx (y := (api_Memory.mk x14.Slots x14.Limit (x14.Sectors.set y.toNat y5.2.2) x14.Wear x14.Bad)) h_x10
   refine Zx (by kernel_rfl) (Ent.trans (Ent.absorbH (r := 8) (j := 0) (q := 9) Y (ZF h_x15).2 Y Y ((List.length_map ..).trans<|JE h_y5) Y)<|Ent.trans (Ent.closeH (r := 8) (y := y5.2.2) Y Y)<|Ent.trans (Ent.absorbH (r := 3) (j := 2) (q := 8) Y (ZF h_x14).2 Y Y ((List.length_map ..).trans<|(List.length_set ..).trans Y) Y)<|Ent.closeH (r := 3) (y := (api_Memory.mk x14.Slots x14.Limit (x14.Sectors.set y.toNat y5.2.2) x14.Wear x14.Bad)) Y Y)<|K5 0 1 2 9 11 Y<|QF [some ⟨102, [[.own 3 b.bank.memories.length, .own 4 b.bank.spots.length, .int .i64 b.copies, .bool b.frozen, .bool b.stopped, .int .i64 b.last, .bool b.some_]]⟩, none, none, some ⟨26, List.map O26 (((b.bank.memories.set k.toNat (api_Memory.mk x.Slots x.Limit x.Sectors (x.Wear.set y.toNat (i64 (x2 + 1))) x.Bad)).set k.toNat (api_Memory.mk x.Slots x.Limit (x.Sectors.set y.toNat y3.2.2) (x.Wear.set y.toNat (i64 (x2 + 1))) x.Bad)).set k.toNat (api_Memory.mk x14.Slots x14.Limit (x14.Sectors.set y.toNat y5.2.2) x14.Wear x14.Bad))⟩, some ⟨105, List.map R105 b.bank.spots⟩, none, none, none, none, none] Y<|Tr<|Rm Y<|Za<|If h Y (fun h=>?_) fun h=>?_
   ·
    exact K5 0 1 2 9 11 Y<|ZA<|Rm Y<|Rq Y (ZC (ov Y) Y Y)<|Rq Y (Zg (ov Y) Y Y ZdD)<|Rq Y (Zo (ov Y) Y Y Y ZiL Y)<|Rm Y<|Rm Y<|Rq Y (Z8 (ys := [_, _]) ZiI ZiR ZhF (.cons (cvs (ov Y)<|Zd Y) .nil) Y)<|bE h fun x22 h_x22 h=>Rq Y (XB (ov Y) (ov Y) ZiT Y Y h_x22)<|Rx Y (JY (u' := (ring_spot.mk y 0)) (ov Y) (ov Y) (Zu ZfR Y) Y Y h_x22 Y (Zb Y) Y)<|Za<|⟨_, h, ES [some 0, some 1, some 2, some 3, some 4] (hhp := .cons Y (ro1 (by exact tZ_102.symm)<|rlc (Zfd (Eq.symm<|(List.length_set ..).trans<|(List.length_set ..).trans<|(List.length_set ..).trans Y) Y)<|rlc (Zfd (Eq.symm<|(List.length_set ..).trans Y) Y)<|rlc (.dat Y)<|rlc (.dat Y)<|rlc (.dat Y)<|rlc (.dat Y)<|rlc (.dat Y) rln)<|.dead<|.dead<|.cons Y (roO Xn)<|.cons Y (roM D105) .nil)⟩
   ·
    exact Zm<|⟨_, h, ES [some 0, some 1, some 2, some 3, some 4] (hhp := .cons Y (ro1 (by exact tZ_102.symm)<|rlc (Zfd (Eq.symm<|(List.length_set ..).trans<|(List.length_set ..).trans<|(List.length_set ..).trans Y) Y)<|rlc (.own _ Y)<|rlc (.dat Y)<|rlc (.dat Y)<|rlc (.dat Y)<|rlc (.dat Y)<|rlc (.dat Y) rln)<|.dead<|.dead<|.cons Y (roO Xn)<|.cons Y (roM D105) .nil)⟩
  ·
   refine Tr<|Rm Y<|Rm Y<|Ra Y<|Ra Y<|Za<|?_
   obtain rfl := rt h
   exact Zs<|JI [some 0, some 1, some 2, some 3, some 4] Y (.cons (.tmp Y)<|.cons (.tmp Y) .nil) (.cons Y (ro1 (by exact tZ_102.symm)<|rlc (.own _ Y)<|rlc (.own _ Y)<|rlc (.dat Y)<|rlc (.dat Y)<|rlc (.dat Y)<|rlc (.dat Y)<|rlc (.dat Y) rln)<|.dead<|.dead<|.cons Y (roO Xn)<|.cons Y (roM D105) .nil) Y Y<|Xo<|rlc (.dat Y)<|rlc (.dat Y) rln
theorem Zcb {b : ring_Recorder} {k : Int} {data : List Int} {power : Int} {r : Int × Bool × ring_Recorder} (h : X6 b k data power = some r) :
 GSpec Tryz.prog gl0 71 [.ptr 0 1 0 0, .int .i64 k, .slf 5 (List.map R5 data), .int .i64 power] [some ⟨102, [[.own 1 b.bank.memories.length, .own 2 b.bank.spots.length, .int .i64 b.copies, .bool b.frozen, .bool b.stopped, .int .i64 b.last, .bool b.some_]]⟩, some ⟨26, List.map O26 b.bank.memories⟩, some ⟨105, List.map R105 b.bank.spots⟩] (.tuple [.int .i64 r.1, .bool r.2.1]) [some ⟨102, [[.own 3 r.2.2.bank.memories.length, .own 4 r.2.2.bank.spots.length, .int .i64 r.2.2.copies, .bool r.2.2.frozen, .bool r.2.2.stopped, .int .i64 r.2.2.last, .bool r.2.2.some_]]⟩, none, none, some ⟨26, List.map O26 r.2.2.bank.memories⟩, some ⟨105, List.map R105 r.2.2.bank.spots⟩] := by
 unfold X6 at h
 replace h := Qd h
 refine Qt (by kernel_rfl) Tryz.func71 Y Y<|?_
 intro w0 A W φ0
 refine ZeM (Ent.sel [some 0, some 1, some 2, some 1, some 2] (sr 0 Y (.ptr (r' := 0) _ _ _ Y)<|sd 1 Y Y<|sd 2 Y Y<|sd 3 Y Y sn) (.cons Y (ro1 (by exact tZ_102.symm)<|rlc (.own (r' := 3) _ Y)<|rlc (.own (r' := 4) _ Y)<|rlc (.dat Y)<|rlc (.dat Y)<|rlc (.dat Y)<|rlc (.dat Y)<|rlc (.dat Y) rln)<|.dead<|.dead<|.cons Y (roO Xn)<|.cons Y (roM D105) .nil) Y Y)<|QF [some ⟨102, [[.own 3 b.bank.memories.length, .own 4 b.bank.spots.length, .int .i64 b.copies, .bool b.frozen, .bool b.stopped, .int .i64 b.last, .bool b.some_]]⟩, none, none, some ⟨26, List.map O26 b.bank.memories⟩, some ⟨105, List.map R105 b.bank.spots⟩] Y<|Tr<|Ra Y<|Ra Y<|Za<|J8 (fun j => (.inr j)) (fun memories spots copies frozen stopped last some_ power2=>⟨[(0, .ptr 0 1 0 0), (1, .int .i64 k), (2, .slf 5 (List.map R5 data)), (3, .int .i64 power2)], [some ⟨102, [[.own 3 memories.length, .own 4 spots.length, .int .i64 copies, .bool frozen, .bool stopped, .int .i64 last, .bool some_]]⟩, none, none, some ⟨26, List.map O26 memories⟩, some ⟨105, List.map R105 spots⟩]⟩) h (fun h=>?_) fun memories spots copies frozen stopped last some_ power2 h=>?_
 ·
  refine K4 0 1 2 3 Y<|Tr<|Rm Y<|Rm Y<|bE h fun y h_y h=>Rq Y (ZbA (JK h_y) .bool<|.cons (ov Y) (View.ptrS (j := 0) (k := 2) Y Y Y (Nat.le_of_ble_eq_true Y)<|.cons (View.ownO Y Y Xn (fun x=>(D26 x).1) ZiQ)<|.cons (View.ownM Y Y D105) .nil)<|.cons (ov Y) (Dat.view<|.b Y) .nil)<|Za<|K5 0 1 2 3 15 Y<|If h Y (fun h=>?_) fun h=>?_
  ·
   refine K4 0 1 2 3 Y<|Tr<|Ra Y<|Za<|Tr<|Rm Y<|Rm Y<|Rm Y<|bE h fun y2 h_y2 h=>Rx Y (Zv [0, 3, 4] (Zcj h_y2) (.cons (ov Y) (.ptr _ _ _ Y)<|.cons (ov Y) (.dat Y)<|.cons (ov Y) (.dat Y) .nil) (.cons Y (ro1 (by exact tZ_102.symm)<|rlc (.own _ Y)<|rlc (.own _ Y)<|rlc (.dat Y)<|rlc (.dat Y)<|rlc (.dat Y)<|rlc (.dat Y)<|rlc (.dat Y) rln)<|.cons Y (roO Xn)<|.cons Y (roM D105) .nil) Y (.lent 0 (.inl Y) Y (ro1 (by exact tZ_102.symm)<|rlc (.own _<|.inr ⟨Nat.le_of_ble_eq_true Y, Y⟩)<|rlc (.own _<|.inr ⟨Nat.le_of_ble_eq_true Y, Y⟩)<|rlc (.dat Y)<|rlc (.dat Y)<|rlc (.dat Y)<|rlc (.dat Y)<|rlc (.dat Y) rln)<|.none<|.none<|.none<|.none<|.lent 3 (.inr ⟨Nat.le_of_ble_eq_true Y, Y⟩) Y (roO Xn)<|.lent 4 (.inr ⟨Nat.le_of_ble_eq_true Y, Y⟩) Y (roM D105) .nil) Y Y<|Xo<|rld Y)<|Rm Y<|Rq Y (Zr (ov Y) Y)<|Rq Y (Zr (ov Y) Y)<|Ra Y<|Ra Y<|Za<|K5 0 1 2 3 10 Y<|QF [some ⟨102, [[.own 5 y2.2.2.bank.memories.length, .own 6 y2.2.2.bank.spots.length, .int .i64 y2.2.2.copies, .bool y2.2.2.frozen, .bool y2.2.2.stopped, .int .i64 y2.2.2.last, .bool y2.2.2.some_]]⟩, none, none, none, none, some ⟨26, List.map O26 y2.2.2.bank.memories⟩, some ⟨105, List.map R105 y2.2.2.bank.spots⟩] Y<|Tr<|Rm Y<|R1 XU Y<|Za<|K5 0 1 2 3 24 Y<|If h Y (fun h=>?_) fun h=>?_
   ·
    refine K1 3 Y<|Tr<|Rm Y<|Ra Y<|Ra Y<|Za<|?_
    obtain rfl := rt h
    exact Zs<|JI [some 0, some 1, some 2, some 5, some 6] Y (.cons (.tmp Y)<|.cons (.tmp Y) .nil) (.cons Y (ro1 (by exact tZ_102.symm)<|rlc (.own _ Y)<|rlc (.own _ Y)<|rlc (.dat Y)<|rlc (.dat Y)<|rlc (.dat Y)<|rlc (.dat Y)<|rlc (.dat Y) rln)<|.dead<|.dead<|.cons Y (roO Xn)<|.cons Y (roM D105) .nil) Y Y<|Xo<|rlc (.dat Y)<|rlc (.dat Y) rln
   ·
    exact Zm<|⟨_, h, ES [some 0, some 1, some 2, some 5, some 6] (hhp := .cons Y (ro1 (by exact tZ_102.symm)<|rlc (.own _ Y)<|rlc (.own _ Y)<|rlc (.dat Y)<|rlc (.dat Y)<|rlc (.dat Y)<|rlc (.dat Y)<|rlc (.dat Y) rln)<|.dead<|.dead<|.cons Y (roO Xn)<|.cons Y (roM D105) .nil)⟩
  ·
   exact Zm<|⟨_, h, ES [some 0, some 1, some 2, some 3, some 4] (hhp := .cons Y (ro1 (by exact tZ_102.symm)<|rlc (.own _ Y)<|rlc (.own _ Y)<|rlc (.dat Y)<|rlc (.dat Y)<|rlc (.dat Y)<|rlc (.dat Y)<|rlc (.dat Y) rln)<|.dead<|.dead<|.cons Y (roO Xn)<|.cons Y (roM D105) .nil)⟩
 ·
  replace h := elr h
  replace h := t8i h
  refine Tr<|Rm Y<|Rq Y (ZC (ov Y) Y Y)<|Rq Y (Zg (ov Y) Y Y ZdD)<|Rq Y (Zo (ov Y) Y Y Y ZiL Y)<|Rm Y<|bE h fun x h_x h=>Rq Y (XB (ov Y) (ov Y) ZiT Y Y h_x)<|Ra Y<|Za<|Zl<|K5 0 1 2 3 11 Y<|bE h fun x2 h_x2 h=>ZeM (Ent.focusH (r := 3) (j := 2) (e' := 49) (g := O49) (ys := x2.Sectors) Y (ZF h_x2).2 Y ZW)<|bE h fun x3 h_x3 h=>ZeM (Ent.focusH (r := 5) (j := 0) (e' := 5) (g := R5) (ys := x3) Y (ZF h_x3).2 Y DR5)<|Qj (cw := ⟨true, true, [some ⟨102, [[.own 3 memories.length, .own 4 spots.length, .int .i64 copies, .bool frozen, .bool stopped, .int .i64 last, .bool some_]]⟩, none, none, some ⟨26, List.set (List.map O26 memories) k.toNat [.int .i64 x2.Slots, .int .i64 x2.Limit, .own 5 x2.Sectors.length, .osub 3 (List.map R3 x2.Wear), .osub 4 (List.map R4 x2.Bad)]⟩, some ⟨105, List.map R105 spots⟩, some ⟨49, List.set (List.map O49 x2.Sectors) x.sector.toNat [.own 6 x3.length]⟩, some ⟨5, List.map R5 x3⟩], [], [6]⟩) (by kernel_rfl)<|ZP 0 _ Y (by kernel_rfl) Y Y (fun hp'=>Zj<|ov Y)<|Xq 1 _ Y (by kernel_rfl) Y Y Y (EL.ext<|.keep<|.keep<|.keep<|.keep<|.keep<|.keep<|.wr Y Y Y .nil) (fun hp' hx=>ZC (ov Y) (hx.get Y Y) Y)<|Xq 2 _ Y (by kernel_rfl) Y Y Y (EL.ext<|.keep<|.keep<|.keep<|.keep<|.keep<|.keep<|.wr Y Y Y .nil) (fun hp' hx=>Zg (ov Y) (hx.get Y Y) Y Zci)<|Xq 3 _ Y (by kernel_rfl) Y Y Y (EL.ext<|.keep<|.keep<|.keep<|.keep<|.keep<|.keep<|.wr Y Y Y .nil) (fun hp' hx=>Zo (ov Y) (hx.get Y Y) Y Y Zh1 Y)<|ZP 4 _ Y (by kernel_rfl) Y Y (fun hp'=>Zj<|ov Y)<|bE h fun x4 h_x4 h=>Xq 5 _ Y (by kernel_rfl) Y Y Y (EL.ext<|.keep<|.keep<|.keep<|.keep<|.keep<|.keep<|.wr Y Y Y .nil) (fun hp' hx=>ZiJ (ov Y) (ov Y) ZcD (hx.get Y Y) Y h_x4)<|Xq 6 _ Y (by kernel_rfl) Y Y Y (EL.ext<|.keep<|.keep<|.keep<|.keep<|.keep<|.keep<|.wr Y Y Y .nil) (fun hp' hx=>Zhu (ov Y) (hx.get Y Y) Y Zp)<|Xq 7 _ Y (by kernel_rfl) Y Y Y (EL.ext<|.keep<|.keep<|.keep<|.keep<|.keep<|.keep<|.wr Y Y Y .nil) (fun hp' hx=>ZbS (ov Y) (hx.get Y Y) Y (ZF h_x2).2 ZD Y)<|ZP 8 _ Y (by kernel_rfl) Y Y (fun hp'=>Zj<|ov Y)<|Xq 9 _ Y (by kernel_rfl) Y Y Y (EL.ext<|.keep<|.keep<|.keep<|.keep<|.keep<|.keep<|.wr Y Y Y .nil) (fun hp' hx=>ZC (ov Y) (hx.get Y Y)<|List.length_map ..)<|Xq 10 _ Y (by kernel_rfl) Y Y Y (EL.ext<|.keep<|.keep<|.keep<|.keep<|.keep<|.keep<|.wr Y Y Y .nil) (fun hp' hx=>Zcp (ov Y) (hx.get Y Y) Y Zes)<|Xq 11 _ Y (by kernel_rfl) Y Y Y (EL.ext<|.keep<|.keep<|.keep<|.keep<|.keep<|.keep<|.wr Y Y Y .nil) (fun hp' hx=>XQ (ov Y) (hx.get Y Y) Y h_x tS3 Y)<|bE h fun x5 h_x5 h=>Xq 12 _ Y (by kernel_rfl) Y Y Y (EL.ext<|.keep<|.keep<|.keep<|.keep<|.keep<|.keep<|.wr Y Y Y .nil) (fun hp' hx=>ZiJ (ov Y) (ov Y) Zz (hx.get Y Y) Y h_x5)<|Xq 13 _ Y (by kernel_rfl) Y Y Y (EL.ext<|.keep<|.keep<|.keep<|.keep<|.keep<|.keep<|.wr Y Y Y .nil) (fun hp' hx=>ZbS (ov Y) (hx.get Y Y) Y (ZF h_x3).2 Zfl Y)<|ZP 14 _ Y (by kernel_rfl) Y Y (fun hp'=>Zj<|ov Y)<|Xq 15 _ Y (by kernel_rfl) Y Y Y (EL.ext<|.keep<|.keep<|.keep<|.keep<|.keep<|.keep<|.wr Y Y Y .nil) (fun hp' hx=>ZC (ov Y) (hx.get Y Y)<|List.length_map ..)<|Xq 16 _ Y (by kernel_rfl) Y Y Y (EL.ext<|.keep<|.keep<|.keep<|.keep<|.keep<|.keep<|.wr Y Y Y .nil) (fun hp' hx=>Zcp (ov Y) (hx.get Y Y) Y Zfp)<|Xq 17 _ Y (by kernel_rfl) Y Y Y (EL.ext<|.keep<|.keep<|.keep<|.keep<|.keep<|.keep<|.wr Y Y Y .nil) (fun hp' hx=>XQ (ov Y) (hx.get Y Y) Y h_x tS3 Y)<|ZP 18 _ Y (by kernel_rfl) Y Y (fun hp'=>ZkM (ov Y) (ov Y) Y)<|ZP 19 _ Y (by kernel_rfl) Y Y (fun hp'=>Zi2 (ov Y) (ov Y) Y)<|ZP 20 _ Y (by kernel_rfl) Y Y (fun hp'=>Zj<|ov Y)<|ZP 23 _ Y (by kernel_rfl) Y Y (fun hp'=>Zj<|ov Y)<|QA 21 (.sl 5<|List.map R5 ([0] : List Int)) _ Y (by kernel_rfl) Y Y (fun h=>by cases h) (fun _=>by exact EL.ext (.keep <| .keep <| .keep <| .keep <| .keep <| .keep <| .wr rfl rfl rfl <| .nil)) (Z7<|Q0 Qg (.cons (cvs (ov Y)<|Zd Y) Y (.cons (.b Y) .nil) .nil) Y Y)<|bE h fun l h_l h=>QA 22 _ _ Y (by kernel_rfl) Y Y (fun h=>by cases h) (fun _=>by exact EL.ext (.keep <| .keep <| .keep <| .keep <| .keep <| .keep <| .wr rfl rfl rfl <| .nil)) (Z7<|Zjv (f := R5) (ov Y) (QX (ov Y) tZ_5) Qg Y Y (fun x=>(D5 x).2) h_l)<|bE h fun y3 h_y3 h=>QA 24 _ _ Y (by kernel_rfl) Y Y (fun h=>by cases h) (fun _=>by exact EL.ext (.keep <| .keep <| .keep <| .keep <| .keep <| .keep <| .wr rfl rfl ((List.length_map ..).trans (Eq.trans (JE h_y3) (Eq.symm ((List.length_map ..).trans rfl)))) <| .nil)) (Zv [6] (Zdc h_y3) (.cons (ov Y) (.own _ Y)<|.cons (ov Y) (.dat Y)<|.cons (ov Y) (.dat Y)<|.cons (ov Y) (.dat Y) .nil) (.cons Y (roM D5) .nil) Y (.keep Y Y<|.none<|.none<|.keep Y Y<|.keep Y Y<|.keep Y Y<|.lent 0 (.inl Y) Y (roM D5) .nil) Y Y<|Xo<|rld Y)<|D1 25 Zj Y<|Dq 26 Y (Zr (ov Y) Y)<|Dq 27 Y (Zr (ov Y) Y)<|D1 28 Qm Y<|D1 29 Qm Y<|?_
  have h_x6 := Xx (y := y3.2.2) h_x5
  have h_x7 := Xx (y := (api_Memory.mk x2.Slots x2.Limit (x2.Sectors.set x.sector.toNat y3.2.2) x2.Wear x2.Bad)) h_x4
  have h_x8 := Xx (y := (api_Memory.mk x2.Slots x2.Limit (x2.Sectors.set x.sector.toNat y3.2.2) x2.Wear x2.Bad)) h_x4
  refine Zx (by kernel_rfl) (Ent.trans (Ent.absorbH (r := 5) (j := 0) (q := 6) Y (ZF h_x3).2 Y Y ((List.length_map ..).trans<|JE h_y3) Y)<|Ent.trans (Ent.closeH (r := 5) (y := y3.2.2) Y Y)<|Ent.trans (Ent.absorbH (r := 3) (j := 2) (q := 5) Y (ZF h_x2).2 Y Y ((List.length_map ..).trans<|(List.length_set ..).trans Y) Y)<|Ent.closeH (r := 3) (y := (api_Memory.mk x2.Slots x2.Limit (x2.Sectors.set x.sector.toNat y3.2.2) x2.Wear x2.Bad)) Y Y)<|K3 3 11 12 Y<|QF [some ⟨102, [[.own 3 memories.length, .own 4 spots.length, .int .i64 copies, .bool frozen, .bool stopped, .int .i64 last, .bool some_]]⟩, none, none, some ⟨26, List.map O26 (memories.set k.toNat (api_Memory.mk x2.Slots x2.Limit (x2.Sectors.set x.sector.toNat y3.2.2) x2.Wear x2.Bad))⟩, some ⟨105, List.map R105 spots⟩, none, none] Y<|Tr<|Rm Y<|Rq Y (ZC (ov Y) Y<|List.length_map ..)<|Rq Y (Zcp (ov Y) Y Y Zfp)<|Rq Y (XQ (ov Y) Y Y h_x tS3 Y)<|R2 ZY Y<|Rq Y (ZC (ov Y) Y<|List.length_map ..)<|Rq Y (Zcp (ov Y) Y Y Zfp)<|Rx Y (JY (u' := (ring_spot.mk x.sector (i64 (x.slot + 1)))) (ov Y) (ov Y) (Zf tS3) Y Y h_x Y (Zb Y) Y)<|Za<|K2 3 12 Y<|QF [some ⟨102, [[.own 3 memories.length, .own 4 spots.length, .int .i64 copies, .bool frozen, .bool stopped, .int .i64 last, .bool some_]]⟩, none, none, some ⟨26, List.map O26 (memories.set k.toNat (api_Memory.mk x2.Slots x2.Limit (x2.Sectors.set x.sector.toNat y3.2.2) x2.Wear x2.Bad))⟩, some ⟨105, List.map R105 (spots.set k.toNat (ring_spot.mk x.sector (i64 (x.slot + 1))))⟩, none, none] Y<|Tr<|Rm Y<|Rm Y<|Ra Y<|Ra Y<|Za<|?_
  obtain rfl := rt h
  exact Zs<|JI [some 0, some 1, some 2, some 3, some 4] Y (.cons (.tmp Y)<|.cons (.tmp Y) .nil) (.cons Y (ro1 (by exact tZ_102.symm)<|rlc (Zfd (Eq.symm<|(List.length_set ..).trans Y) Y)<|rlc (Zfd (Eq.symm<|(List.length_set ..).trans Y) Y)<|rlc (.dat Y)<|rlc (.dat Y)<|rlc (.dat Y)<|rlc (.dat Y)<|rlc (.dat Y) rln)<|.dead<|.dead<|.cons Y (roO Xn)<|.cons Y (roM D105) .nil) Y Y<|Xo<|rlc (.dat Y)<|rlc (.dat Y) rln
end Go.Proofs.YtnlmjeleocelgaaGreatDoor
