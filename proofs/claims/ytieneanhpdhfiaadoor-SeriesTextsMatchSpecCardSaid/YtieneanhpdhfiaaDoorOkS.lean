/- A text of the proof: a verified executor of the program form, or the contracts of the functions that the law reaches. -/
import Derived.Test.YtieneanhpdhfiaaDoorOkSa
set_option linter.all false
namespace Go.Proofs.YtieneanhpdhfiaaDoor
open Go Go.Vx
set_option maxRecDepth 10000
set_option maxHeartbeats 1000000
set_option linter.unusedVariables false
variable {Gx : GX}
theorem XR {s : Str} {most : Int} {r : Int × Bool} (h : ZY s most = some r) :
 CSpec Tryd.prog (gl0 Gx) 23 [.str s, .int .i64 most] (.tuple [.int .i64 r.1, .bool r.2]) := by
 unfold ZY at h
 replace h := Qa h
 refine So Tryd.func23 Y fun w0 A=>Tr<|Ra Y<|Ra Y<|Za<|K2 0 1 Y<|Tr<|Rm Y<|R2 Jb Y<|Rm Y<|Rq Y (.guarded ((!decide (s = [])) == true) Y Y Y Y fun h => Zk<|ov Y)<|bE h fun b h_b h=>Rq Y (.guarded ((!decide (s = [])) == true) Y Y Y Y fun h => XF (ow Y h) (ov Y) Zw<|gdT h_b h)<|Rq Y (.guarded ((!decide (s = [])) == true) Y Y Y Y fun h => Xw (ow Y h)<|ov Y)<|Rq Y (Xa (ov Y) fun hp=>ow Y<|gT hp)<|Ra Y<|Za<|I1 (fun s2=>⟨[(0, .str s2), (1, .int .i64 most), (6, .bool ((!decide (s = [])) && (decide (b = 45))))], []⟩) h (fun h=>?_) fun s2 h=>?_
 ·
  refine K3 0 1 6 Y<|Tr<|Rm Y<|Za<|If h Y (fun h=>?_) fun h=>?_
  ·
   exact K3 0 1 6 Y<|Zx<|Rm Y<|bE h fun s3 h_s3 h=>Rq Y (Qf (ov Y) Zw (oi<|ov Y) on h_s3)<|Ra Y<|Za<|⟨_, h, ES []⟩
  ·
   exact Zi<|⟨_, h, ES []⟩
 ·
  refine Zq<|Tr<|Rm Y<|R2 Jw Y<|Rm Y<|Rq Y (.guarded ((decide (s2 = [])) == false) Y Y Y Y fun h => Zk<|ov Y)<|Rq Y (.guarded ((decide (s2 = [])) == false) Y Y Y Y fun h => Z4 (ow Y h) Zw Y)<|Rq Y (.guarded ((decide (s2 = [])) == false) Y Y Y Y fun h => Zk<|ov Y)<|Rq Y (.guarded ((decide (s2 = [])) == false) Y Y Y Y fun h => Jx (ow Y h)<|ow Y h)<|Rq Y (X3 (ov Y) fun hp=>ow Y<|gF hp)<|Rm Y<|Rq Y (.guarded (((decide (s2 = [])) || (decide (most < (s2.length : Int)))) == false) Y Y Y Y fun h => Zk<|ov Y)<|bE h fun b2 h_b2 h=>Rq Y (.guarded (((decide (s2 = [])) || (decide (most < (s2.length : Int)))) == false) Y Y Y Y fun h => XF (ow Y h) (ov Y) Zw<|gdT h_b2 h)<|Rq Y (.guarded (((decide (s2 = [])) || (decide (most < (s2.length : Int)))) == false) Y Y Y Y fun h => Xw (ow Y h)<|ov Y)<|Rq Y (.guarded (((decide (s2 = [])) || (decide (most < (s2.length : Int)))) == false) Y Y Y Y fun h => Zk<|ow Y h)<|Rq Y (.guarded2 ((((decide (s2 = [])) || (decide (most < (s2.length : Int)))) == false) && ((decide (b2 = 48)) == true)) Y Y Y Y fun h => Zk<|ov Y)<|Rq Y (.guarded2 ((((decide (s2 = [])) || (decide (most < (s2.length : Int)))) == false) && ((decide (b2 = 48)) == true)) Y Y Y Y fun h => Z4 (ow Y h) Zw Y)<|Rq Y (.guarded2 ((((decide (s2 = [])) || (decide (most < (s2.length : Int)))) == false) && ((decide (b2 = 48)) == true)) Y Y Y Y fun h => Jx (ow Y h)<|ov Y)<|Rq Y (.guarded2 ((((decide (s2 = [])) || (decide (most < (s2.length : Int)))) == false) && ((decide (b2 = 48)) == true)) Y Y Y Y fun h => Zk<|ow Y h)<|Rq Y (.guarded2 (((((decide (s2 = [])) || (decide (most < (s2.length : Int)))) == false) && ((decide (b2 = 48)) == true)) && ((decide (1 < (s2.length : Int))) == false)) Y Y Y Y fun h => Zk<|ov Y)<|Rq Y (.guarded2 ((((decide (s2 = [])) || (decide (most < (s2.length : Int)))) == false) && ((decide (b2 = 48)) == true)) Y Y Y Y fun h => X3 (ow Y h) fun hp=>ow Y<|gA h<|gF hp)<|Rq Y (.guarded (((decide (s2 = [])) || (decide (most < (s2.length : Int)))) == false) Y Y Y Y fun h => Xa (ow Y h) fun hp=>ow Y<|gA h<|gT hp)<|Rq Y (X3 (ov Y) fun hp=>ow Y<|gF hp)<|Za<|K3 0 6 39 Y<|If h Y (fun h=>?_) fun h=>?_
  ·
   refine K0<|Tr<|Ra Y<|Ra Y<|Za<|?_
   obtain rfl := rt h
   exact Zl (Zt Y (.two (rb Y)<|rb Y))
  ·
   refine Zi<|K2 0 6 Y<|Tr<|Ra Y<|Za<|J1 (fun j => (.inr j)) (fun n=>⟨[(6, .bool ((!decide (s = [])) && (decide (b = 45)))), (7, .int .i64 n)], []⟩) h (fun h=>?_) fun n h=>?_
   ·
    refine Tr<|Ra Y<|Za<|Zv<|?_
    obtain ⟨r1, hl1, ho1⟩ := Zai h
    refine L2 (fun n2 i=>⟨[(0, .str s2), (6, .bool ((!decide (s = [])) && (decide (b = 45)))), (7, .int .i64 n2), (8, .int .i64 i)], []⟩) hl1 (ES []) fun n1 n2 i h=>?_
    unfold Z2 at h
    refine Zq<|Tr<|Rm Y<|Rm Y<|Rq Y (Z4 (ov Y) Zw Y)<|R2 Qn Y<|Za<|K5 0 6 7 8 43 Y<|If h Y (fun h=>?_) fun h=>?_
    ·
     refine Zi<|Zq<|Zv<|Zq<|K4 0 6 7 8 Y<|Tr<|Rm Y<|Rm Y<|bE h fun b3 h_b3 h=>Rq Y (XF (ov Y) (ov Y) Zw h_b3)<|R2 Qn Y<|Rm Y<|Rq Y (.guarded ((decide (b3 < 48)) == false) Y Y Y Y fun h => Zk<|ov Y)<|Rq Y (.guarded ((decide (b3 < 48)) == false) Y Y Y Y fun h => Zk<|ov Y)<|bE h fun b4 h_b4 h=>Rq Y (.guarded ((decide (b3 < 48)) == false) Y Y Y Y fun h => XF (ow Y h) (ow Y h) Zw<|gdT h_b4 h)<|Rq Y (.guarded ((decide (b3 < 48)) == false) Y Y Y Y fun h => Jx (ow Y h)<|ov Y)<|Rq Y (X3 (ov Y) fun hp=>ow Y<|gF hp)<|Za<|K5 0 6 7 8 55 Y<|If h Y (fun h=>?_) fun h=>?_
     ·
      refine K0<|Tr<|Ra Y<|Ra Y<|Za<|?_
      replace h := lx h ▸ ho1
      obtain rfl := rt h
      exact Zl (Zt Y (.two (rb Y)<|rb Y))
     ·
      exact Zi<|K4 0 6 7 8 Y<|Zx<|Rm Y<|R2 Zf3 Y<|Rm Y<|Rm Y<|bE h fun b5 h_b5 h=>Rq Y (XF (ov Y) (ov Y) Zw h_b5)<|R2 Zf1 Y<|Rq Y (Zbg (ov Y) tI5 tI3 Y)<|R2 Xv Y<|Ra Y<|Za<|K4 0 6 7 8 Y<|Zx<|Rm Y<|R2 Xv Y<|Ra Y<|Za<|⟨_, h, ES []⟩
    ·
     refine QV<|?_
     replace h := lx h ▸ ho1
     exact ⟨_, h, ES []⟩
   ·
    replace h := elr h
    replace h := t1i h
    refine Zq<|Tr<|Rm Y<|Za<|K2 7 64 Y<|If h Y (fun h=>?_) fun h=>?_
    ·
     refine K1 7 Y<|Zx<|Rm Y<|Rq Y (ZfD (ov Y) Y)<|Ra Y<|Za<|K1 7 Y<|Tr<|Rm Y<|Ra Y<|Ra Y<|Za<|?_
     obtain rfl := rt h
     exact Zl (Zt Y (.two (rb Y)<|rb Y))
    ·
     refine Zi<|K1 7 Y<|Tr<|Rm Y<|Ra Y<|Ra Y<|Za<|?_
     obtain rfl := rt h
     exact Zl (Zt Y (.two (rb Y)<|rb Y))
theorem ZaF {s : Str} {r : api_Sample × Bool} (h : QQ s = some r) :
 CSpec Tryd.prog (gl0 Gx) 24 [.str s] (.tuple [.agg [.int .i64 r.1.At, .int .i64 r.1.N, .int .i64 r.1.Mark], .bool r.2]) := by
 unfold QQ at h
 replace h := Qa h
 refine So Tryd.func24 Y fun w0 A=>Tr<|Rx Y (ZN (row := [_, _, _]) 0 Y XD Y tZ_44)<|Ra Y<|Za<|K2 0 2 Y<|Tr<|Rm Y<|bE h fun y h_y h=>Rq Y (Zg (JU h_y)<|.cons (ov Y) (.b Y) .nil)<|Ra Y<|Za<|Zq<|K2 2 4 Y<|Tr<|Rm Y<|Rl tZ_9 Xt Y<|R2 Qn Y<|Za<|K3 2 4 15 Y<|If h Y (fun h=>?_) fun h=>?_
 ·
  refine K1 2 Y<|Tr<|Rq Y (ZK (ys := [_, _, _]) Jl Jq XD .nil Y)<|Rx Y (Zo (ov Y) (ov Y) (Zj ZL Y) Y Y Y (Nat.le_of_ble_eq_true Y) (Zd Y) Y)<|Ra Y<|Za<|?_
  obtain rfl := rt h
  exact Zl (Zt Y (.two (.agg Y Y Y Y ZL Y Y<|pwB Y)<|rb Y))
 ·
  refine Zi<|K2 2 4 Y<|Tr<|Rm Y<|bE h fun x h_x h=>Rq Y (ZV (ov Y) (ov Y) Xt h_x)<|Rq Y (Zb (ov Y) tS9 Y)<|bE h fun y2 h_y2 h=>Rq Y (Zg (XR h_y2)<|.cons (ov Y) (.b Y)<|.cons (ov Y) (.b Y) .nil)<|Rm Y<|Rq Y (Zc (ov Y) Y)<|Rq Y (Zc (ov Y) Y)<|Ra Y<|Ra Y<|Za<|K4 2 4 5 6 Y<|Tr<|Ra Y<|Za<|I1 (fun mark=>⟨[(2, .ptr 0 1 0 0), (4, .sl 9 (List.map R9 y)), (5, .int .i64 y2.1), (6, .bool y2.2), (7, .int .i64 mark)], [some ⟨44, [[.int .i64 0, .int .i64 0, .int .i64 0]]⟩]⟩) h (fun h=>?_) fun mark h=>?_
  ·
   refine Tr<|Ra Y<|Za<|Zv<|?_
   obtain ⟨r1, hl1, ho1⟩ := Zai h
   refine L2 (fun mark2 i=>⟨[(2, .ptr 0 1 0 0), (4, .sl 9 (List.map R9 y)), (5, .int .i64 y2.1), (6, .bool y2.2), (7, .int .i64 mark2), (8, .int .i64 i)], [some ⟨44, [[.int .i64 0, .int .i64 0, .int .i64 0]]⟩]⟩) hl1 (ES [some 0]) fun n1 mark2 i h=>?_
   unfold Zz at h
   refine Zq<|Tr<|Rm Y<|R2 Qn Y<|Za<|K7 2 4 5 6 7 8 25 Y<|If h Y (fun h=>?_) fun h=>?_
   ·
    refine Zi<|Zq<|Zv<|K6 2 4 5 6 7 8 Y<|Td md0<|bE h fun y3 h_y3 h=>Dq 0 Y (Zg (JS h_y3) .nil)<|D1 1 Zk Y<|bE h fun x2 h_x2 h=>Dq 2 Y (ZaA (ov Y) (ov Y) Zdl tS9 h_x2)<|D1 3 Zk Y<|bE h fun x3 h_x3 h=>Dq 4 Y (ZV (ov Y) (ov Y) Xt h_x3)<|Dq 5 Y (Zb (ov Y) tS9 Y)<|D2 6 Jw Y<|Dd<|K7 2 4 5 6 7 8 34 Y<|If h Y (fun h=>?_) fun h=>?_
    ·
     exact K6 2 4 5 6 7 8 Y<|Zx<|Rm Y<|Ra Y<|Za<|K6 2 4 5 6 7 8 Y<|Zx<|Rm Y<|R2 Xv Y<|Ra Y<|Za<|⟨_, h, ES [some 0]⟩
    ·
     exact Zi<|K6 2 4 5 6 7 8 Y<|Zx<|Rm Y<|R2 Xv Y<|Ra Y<|Za<|⟨_, h, ES [some 0]⟩
   ·
    refine QV<|?_
    replace h := lx h ▸ ho1
    exact ⟨_, h, ES [some 0]⟩
  ·
   refine Zq<|Tr<|Rm Y<|R1 XW Y<|Rm Y<|Rq Y (.guarded ((!y2.2) == false) Y Y Y Y fun h => Zk<|ov Y)<|Rq Y (.guarded ((!y2.2) == false) Y Y Y Y fun h => Qn (ow Y h)<|ov Y)<|Rq Y (X3 (ov Y) fun hp=>ow Y<|gF hp)<|Za<|K5 2 4 5 7 41 Y<|If h Y (fun h=>?_) fun h=>?_
   ·
    refine K1 2 Y<|Tr<|Rq Y (ZK (ys := [_, _, _]) Jl Jq XD .nil Y)<|Rx Y (Zo (ov Y) (ov Y) (Zj ZL Y) Y Y Y (Nat.le_of_ble_eq_true Y) (Zd Y) Y)<|Ra Y<|Za<|?_
    obtain rfl := rt h
    exact Zl (Zt Y (.two (.agg Y Y Y Y ZL Y Y<|pwB Y)<|rb Y))
   ·
    refine Zi<|K4 2 4 5 7 Y<|Tr<|Rm Y<|Rm Y<|Rq Y (ZK (ys := [_, _, _]) Jl Jq XD (.cons (cvs (ov Y)<|ZE Y)<|.cons (cvs (ov Y)<|ZE Y) .nil) Y)<|Rx Y (ZN (row := [_, _, _]) 1 Y XD Y tZ_44)<|Rx Y (Zo (ov Y) (ov Y) (Zj ZL Y) Y Y Y (Nat.le_of_ble_eq_true Y) (Zd Y) Y)<|Za<|Zq<|K4 2 4 7 9 Y<|Tr<|Rm Y<|bE h fun y4 h_y4 h=>Rq Y (Zg (Xf h_y4)<|.cons (ov Y) (.b Y) .nil)<|R1 XW Y<|Za<|K4 2 4 9 48 Y<|If h Y (fun h=>?_) fun h=>?_
    ·
     refine K3 2 4 9 Y<|Tr<|Rq Y (Qe (ov Y) Y Y Y ZL Y Y)<|Rm Y<|Rl tZ_9 Xt Y<|R2 Xw Y<|Rx Y (Zo (ov Y) (ov Y) (Zj ZL Y) Y Y Y (Nat.le_of_ble_eq_true Y) (Zd Y) Y)<|Ra Y<|Za<|?_
     obtain rfl := rt h
     exact Zl (Zt Y (.two (.agg Y Y Y Y ZL Y Y<|pwB Y)<|rb Y))
    ·
     refine Zi<|Zq<|K3 2 4 9 Y<|Tr<|Rm Y<|Rl tZ_9 Xt Y<|R2 X6 Y<|Za<|K4 2 4 9 55 Y<|If h Y (fun h=>?_) fun h=>?_
     ·
      refine K1 2 Y<|Tr<|Rq Y (ZK (ys := [_, _, _]) Jl Jq XD .nil Y)<|Rx Y (Zo (ov Y) (ov Y) (Zj ZL Y) Y Y Y (Nat.le_of_ble_eq_true Y) (Zd Y) Y)<|Ra Y<|Za<|?_
      obtain rfl := rt h
      exact Zl (Zt Y (.two (.agg Y Y Y Y ZL Y Y<|pwB Y)<|rb Y))
     ·
      refine Zi<|K3 2 4 9 Y<|Tr<|Rm Y<|bE h fun x4 h_x4 h=>Rq Y (ZV (ov Y) (ov Y) Xt h_x4)<|Rq Y (Zb (ov Y) tS9 Y)<|bE h fun y5 h_y5 h=>Rq Y (Zg (XR h_y5)<|.cons (ov Y) (.b Y)<|.cons (ov Y) (.b Y) .nil)<|Rm Y<|Rq Y (Zc (ov Y) Y)<|Rq Y (Zc (ov Y) Y)<|Ra Y<|Ra Y<|Za<|K4 2 6 9 10 Y<|Tr<|Rm Y<|Rq Y (Zs (ov Y) Y Y XM)<|Rx Y (Zo (ov Y) (ov Y) (QC tS3) Y Y Y (Nat.le_of_ble_eq_true Y) (Zd Y) Y)<|Za<|K3 2 6 9 Y<|Tr<|Rq Y (Qe (ov Y) Y Y Y ZL Y Y)<|Rm Y<|Rx Y (Zo (ov Y) (ov Y) (Zj ZL Y) Y Y Y (Nat.le_of_ble_eq_true Y) (Zd Y) Y)<|Ra Y<|Za<|?_
      obtain rfl := rt h
      exact Zl (Zt Y (.two (.agg Y Y Y Y ZL Y Y<|pwB Y)<|rb Y))
theorem ZbH {text : Str} {r : api_Series × Int × Int} (h : XK text = some r) :
 CSpec Tryd.prog (gl0 Gx) 7 [.str text] (.tuple [.agg [.int .i64 r.1.Den, .sl 44 (List.map R44 r.1.Samples)], .int .i64 r.2.1, .int .i64 r.2.2]) := by
 unfold XK at h
 replace h := Qa h
 refine So Tryd.func7 Y fun w0 A=>Tr<|Rx Y (ZN (row := [_, _]) 0 Y JN Y tZ_24)<|Ra Y<|Ra Y<|Za<|Zq<|K2 0 2 Y<|Tr<|Rm Y<|Rq Y (Z4 (ov Y) Zw Y)<|R2 Jx Y<|Za<|K3 0 2 18 Y<|If h Y (fun h=>?_) fun h=>?_
 ·
  refine K1 2 Y<|Tr<|Rq Y (ZK (ys := [_, _]) Zae Zax JN .nil Y)<|Rx Y (Zo (ov Y) (ov Y) (Zj Qm Y) Y Y Y (Nat.le_of_ble_eq_true Y) (Zd Y) Y)<|Ra Y<|Ra Y<|Za<|?_
  obtain rfl := rt h
  exact Zl (Zt Y (.three (.agg Y Y Y Y Qm Y Y<|.cons (Dat.view<|.b Y)<|.cons (View.nils 44) .nil) (rb Y)<|rb Y))
 ·
  refine Zi<|K2 0 2 Y<|Tr<|Rm Y<|bE h fun y h_y h=>Rq Y (Zg (ZbN h_y)<|.cons (ov Y) (.b Y) .nil)<|Rm Y<|Rq Y (Zc (ov Y) Y)<|Rq Y (Zc (ov Y) Y)<|Ra Y<|Ra Y<|Za<|Zq<|K3 2 5 6 Y<|Tr<|Rm Y<|Rl tZ_9 Xt Y<|R2 Xw Y<|Za<|K4 2 5 6 27 Y<|If h Y (fun h=>?_) fun h=>?_
  ·
   refine K1 2 Y<|Tr<|Rq Y (ZK (ys := [_, _]) Zae Zax JN .nil Y)<|Rx Y (Zo (ov Y) (ov Y) (Zj Qm Y) Y Y Y (Nat.le_of_ble_eq_true Y) (Zd Y) Y)<|Ra Y<|Ra Y<|Za<|?_
   obtain rfl := rt h
   exact Zl (Zt Y (.three (.agg Y Y Y Y Qm Y Y<|.cons (Dat.view<|.b Y)<|.cons (View.nils 44) .nil) (rb Y)<|rb Y))
  ·
   refine Zi<|K3 2 5 6 Y<|Tr<|Rq Y (ZK (ys := [_, _]) Zae Zax JN .nil Y)<|Rx Y (ZN (row := [_, _]) 1 Y JN Y tZ_24)<|Rx Y (Zo (ov Y) (ov Y) (Zj Qm Y) Y Y Y (Nat.le_of_ble_eq_true Y) (Zd Y) Y)<|Za<|J2 (fun j => (.inr j)) (fun Den Samples=>⟨[(2, .ptr 0 1 0 0), (7, .ptr 1 1 0 0)], [some ⟨24, [[.int .i64 0, .nils]]⟩, some ⟨24, [[.int .i64 Den, .own 2 Samples.length]]⟩, some ⟨44, List.map R44 Samples⟩]⟩) h (fun h=>?_) fun Den Samples h=>?_
   ·
    refine K4 2 5 6 7 Y<|Tr<|Ra Y<|Za<|Zv<|?_
    obtain ⟨r1, hl1, ho1⟩ := Zai h
    refine L3 (fun Den2 Samples2 i=>⟨[(2, .ptr 0 1 0 0), (5, .sl 9 (List.map R9 y.1)), (6, .bool y.2), (7, .ptr 1 1 0 0), (8, .int .i64 i)], [some ⟨24, [[.int .i64 0, .nils]]⟩, some ⟨24, [[.int .i64 Den2, .own 2 Samples2.length]]⟩, some ⟨44, List.map R44 Samples2⟩]⟩) hl1 (ES [some 0, some 1, none]) fun n1 Den2 Samples2 i h=>?_
    unfold Qw at h
    refine Zq<|Tr<|Rm Y<|Rm Y<|Rl tZ_9 Xt Y<|R2 Qn Y<|Za<|K6 2 5 6 7 8 33 Y<|If h Y (fun h=>?_) fun h=>?_
    ·
     refine Zi<|Zq<|Zv<|K5 2 5 6 7 8 Y<|Tr<|Rm Y<|Rm Y<|Rq Y (.guarded (y.2 == false) Y Y Y Y fun h => Zk<|ov Y)<|Rq Y (.guarded (y.2 == false) Y Y Y Y fun h => ZfI (ow Y h) (ov Y) Y)<|Rq Y (.guarded (y.2 == false) Y Y Y Y fun h => Zk<|ov Y)<|Rq Y (.guarded (y.2 == false) Y Y Y Y fun h => Zeb (XZ (ow Y h) tZ_9) Xt<|Zcr _ _)<|Rq Y (.guarded (y.2 == false) Y Y Y Y fun h => Qn (ow Y h)<|ow Y h)<|Rq Y (X3 (ov Y) fun hp=>ow Y<|gF hp)<|Ra Y<|Za<|I3 (fun Den3 Samples3 fine=>⟨[(2, .ptr 0 1 0 0), (5, .sl 9 (List.map R9 y.1)), (6, .bool y.2), (7, .ptr 1 1 0 0), (8, .int .i64 i), (9, .bool fine)], [some ⟨24, [[.int .i64 0, .nils]]⟩, some ⟨24, [[.int .i64 Den3, .own 2 Samples3.length]]⟩, some ⟨44, List.map R44 Samples3⟩]⟩) h (fun h=>?_) fun Den3 Samples3 fine h=>?_
     ·
      refine K6 2 5 6 7 8 9 Y<|Tr<|Rm Y<|R2 Xw Y<|Za<|K7 2 5 6 7 8 9 45 Y<|If h Y (fun h=>?_) fun h=>?_
      ·
       refine K6 2 5 6 7 8 9 Y<|Tr<|Rm Y<|bE h fun x h_x h=>Rq Y (ZV (ov Y) (ov Y) Xt h_x)<|Rq Y (Zb (ov Y) tS9 Y)<|bE h fun y2 h_y2 h=>Rq Y (Zg (JU h_y2)<|.cons (ov Y) (.b Y) .nil)<|Ra Y<|Za<|K7 2 5 6 7 8 9 10 Y<|Tr<|Rm Y<|Rl tZ_9 Xt Y<|R2 Xw Y<|Rm Y<|Rq Y (.guarded ((decide ((y2.length : Int) = 2)) == true) Y Y Y Y fun h => Zk<|ov Y)<|bE h fun x2 h_x2 h=>Rq Y (.guarded ((decide ((y2.length : Int) = 2)) == true) Y Y Y Y fun h => ZV (ow Y h) (ov Y) Xt<|gdT h_x2 h)<|Rq Y (.guarded ((decide ((y2.length : Int) = 2)) == true) Y Y Y Y fun h => Zb (ow Y h) tS9 Y)<|Rq Y (.guarded ((decide ((y2.length : Int) = 2)) == true) Y Y Y Y fun h => Jw (ow Y h)<|ov Y)<|Rq Y (Xa (ov Y) fun hp=>ow Y<|gT hp)<|Ra Y<|Za<|I2 (fun Den4 is=>⟨[(2, .ptr 0 1 0 0), (5, .sl 9 (List.map R9 y.1)), (6, .bool y.2), (7, .ptr 1 1 0 0), (8, .int .i64 i), (9, .bool (y.2 || (decide ((i64 (i + 1)) < (y.1.length : Int))))), (11, .bool is)], [some ⟨24, [[.int .i64 0, .nils]]⟩, some ⟨24, [[.int .i64 Den4, .own 2 Samples2.length]]⟩, some ⟨44, List.map R44 Samples2⟩]⟩) h (fun h=>?_) fun Den4 is h=>?_
       ·
        refine K8 2 5 6 7 8 9 10 11 Y<|Tr<|Rm Y<|Za<|If h Y (fun h=>?_) fun h=>?_
        ·
         exact K8 2 5 6 7 8 9 10 11 Y<|Zx<|Rm Y<|bE h fun x3 h_x3 h=>Rq Y (ZV (ov Y) (ov Y) Xt h_x3)<|Rq Y (Zb (ov Y) tS9 Y)<|bE h fun y3 h_y3 h=>Rq Y (Zg (XR h_y3)<|.cons (ov Y) (.b Y)<|.cons (ov Y) (.b Y) .nil)<|Rm Y<|Rq Y (Zc (ov Y) Y)<|Rq Y (Zc (ov Y) Y)<|Rq Y (Zs (ov Y) Y Y JZ)<|Rx Y (Zo (ov Y) (ov Y) (QC tS3) Y Y Y (Nat.le_of_ble_eq_true Y) (Zd Y) Y)<|Ra Y<|Za<|⟨_, h, ES [some 0, some 1, some 2]⟩
        ·
         exact Zi<|⟨_, h, ES [some 0, some 1, some 2]⟩
       ·
        exact Zx<|Rm Y<|Rm Y<|Rq Y (.guarded ((y.2 || (decide ((i64 (i + 1)) < (y.1.length : Int)))) == true) Y Y Y Y fun h => Zk<|ov Y)<|Rq Y (Xa (ov Y) fun hp=>ow Y<|gT hp)<|Ra Y<|Za<|⟨_, h, ES [some 0, some 1, some 2]⟩
      ·
       exact K6 2 5 6 7 8 9 Y<|Tr<|Rm Y<|Rm Y<|bE h fun x4 h_x4 h=>Rq Y (ZV (ov Y) (ov Y) Xt h_x4)<|Rq Y (Zb (ov Y) tS9 Y)<|bE h fun y4 h_y4 h=>Rq Y (Zg (ZaF h_y4)<|.cons (ov Y) (.b Y) .nil)<|Rm Y<|Rq Y (Zc (ov Y) Y)<|Rq Y (Zc (ov Y) Y)<|Rx Y (ZN (row := [_, _, _]) 3 Y XD Y tZ_44)<|Rx Y (Zo (ov Y) (ov Y) (Zj ZL Y) Y Y Y (Nat.le_of_ble_eq_true Y) (Zd Y) Y)<|Ra Y<|Za<|K8 2 5 6 7 8 9 12 13 Y<|Tr<|Rq Y (Zs (ov Y) Y Y Z6)<|Rq Y (ZM (ov Y) Y Y Y XU Y)<|Rq Y (Qe (ov Y) Y Y Y ZL Y Y)<|R_q (.sl 44<|List.map R44 ([y4.1] : List api_Sample)) Y (Zap Xh (.cons (cva<|ov Y) Y (pwD Y) .nil) Y Y)<|bE h fun l h_l h=>Rx Y (Q1 (ov Y) (XZ (ov Y) tZ_44) Xh Y Y Y (fun _=>Zd Y) Y h_l)<|Rq Y (Zs (ov Y) Y Y Z6)<|Rx Y (Zo (ov Y) (ov Y) (QC XU) Y Y Y (Nat.le_of_ble_eq_true Y) (Zd Y) Y)<|Za<|K7 2 5 6 7 8 9 13 Y<|Zx<|Rm Y<|Rm Y<|Rq Y (.guarded ((y.2 || (decide ((i64 (i + 1)) < (y.1.length : Int)))) == true) Y Y Y Y fun h => Zk<|ov Y)<|Rq Y (Xa (ov Y) fun hp=>ow Y<|gT hp)<|Ra Y<|Za<|⟨_, h, ES [some 0, some 1, some 2]⟩
     ·
      refine Tr<|Rm Y<|R1 XW Y<|Za<|K6 2 5 6 7 8 91 Y<|If h Y (fun h=>?_) fun h=>?_
      ·
       refine K2 2 8 Y<|Tr<|Rq Y (ZK (ys := [_, _]) Zae Zax JN .nil Y)<|Rm Y<|Rx Y (Zo (ov Y) (ov Y) (Zj Qm Y) Y Y Y (Nat.le_of_ble_eq_true Y) (Zd Y) Y)<|Ra Y<|Ra Y<|Za<|?_
       replace h := lx h ▸ ho1
       obtain rfl := rt h
       exact Zl (Zt Y (.three (.agg Y Y Y Y Qm Y Y<|.cons (Dat.view<|.b Y)<|.cons (View.nils 44) .nil) (rb Y)<|rb Y))
      ·
       exact Zi<|K5 2 5 6 7 8 Y<|Zx<|Rm Y<|R2 Xv Y<|Ra Y<|Za<|⟨_, h, ES [some 0, some 1, some 2]⟩
    ·
     refine QV<|?_
     replace h := lx h ▸ ho1
     exact ⟨_, h, ES [some 0, some 1, some 2]⟩
   ·
    replace h := elr h
    replace h := t2i h
    refine Zq<|Tr<|Rq Y (Qe (ov Y) Y Y Y Qm Y Y)<|bE h fun y5 h_y5 h=>Rq Y (Zdw (JX h_y5) (.tuple<|by simp only [List.mem_cons, List.not_mem_nil, or_false, forall_eq_or_imp, forall_eq]; exact ⟨.int, .int⟩)<|.cons (ov Y) (View.aggL<|.cons (Dat.view<|.b Y)<|.cons (View.ownM Y Y D44) .nil) .nil)<|Rm Y<|Rq Y (Zc (ov Y) Y)<|Rq Y (Zc (ov Y) Y)<|Ra Y<|Ra Y<|Za<|K4 2 7 14 15 Y<|Tr<|Rm Y<|R2 X6 Y<|Za<|K5 2 7 14 15 100 Y<|If h Y (fun h=>?_) fun h=>?_
    ·
     refine K3 2 14 15 Y<|Tr<|Rq Y (ZK (ys := [_, _]) Zae Zax JN .nil Y)<|Rm Y<|R2 Xv Y<|Rm Y<|Rx Y (Zo (ov Y) (ov Y) (Zj Qm Y) Y Y Y (Nat.le_of_ble_eq_true Y) (Zd Y) Y)<|Ra Y<|Ra Y<|Za<|?_
     obtain rfl := rt h
     exact Zl (Zt Y (.three (.agg Y Y Y Y Qm Y Y<|.cons (Dat.view<|.b Y)<|.cons (View.nils 44) .nil) (rb Y)<|rb Y))
    ·
     refine Zi<|K2 2 7 Y<|Tr<|Rq Y (Qe (ov Y) Y Y Y Qm Y Y)<|Rx Y (Zo (ov Y) (ov Y) (Zj Qm Y) Y Y Y (Nat.le_of_ble_eq_true Y) (Zd Y) Y)<|Ra Y<|Ra Y<|Za<|?_
     obtain rfl := rt h
     exact Zl (Zt Y (.three (.agg Y Y Y Y Qm Y Y<|.cons (Dat.view<|.b Y)<|.cons (View.ownM Y Y D44) .nil) (rb Y)<|rb Y))
theorem Zac {i : Int} {r : Str} (h : QG i = some r) :
 CSpec Tryd.prog (gl0 Gx) 57 [.int .i64 i] (.str r) := by
 unfold QG at h
 replace h := Qa h
 refine So Tryd.func57 Y fun w0 A=>Tr<|Ra Y<|Za<|Zq<|K1 0 Y<|Tr<|Rm Y<|R2 Qn Y<|Za<|K2 0 4 Y<|If h Y (fun h=>?_) fun h=>?_
 ·
  refine K1 0 Y<|Tr<|Rm Y<|Rm Y<|R2 Xv Y<|bE h fun s h_s h=>Rq Y (Qf (ov Y) Zw (oi<|ov Y) (oi<|ov Y) h_s)<|Ra Y<|Za<|?_
  obtain rfl := rt h
  exact Zl (Zt Y (.one<|rb Y))
 ·
  refine Zi<|K1 0 Y<|Tr<|Rm Y<|R2 Zf3 Y<|Rm Y<|R2 Zf3 Y<|R2 Xv Y<|bE h fun s2 h_s2 h=>Rq Y (Qf (ov Y) Zw (oi<|ov Y) (oi<|ov Y) h_s2)<|Ra Y<|Za<|?_
  obtain rfl := rt h
  exact Zl (Zt Y (.one<|rb Y))
theorem Zce {u r : Int} (h : Jc u = some r) : CSpec Tryd.prog (gl0 Gx) 58 [.int .u64 u] (.int .i64 r) :=
  ZbK (g := 2) (by kernel_rfl) (by kernel_rfl) (by simp [gl0]) (fun _ h1 h2 _ ht => Any.internal_strconv_numDigits Tryd.laysM284 _ h1 h2 _ ht) h
theorem Zd2 {v r : Vector Int 24} {n : Nat} {u : Int} (h : Zb0 v n u = some r) :
    GSpec Tryd.prog (gl0 Gx) 59 [.osl 0 1 (0 + Int.toNat 0) n, .int .u64 u] [some ⟨92, [(List.map C5 v.toList)]⟩] (.tuple []) [some ⟨92, [(List.map C5 r.toList)]⟩] :=
  Zet (by kernel_rfl) rfl tZ_92 (fun _ _ _ _ _ _ h1 h2 h3 h4 => Any.internal_strconv_formatBase10 Tryd.lays285 _ _ _ _ _ _ h1 h2 h3 h4) h
theorem Jj {dst_ : List Int} {i : Int} {base : Int} {r : (List Int)} (h : ZT dst_ i base = some r) :
 GSpec Tryd.prog (gl0 Gx) 89 [.own 0 dst_.length, .int .u64 i, .int .i64 base] [some ⟨5, List.map R5 dst_⟩] (.own 0 r.length) [some ⟨5, List.map R5 r⟩] := by
 unfold ZT at h
 replace h := Qa h
 refine Q6 (by kernel_rfl) Tryd.func89 Y Y<|?_
 intro w0 A W φ0
 refine Tr<|Ra Y<|Za<|Zq<|K3 0 1 2 Y<|Tr<|Rm Y<|R2 Xw Y<|Za<|K4 0 1 2 10 Y<|If h Y (fun h=>?_) fun h=>?_
 ·
  refine Zq<|K2 0 1 Y<|Tr<|Rm Y<|R2 Qn Y<|Za<|K3 0 1 12 Y<|If h Y (fun h=>?_) fun h=>?_
  ·
   refine K2 0 1 Y<|Tr<|Rm Y<|Rm Y<|Rq Y (Zbg (ov Y) Zgq tI3 Y)<|bE h fun y h_y h=>Rq Y (Zg (Zac h_y)<|.cons (ov Y) (.b Y) .nil)<|bE h fun l h_l h=>Rx Y (XC (f := R5) (ov Y) (ov Y) Zw XQ Y Y (fun _=>Y) Y h_l)<|Ra Y<|Za<|?_
   obtain rfl := rt h
   exact Zl<|Zeu [some 0] Y (.cons (.tmp Y) .nil) (.cons Y (roM D5) .nil) Y Y<|.own _ Y
  ·
   refine Zi<|K2 0 1 Y<|Tr<|Rx Y (ZN (row := (List.map C5 (Vector.replicate 24 0).toList)) 1 Y ZgL Y tZ_92)<|Za<|Tr<|Rm Y<|bE h fun y2 h_y2 h=>Rq Y (Zg (Zce h_y2)<|.cons (ov Y) (.b Y) .nil)<|Ra Y<|Za<|K4 0 1 7 8 Y<|Tr<|Rm Y<|bE h fun l2 h_l2 h=>Rq Y (Zdx (ov Y) Zgj Y Y on (oi<|ov Y) h_l2)<|Rm Y<|bE h fun y3 h_y3 h=>Rx Y (Qx [1] (Zd2 h_y3) (.cons (ov Y) (.osl _ _ _ Y)<|.cons (ov Y) (.dat Y) .nil) (.cons Y (ro1 (by exact Eq.trans (b := 24) arL tZ_92.symm)<|rld<|arD fun _ => Y) .nil) Y (.keep Y Y<|.lent 0 (.inl Y) Y (ro1 (by exact Eq.trans (b := 24) arL tZ_92.symm)<|rld<|arD fun _ => Y) .nil) Y Y<|JP<|rld Y)<|Za<|K3 0 7 8 Y<|Tr<|Rm Y<|Rm Y<|bE h fun l3 h_l3 h=>Rq Y (Zdx (ov Y) Zgj Y Y on (oi<|ov Y) h_l3)<|bE h fun l4 h_l4 h=>bE h fun l5 h_l5 h=>Rx Y (Zd1 (f := R5) (ov Y) (Zfw (f := C5) (ov Y) h_l4 Y Y) XQ Y Y (fun _=>Zd Y) Y h_l5)<|Ra Y<|Za<|?_
   obtain rfl := rt h
   exact Zl<|Zeu [some 0] Y (.cons (.tmp Y) .nil) (.cons Y (roM D5) .nil) Y Y<|.own _ Y
 ·
  exact Zi<|(Zgw h).elim
theorem Js {dst_ : List Int} {i : Int} {base : Int} {r : (List Int)} (h : Qr dst_ i base = some r) :
 GSpec Tryd.prog (gl0 Gx) 73 [.own 0 dst_.length, .int .i64 i, .int .i64 base] [some ⟨5, List.map R5 dst_⟩] (.own 0 r.length) [some ⟨5, List.map R5 r⟩] := by
 unfold Qr at h
 replace h := Qa h
 refine Q6 (by kernel_rfl) Tryd.func73 Y Y<|?_
 intro w0 A W φ0
 refine Tr<|Ra Y<|Za<|K3 0 1 2 Y<|Tr<|Rm Y<|Rq Y (Zbg (ov Y) tI2 Zgq Y)<|Ra Y<|Za<|I2 (fun o u=>⟨[(0, .own 0 o.length), (2, .int .i64 base), (7, .int .u64 u)], [some ⟨5, List.map R5 o⟩]⟩) h (fun h=>?_) fun o u h=>?_
 ·
  refine K4 0 1 2 7 Y<|Tr<|Rm Y<|R2 Qn Y<|Za<|K4 0 2 7 11 Y<|If h Y (fun h=>?_) fun h=>?_
  ·
   exact K3 0 2 7 Y<|Tr<|Rm Y<|R_q (.sl 5<|List.map R5 ([45] : List Int)) Y (Zap XQ (.cons (cvs (ov Y)<|ZE Y) Y (.cons (.b Y) .nil) .nil) Y Y)<|bE h fun l h_l h=>Rx Y (Q1 (ov Y) (XZ (ov Y) tZ_5) XQ Y Y Y (fun _=>Zd Y) Y h_l)<|Ra Y<|Za<|K3 0 2 7 Y<|Zx<|Rm Y<|Rq Y (ZfD (ov Y) Y)<|Ra Y<|Za<|⟨_, h, ES [some 0]⟩
  ·
   exact Zi<|⟨_, h, ES [some 0]⟩
 ·
  refine Tr<|Rm Y<|Rm Y<|Rm Y<|bE h fun y h_y h=>Rx Y (Qx [0] (Jj h_y) (.cons (ov Y) (.own _ Y)<|.cons (ov Y) (.dat Y)<|.cons (ov Y) (.dat Y) .nil) (.cons Y (roM D5) .nil) Y (.lent 0 (.inl Y) Y (roM D5) .nil) Y Y<|.own _<|.inl Y)<|Ra Y<|Za<|?_
  obtain rfl := rt h
  exact Zl<|Zeu [some 0] Y (.cons (.tmp Y) .nil) (.cons Y (roM D5) .nil) Y Y<|.own _ Y
theorem Jh {dst_ : List Int} {i : Int} {base : Int} {r : (List Int)} (h : Z8 dst_ i base = some r) :
 GSpec Tryd.prog (gl0 Gx) 53 [.own 0 dst_.length, .int .i64 i, .int .i64 base] [some ⟨5, List.map R5 dst_⟩] (.own 0 r.length) [some ⟨5, List.map R5 r⟩] := by
 unfold Z8 at h
 replace h := Qa h
 refine Q6 (by kernel_rfl) Tryd.func53 Y Y<|?_
 intro w0 A W φ0
 refine Tr<|Ra Y<|Za<|Tr<|Rm Y<|Rm Y<|Rm Y<|bE h fun y h_y h=>Rx Y (Qx [0] (Js h_y) (.cons (ov Y) (.own _ Y)<|.cons (ov Y) (.dat Y)<|.cons (ov Y) (.dat Y) .nil) (.cons Y (roM D5) .nil) Y (.lent 0 (.inl Y) Y (roM D5) .nil) Y Y<|.own _<|.inl Y)<|Ra Y<|Za<|?_
 obtain rfl := rt h
 exact Zl<|Zeu [some 0] Y (.cons (.tmp Y) .nil) (.cons Y (roM D5) .nil) Y Y<|.own _ Y
theorem Qd {k : ref0_Ink} {n : Int} {r : ref0_Ink} (h : ZU k n = some r) :
 GSpec Tryd.prog (gl0 Gx) 42 [.ptr 0 1 0 0, .int .i64 n] [some ⟨65, [[.own 1 k.out.length]]⟩, some ⟨5, List.map R5 k.out⟩] (.tuple []) [some ⟨65, [[.own 2 r.out.length]]⟩, none, some ⟨5, List.map R5 r.out⟩] := by
 unfold ZU at h
 replace h := Qa h
 refine Q6 (by kernel_rfl) Tryd.func42 Y Y<|?_
 intro w0 A W φ0
 refine ZaW (Ent.sel [some 0, some 1, some 1] (sr 0 Y (.ptr (r' := 0) _ _ _ Y)<|sd 1 Y Y sn) (.cons Y (ro1 (by exact tZ_65.symm)<|rlc (.own (r' := 2) _ Y) rln)<|.dead<|.cons Y (roM D5) .nil) Y Y)<|Tr<|Rm Y<|Rm Y<|Rq Y (Xn (ov Y) Y Y)<|Rq Y (Zs (ov Y) Y Y Zbc)<|Rq Y (ZM (ov Y) Y Y Y Zed Y)<|Rm Y<|bE h fun y h_y h=>Rx Y (Qx [2] (Jh h_y) (.cons (ov Y) (.own _ Y)<|.cons (ov Y) (.dat Y)<|.cons (ov Y) (.dat Y) .nil) (.cons Y (roM D5) .nil) Y (.keep Y Y<|.none<|.lent 0 (.inl Y) Y (roM D5) .nil) Y Y<|.own _<|.inl Y)<|Rq Y (Xn (ov Y) Y Y)<|Rq Y (Zs (ov Y) Y Y Zbc)<|Rx Y (Zo (ov Y) (ov Y) (QC Zed) Y Y Y (Nat.le_of_ble_eq_true Y) (Zd Y) Y)<|Za<|K1 0 Y<|Zx<|Rm Y<|Rm Y<|Rq Y (Xn (ov Y) Y Y)<|Rq Y (Zs (ov Y) Y Y Zbc)<|Rq Y (ZM (ov Y) Y Y Y Zed Y)<|R_q (.sl 5<|List.map R5 ([32] : List Int)) Y (Zap XQ (.cons (cvs (ov Y)<|ZE Y) Y (.cons (.b Y) .nil) .nil) Y Y)<|bE h fun l h_l h=>Rx Y (Q1 (ov Y) (XZ (ov Y) tZ_5) XQ Y Y Y (fun _=>Zd Y) Y h_l)<|Rq Y (Xn (ov Y) Y Y)<|Rq Y (Zs (ov Y) Y Y Zbc)<|Rx Y (Zo (ov Y) (ov Y) (QC Zed) Y Y Y (Nat.le_of_ble_eq_true Y) (Zd Y) Y)<|Za<|?_
 obtain rfl := rt h
 exact ZcS [some 0, some 1, some 2] Y .nil (.cons Y (ro1 (by exact tZ_65.symm)<|rlc (.own _ Y) rln)<|.dead<|.cons Y (roM D5) .nil) Y Y<|JP rln
theorem J6 {k : ref0_Ink} {l : List Int} {r : ref0_Ink} (h : QS k l = some r) :
 GSpec Tryd.prog (gl0 Gx) 54 [.ptr 0 1 0 0, .sl 3 (List.map R3 l)] [some ⟨65, [[.own 1 k.out.length]]⟩, some ⟨5, List.map R5 k.out⟩] (.tuple []) [some ⟨65, [[.own 2 r.out.length]]⟩, none, some ⟨5, List.map R5 r.out⟩] := by
 unfold QS at h
 replace h := Qa h
 refine Q6 (by kernel_rfl) Tryd.func54 Y Y<|?_
 intro w0 A W φ0
 refine ZaW (Ent.sel [some 0, some 1, some 1] (sr 0 Y (.ptr (r' := 0) _ _ _ Y)<|sd 1 Y Y sn) (.cons Y (ro1 (by exact tZ_65.symm)<|rlc (.own (r' := 2) _ Y) rln)<|.dead<|.cons Y (roM D5) .nil) Y Y)<|Tr<|Rm Y<|Rm Y<|Rl tZ_3 Zft Y<|bE h fun y h_y h=>Rx Y (Qx [0, 2] (Qd h_y) (.cons (ov Y) (.ptr _ _ _ Y)<|.cons (ov Y) (.dat Y) .nil) (.cons Y (ro1 (by exact tZ_65.symm)<|rlc (.own _ Y) rln)<|.cons Y (roM D5) .nil) Y (.lent 0 (.inl Y) Y (ro1 (by exact tZ_65.symm)<|rlc (.own _<|.inr ⟨Nat.le_of_ble_eq_true Y, Y⟩) rln)<|.none<|.none<|.lent 2 (.inr ⟨Nat.le_of_ble_eq_true Y, Y⟩) Y (roM D5) .nil) Y Y<|JP<|rld Y)<|Za<|K2 0 1 Y<|Tr<|Ra Y<|Za<|Zv<|?_
 obtain ⟨r1, hl1, ho1⟩ := Zai h
 refine L2 (fun out i=>⟨[(0, .ptr 0 1 0 0), (1, .sl 3 (List.map R3 l)), (4, .int .i64 i)], [some ⟨65, [[.own 2 out.length]]⟩, none, some ⟨5, List.map R5 out⟩]⟩) hl1 (ES [some 0, some 1, some 3]) fun n1 out i h=>?_
 unfold QI at h
 refine Zq<|Tr<|Rm Y<|Rm Y<|Rl tZ_3 Zft Y<|R2 Qn Y<|Za<|K4 0 1 4 12 Y<|If h Y (fun h=>?_) fun h=>?_
 ·
  exact Zi<|Zq<|Zv<|K3 0 1 4 Y<|Zx<|Rm Y<|Rm Y<|Rm Y<|bE h fun x h_x h=>Rq Y (ZV (ov Y) (ov Y) Zft h_x)<|Rq Y (Zb (ov Y) tS3 Y)<|bE h fun y2 h_y2 h=>Rx Y (Qx [0, 2] (Qd h_y2) (.cons (ov Y) (.ptr _ _ _ Y)<|.cons (ov Y) (.dat Y) .nil) (.cons Y (ro1 (by exact tZ_65.symm)<|rlc (.own _ Y) rln)<|.cons Y (roM D5) .nil) Y (.lent 0 (.inl Y) Y (ro1 (by exact tZ_65.symm)<|rlc (.own _<|.inr ⟨Nat.le_of_ble_eq_true Y, Y⟩) rln)<|.none<|.none<|.lent 2 (.inr ⟨Nat.le_of_ble_eq_true Y, Y⟩) Y (roM D5) .nil) Y Y<|JP<|rld Y)<|Za<|K3 0 1 4 Y<|Zx<|Rm Y<|R2 Xv Y<|Ra Y<|Za<|⟨_, h, ES [some 0, some 1, some 3]⟩
 ·
  refine QV<|?_
  replace h := lx h ▸ ho1
  obtain rfl := rt h
  exact ZcS [some 0, some 1, some 2] Y .nil (.cons Y (ro1 (by exact tZ_65.symm)<|rlc (.own _ Y) rln)<|.dead<|.cons Y (roM D5) .nil) Y Y<|JP rln
theorem Jy {k : ref0_Ink} {x : api_Sample} {r : ref0_Ink} (h : Qu k x = some r) :
 GSpec Tryd.prog (gl0 Gx) 43 [.ptr 0 1 0 0, .agg [.int .i64 x.At, .int .i64 x.N, .int .i64 x.Mark]] [some ⟨65, [[.own 1 k.out.length]]⟩, some ⟨5, List.map R5 k.out⟩] (.tuple []) [some ⟨65, [[.own 2 r.out.length]]⟩, none, some ⟨5, List.map R5 r.out⟩] := by
 unfold Qu at h
 replace h := Qa h
 refine Q6 (by kernel_rfl) Tryd.func43 Y Y<|?_
 intro w0 A W φ0
 refine ZaW (Ent.sel [some 0, some 1, some 1] (sr 0 Y (.ptr (r' := 0) _ _ _ Y)<|sr 1 Y (ZdY<|rld Y) sn) (.cons Y (ro1 (by exact tZ_65.symm)<|rlc (.own (r' := 2) _ Y) rln)<|.dead<|.cons Y (roM D5) .nil) Y Y)<|Tr<|Rq Y (QB (cva<|ov Y) Y tZ_44 Y)<|Za<|K2 0 3 Y<|Zx<|Rm Y<|Rq Y (Zm (ov Y) XP)<|Rq Y (Zb (ov Y) tS3 Y)<|Rq Y (Zm (ov Y) XM)<|Rq Y (Zb (ov Y) tS3 Y)<|Rq Y (Zm (ov Y) Xc)<|Rq Y (Zb (ov Y) tS3 Y)<|R_q (.sl 3<|List.map R3 ([x.At, x.N, x.Mark] : List Int)) Y (Zap Zft (.cons (cvs (ov Y)<|ZE Y) Y (.cons (.b Y) .nil)<|.cons (cvs (ov Y)<|ZE Y) Y (.cons (.b Y) .nil)<|.cons (cvs (ov Y)<|ZE Y) Y (.cons (.b Y) .nil) .nil) Y Y)<|bE h fun y h_y h=>Rx Y (Qx [0, 2] (J6 h_y) (.cons (ov Y) (.ptr _ _ _ Y)<|.cons (ov Y) (.dat Y) .nil) (.cons Y (ro1 (by exact tZ_65.symm)<|rlc (.own _ Y) rln)<|.cons Y (roM D5) .nil) Y (.lent 0 (.inl Y) Y (ro1 (by exact tZ_65.symm)<|rlc (.own _<|.inr ⟨Nat.le_of_ble_eq_true Y, Y⟩) rln)<|.none<|.none<|.lent 2 (.inr ⟨Nat.le_of_ble_eq_true Y, Y⟩) Y (roM D5) .nil) Y Y<|JP<|rld Y)<|Za<|?_
 obtain rfl := rt h
 exact ZcS [some 0, some 1, some 3] Y .nil (.cons Y (ro1 (by exact tZ_65.symm)<|rlc (.own _ Y) rln)<|.dead<|.cons Y (roM D5) .nil) Y Y<|JP rln
theorem Ju {k : ref0_Ink} {s : api_Series} {r : ref0_Ink} (h : Qv k s = some r) :
 GSpec Tryd.prog (gl0 Gx) 26 [.ptr 0 1 0 0, .agg [.int .i64 s.Den, .sl 44 (List.map R44 s.Samples)]] [some ⟨65, [[.own 1 k.out.length]]⟩, some ⟨5, List.map R5 k.out⟩] (.tuple []) [some ⟨65, [[.own 2 r.out.length]]⟩, none, some ⟨5, List.map R5 r.out⟩] := by
 unfold Qv at h
 replace h := Qa h
 refine Q6 (by kernel_rfl) Tryd.func26 Y Y<|?_
 intro w0 A W φ0
 refine ZaW (Ent.sel [some 0, some 1, some 1] (sr 0 Y (.ptr (r' := 0) _ _ _ Y)<|sr 1 Y (ZdY<|rld Y) sn) (.cons Y (ro1 (by exact tZ_65.symm)<|rlc (.own (r' := 2) _ Y) rln)<|.dead<|.cons Y (roM D5) .nil) Y Y)<|Tr<|Rq Y (QB (cva<|ov Y) Y tZ_24 Y)<|Za<|K2 0 3 Y<|Tr<|Rm Y<|Rq Y (Zm (ov Y) JZ)<|Rq Y (Zb (ov Y) tS3 Y)<|bE h fun y h_y h=>Rx Y (Qx [0, 2] (Qd h_y) (.cons (ov Y) (.ptr _ _ _ Y)<|.cons (ov Y) (.dat Y) .nil) (.cons Y (ro1 (by exact tZ_65.symm)<|rlc (.own _ Y) rln)<|.cons Y (roM D5) .nil) Y (.lent 0 (.inl Y) Y (ro1 (by exact tZ_65.symm)<|rlc (.own _<|.inr ⟨Nat.le_of_ble_eq_true Y, Y⟩) rln)<|.none<|.none<|.lent 2 (.inr ⟨Nat.le_of_ble_eq_true Y, Y⟩) Y (roM D5) .nil) Y Y<|JP<|rld Y)<|Za<|K2 0 3 Y<|Tr<|Rm Y<|Rq Y (Zm (ov Y) Z6)<|Rq Y (Zb (ov Y) XU Y)<|Rl tZ_44 Xh Y<|bE h fun y2 h_y2 h=>Rx Y (Qx [0, 3] (Qd h_y2) (.cons (ov Y) (.ptr _ _ _ Y)<|.cons (ov Y) (.dat Y) .nil) (.cons Y (ro1 (by exact tZ_65.symm)<|rlc (.own _ Y) rln)<|.cons Y (roM D5) .nil) Y (.lent 0 (.inl Y) Y (ro1 (by exact tZ_65.symm)<|rlc (.own _<|.inr ⟨Nat.le_of_ble_eq_true Y, Y⟩) rln)<|.none<|.none<|.none<|.lent 2 (.inr ⟨Nat.le_of_ble_eq_true Y, Y⟩) Y (roM D5) .nil) Y Y<|JP<|rld Y)<|Za<|K2 0 3 Y<|Tr<|Ra Y<|Za<|Zv<|?_
 obtain ⟨r1, hl1, ho1⟩ := Zai h
 refine L2 (fun out i=>⟨[(0, .ptr 0 1 0 0), (3, .rp [.int .i64 s.Den, .sl 44 (List.map R44 s.Samples)] 0), (4, .int .i64 i)], [some ⟨65, [[.own 2 out.length]]⟩, none, some ⟨5, List.map R5 out⟩]⟩) hl1 (ES [some 0, some 1, some 4]) fun n1 out i h=>?_
 unfold Qs at h
 refine Zq<|Tr<|Rm Y<|Rq Y (Zm (ov Y) Z6)<|Rq Y (Zb (ov Y) XU Y)<|Rl tZ_44 Xh Y<|R2 Qn Y<|Za<|K4 0 3 4 18 Y<|If h Y (fun h=>?_) fun h=>?_
 ·
  exact Zi<|Zq<|Zv<|K3 0 3 4 Y<|Zx<|Rm Y<|Rq Y (Zm (ov Y) Z6)<|Rq Y (Zb (ov Y) XU Y)<|Rm Y<|bE h fun x h_x h=>Rq Y (ZV (ov Y) (ov Y) Xh h_x)<|Rq Y (Zu (ov Y) ZL Y Y)<|bE h fun y3 h_y3 h=>Rx Y (Qx [0, 2] (Jy h_y3) (.cons (ov Y) (.ptr _ _ _ Y)<|.cons (ov Y) (ZdY<|rld Y) .nil) (.cons Y (ro1 (by exact tZ_65.symm)<|rlc (.own _ Y) rln)<|.cons Y (roM D5) .nil) Y (.lent 0 (.inl Y) Y (ro1 (by exact tZ_65.symm)<|rlc (.own _<|.inr ⟨Nat.le_of_ble_eq_true Y, Y⟩) rln)<|.none<|.none<|.lent 2 (.inr ⟨Nat.le_of_ble_eq_true Y, Y⟩) Y (roM D5) .nil) Y Y<|JP<|rld Y)<|Za<|K3 0 3 4 Y<|Zx<|Rm Y<|R2 Xv Y<|Ra Y<|Za<|⟨_, h, ES [some 0, some 1, some 3]⟩
 ·
  refine QV<|?_
  replace h := lx h ▸ ho1
  obtain rfl := rt h
  exact ZcS [some 0, some 1, some 2] Y .nil (.cons Y (ro1 (by exact tZ_65.symm)<|rlc (.own _ Y) rln)<|.dead<|.cons Y (roM D5) .nil) Y Y<|JP rln
theorem JQ {k : ref0_Ink} {e : Int} {r : ref0_Ink} (h : Q5 k e = some r) :
 GSpec Tryd.prog (gl0 Gx) 27 [.ptr 0 1 0 0, .int .i64 e] [some ⟨65, [[.own 1 k.out.length]]⟩, some ⟨5, List.map R5 k.out⟩] (.tuple []) [some ⟨65, [[.own 2 r.out.length]]⟩, none, some ⟨5, List.map R5 r.out⟩] := by
 unfold Q5 at h
 replace h := Qa h
 refine Q6 (by kernel_rfl) Tryd.func27 Y Y<|?_
 intro w0 A W φ0
 refine ZaW (Ent.sel [some 0, some 1, some 1] (sr 0 Y (.ptr (r' := 0) _ _ _ Y)<|sd 1 Y Y sn) (.cons Y (ro1 (by exact tZ_65.symm)<|rlc (.own (r' := 2) _ Y) rln)<|.dead<|.cons Y (roM D5) .nil) Y Y)<|Zx<|Rm Y<|Rm Y<|bE h fun y h_y h=>Rx Y (Qx [0, 2] (Qd h_y) (.cons (ov Y) (.ptr _ _ _ Y)<|.cons (ov Y) (.dat Y) .nil) (.cons Y (ro1 (by exact tZ_65.symm)<|rlc (.own _ Y) rln)<|.cons Y (roM D5) .nil) Y (.lent 0 (.inl Y) Y (ro1 (by exact tZ_65.symm)<|rlc (.own _<|.inr ⟨Nat.le_of_ble_eq_true Y, Y⟩) rln)<|.none<|.none<|.lent 2 (.inr ⟨Nat.le_of_ble_eq_true Y, Y⟩) Y (roM D5) .nil) Y Y<|JP<|rld Y)<|Za<|?_
 obtain rfl := rt h
 exact ZcS [some 0, some 1, some 3] Y .nil (.cons Y (ro1 (by exact tZ_65.symm)<|rlc (.own _ Y) rln)<|.dead<|.cons Y (roM D5) .nil) Y Y<|JP rln
theorem J9 {k : ref0_Ink} {r : Str} (h : Xi k = some r) :
 GSpec Tryd.prog (gl0 Gx) 28 [.ptr 0 1 0 0] [some ⟨65, [[.own 1 k.out.length]]⟩, some ⟨5, List.map R5 k.out⟩] (.str r) [some ⟨65, [[.own 2 k.out.length]]⟩, none, some ⟨5, List.map R5 k.out⟩] := by
 unfold Xi at h
 replace h := Qa h
 refine Q6 (by kernel_rfl) Tryd.func28 Y Y<|?_
 intro w0 A W φ0
 refine ZaW (Ent.sel [some 0, some 1, some 1] (sr 0 Y (.ptr (r' := 0) _ _ _ Y) sn) (.cons Y (ro1 (by exact tZ_65.symm)<|rlc (.own (r' := 2) _ Y) rln)<|.dead<|.cons Y (roM D5) .nil) Y Y)<|Tr<|Ra Y<|Za<|Tr<|Rm Y<|Rq Y (Xn (ov Y) Y Y)<|Rq Y (Zs (ov Y) Y Y Zbc)<|Rq Y (ZM (ov Y) Y Y Y Zed Y)<|Rq Y (ZdR (f := R5) (ZdD (o := ⟨5, List.map R5 k.out⟩) (ov Y) Y (List.length_map ..) tZ_5) (fun _=>Y) XQ Zw Zgo)<|Ra Y<|Za<|?_
 obtain rfl := rt h
 exact Zl<|Zeu [some 0, some 1, some 2] Y (.cons (.tmp Y) .nil) (.cons Y (ro1 (by exact tZ_65.symm)<|rlc (.own _ Y) rln)<|.dead<|.cons Y (roM D5) .nil) Y Y<|.dat Y
theorem XA {s : api_Series} {e : Int} {r : Str} (h : Q0 s e = some r) :
 CSpec Tryd.prog (gl0 Gx) 8 [.agg [.int .i64 s.Den, .sl 44 (List.map R44 s.Samples)], .int .i64 e] (.str r) := by
 unfold Q0 at h
 replace h := Qa h
 refine So Tryd.func8 Y fun w0 A=>Tr<|Rq Y (QB (cva<|ov Y) Y tZ_24 Y)<|Ra Y<|Za<|K2 1 2 Y<|Tr<|Rq Y (ZK (ys := [_]) Zgu Zgt ZgG .nil Y)<|Rx Y (ZgB 0 Y (ov Y) ZgP Y)<|Ra Y<|Za<|K3 1 2 5 Y<|Tr<|Rm Y<|Rq Y (Zu (ov Y) Qm Y Y)<|bE h fun y h_y h=>ZeA (Ent.sel [some 0, none] (sd 1 Y Y<|sd 2 Y Y<|sr 5 Y (.ptr (r' := 0) _ _ _ Y)<|sr 8 Y (.ptr (r' := 0) _ _ _ Y)<|sr 9 Y (ZdY<|rld Y) sn) (.cons Y (ro1 (by exact tZ_65.symm)<|rlc (.row (r' := 1) Y) rln)<|.row 5 .nil) Y Y)<|Rx Y (Qx [0, 1] (Ju h_y) (.cons (ov Y) (.ptr _ _ _ Y)<|.cons (ov Y) (ZdY<|rld Y) .nil) (.cons Y (ro1 (by exact tZ_65.symm)<|rlc (.own _ Y) rln)<|.cons Y roE .nil) Y (.lent 0 (.inl Y) Y (ro1 (by exact tZ_65.symm)<|rlc (.own _<|.inr ⟨Nat.le_of_ble_eq_true Y, Y⟩) rln)<|.none<|.lent 2 (.inr ⟨Nat.le_of_ble_eq_true Y, Y⟩) Y (roM D5) .nil) Y Y<|JP<|rld Y)<|Za<|K2 1 5 Y<|Tr<|Rm Y<|Rm Y<|bE h fun y2 h_y2 h=>Rx Y (Qx [0, 2] (JQ h_y2) (.cons (ov Y) (.ptr _ _ _ Y)<|.cons (ov Y) (.dat Y) .nil) (.cons Y (ro1 (by exact tZ_65.symm)<|rlc (.own _ Y) rln)<|.cons Y (roM D5) .nil) Y (.lent 0 (.inl Y) Y (ro1 (by exact tZ_65.symm)<|rlc (.own _<|.inr ⟨Nat.le_of_ble_eq_true Y, Y⟩) rln)<|.none<|.none<|.lent 2 (.inr ⟨Nat.le_of_ble_eq_true Y, Y⟩) Y (roM D5) .nil) Y Y<|JP<|rld Y)<|Za<|K1 5 Y<|Tr<|Rm Y<|bE h fun y3 h_y3 h=>Rx Y (Qx [0, 3] (J9 h_y3) (.cons (ov Y) (.ptr _ _ _ Y) .nil) (.cons Y (ro1 (by exact tZ_65.symm)<|rlc (.own _ Y) rln)<|.cons Y (roM D5) .nil) Y (.lent 0 (.inl Y) Y (ro1 (by exact tZ_65.symm)<|rlc (.own _<|.inr ⟨Nat.le_of_ble_eq_true Y, Y⟩) rln)<|.none<|.none<|.none<|.lent 2 (.inr ⟨Nat.le_of_ble_eq_true Y, Y⟩) Y (roM D5) .nil) Y Y<|.dat Y)<|Ra Y<|Za<|?_
 obtain rfl := rt h
 exact Zl (Zt Y (.one<|rb Y))
theorem ZW {x : List api_Sample} {target : Int} {cmp : api_Sample → Int → Option Int} {r : Int × Bool} {cmp_f : FuncId} {cmp_c : List AV} (cmp_d : cmp_c.all datB = true) (cmp_h : ∀ (z0 : api_Sample) (z1 : Int) z, cmp z0 z1 = some z → CSpec Tryd.prog (gl0 Gx) cmp_f ([.agg [.int .i64 z0.At, .int .i64 z0.N, .int .i64 z0.Mark], .int .i64 z1] ++ cmp_c) (.int .i64 z)) (h : Zh x target cmp = some r) :
 CSpec Tryd.prog (gl0 Gx) 74 [.sl 44 (List.map R44 x), .int .i64 target, .fn cmp_f cmp_c] (.tuple [.int .i64 r.1, .bool r.2]) := by
 unfold Zh at h
 replace h := Qa h
 refine So Tryd.func74 Y fun w0 A=>Tr<|Ra Y<|Ra Y<|Za<|K3 0 1 2 Y<|Tr<|Rm Y<|Rl tZ_44 Xh Y<|Ra Y<|Za<|K4 0 1 2 8 Y<|Tr<|Rm Y<|Ra Y<|Ra Y<|Za<|I1 (fun i=>⟨[(0, .sl 44 (List.map R44 x)), (1, .int .i64 target), (2, .fn cmp_f cmp_c), (8, .int .i64 (x.length : Int)), (9, .int .i64 i)], []⟩) h (fun h=>?_) fun i h=>?_
 ·
  refine Zv<|?_
  obtain ⟨r1, hl1, ho1⟩ := Zai h
  refine L2 (fun i2 j=>⟨[(0, .sl 44 (List.map R44 x)), (1, .int .i64 target), (2, .fn cmp_f cmp_c), (8, .int .i64 (x.length : Int)), (9, .int .i64 i2), (10, .int .i64 j)], []⟩) hl1 (ES []<|sd 0 Y Y<|sd 1 Y Y<|sr 2 Y (rFn<|rld cmp_d)<|sd 8 Y Y<|sd 9 Y Y<|sd 10 Y Y sn) fun n1 i2 j h=>?_
  unfold Zf at h
  refine Zq<|Tr<|Rm Y<|Rm Y<|R2 Qn Y<|Za<|K7 0 1 2 8 9 10 17 Y<|If h Y (fun h=>?_) fun h=>?_
  ·
   refine Zi<|Zv<|K6 0 1 2 8 9 10 Y<|Tr<|Rm Y<|Rm Y<|R2 Xv Y<|Rq Y (Zbg (ov Y) tI3 ZfH Y)<|bE h fun q h_q h=>Rq Y (Zf0 (ov Y) (ov Y) h_q)<|Rq Y (Zbg (ov Y) ZfH tI3 Y)<|Ra Y<|Za<|K7 0 1 2 8 9 10 11 Y<|Tr<|Rm Y<|Rm Y<|Rm Y<|bE h fun x2 h_x2 h=>Rq Y (ZV (ov Y) (ov Y) Xh h_x2)<|Rq Y (Zu (ov Y) ZL Y Y)<|Rm Y<|bE h fun y h_y h=>Rq Y (ZdG (ov Y) cmp_d (cmp_h _ _ _ h_y)<|.cons (ov Y) (.aggB Y)<|.cons (ov Y) (.b Y) .nil)<|R2 Qn Y<|Za<|K8 0 1 2 8 9 10 11 31 Y<|If h Y (fun h=>?_) fun h=>?_
   ·
    exact K7 0 1 2 8 9 10 11 Y<|Zx<|Rm Y<|R2 Xv Y<|Ra Y<|Za<|⟨_, h, ES []<|sd 0 Y Y<|sd 1 Y Y<|sr 2 Y (rFn<|rld cmp_d)<|sd 8 Y Y<|sd 9 Y Y<|sd 10 Y Y sn⟩
   ·
    exact K7 0 1 2 8 9 10 11 Y<|Zx<|Rm Y<|Ra Y<|Za<|⟨_, h, ES []<|sd 0 Y Y<|sd 1 Y Y<|sr 2 Y (rFn<|rld cmp_d)<|sd 8 Y Y<|sd 9 Y Y<|sd 10 Y Y sn⟩
  ·
   refine QV<|?_
   replace h := lx h ▸ ho1
   exact ⟨_, h, ES []<|sd 0 Y Y<|sd 1 Y Y<|sr 2 Y (rFn<|rld cmp_d)<|sd 8 Y Y<|sd 9 Y Y sn⟩
 ·
  refine Tr<|Rm Y<|Rm Y<|Rm Y<|R2 Qn Y<|Rm Y<|Rq Y (.guarded ((decide (i < (x.length : Int))) == true) Y Y Y Y fun h => Zk<|ov Y)<|Rq Y (.guarded ((decide (i < (x.length : Int))) == true) Y Y Y Y fun h => Zk<|ov Y)<|Rq Y (.guarded ((decide (i < (x.length : Int))) == true) Y Y Y Y fun h => Zk<|ov Y)<|bE h fun x3 h_x3 h=>Rq Y (.guarded ((decide (i < (x.length : Int))) == true) Y Y Y Y fun h => ZV (ow Y h) (ow Y h) Xh<|gdT h_x3 h)<|Rq Y (.guarded ((decide (i < (x.length : Int))) == true) Y Y Y Y fun h => Zu (ow Y h) ZL Y Y)<|Rq Y (.guarded ((decide (i < (x.length : Int))) == true) Y Y Y Y fun h => Zk<|ov Y)<|bE h fun y2 h_y2 h=>Rq Y (.guarded ((decide (i < (x.length : Int))) == true) Y Y Y Y fun h => ZdG (ow Y h) cmp_d (cmp_h _ _ _<|gdT h_y2 h)<|.cons (ow Y h) (.aggB Y)<|.cons (ow Y h) (.b Y) .nil)<|Rq Y (.guarded ((decide (i < (x.length : Int))) == true) Y Y Y Y fun h => Xw (ow Y h)<|ov Y)<|Rq Y (Xa (ov Y) fun hp=>ow Y<|gT hp)<|Ra Y<|Ra Y<|Za<|?_
  obtain rfl := rt h
  exact Zl (Zt Y (.two (rb Y)<|rb Y))
theorem J7 {x : api_Sample} {at_ : Int} {r : Int} (h : ZS x at_ = some r) :
 CSpec Tryd.prog (gl0 Gx) 75 [.agg [.int .i64 x.At, .int .i64 x.N, .int .i64 x.Mark], .int .i64 at_] (.int .i64 r) := by
 unfold ZS at h
 replace h := Qa h
 refine So Tryd.func75 Y fun w0 A=>Tr<|Rq Y (QB (cva<|ov Y) Y tZ_44 Y)<|Ra Y<|Za<|K3 1 2 4 Y<|Tr<|Rq Y (Zm (ov Y) XP)<|Rq Y (Zb (ov Y) tS3 Y)<|Rm Y<|R2 Zf1 Y<|Ra Y<|Za<|?_
 obtain rfl := rt h
 exact Zl (Zt Y (.one<|rb Y))
theorem ZaH {s : api_Series} {at_ : Int} {r : Int} (h : QP s at_ = some r) :
 CSpec Tryd.prog (gl0 Gx) 55 [.agg [.int .i64 s.Den, .sl 44 (List.map R44 s.Samples)], .int .i64 at_] (.int .i64 r) := by
 unfold QP at h
 replace h := Qa h
 refine So Tryd.func55 Y fun w0 A=>Tr<|Rq Y (QB (cva<|ov Y) Y tZ_24 Y)<|Ra Y<|Za<|K2 1 2 Y<|Tr<|Rq Y (Zm (ov Y) Z6)<|Rq Y (Zb (ov Y) XU Y)<|Rm Y<|bE h fun y h_y h=>Rq Y (Zg (ZW Y (fun z0 z1 _ hz=>J7 hz) h_y)<|.cons (ov Y) (.b Y)<|.cons (ov Y) (.b Y)<|.cons (ov Y) .fn .nil)<|Rm Y<|Rq Y (Zc (ov Y) Y)<|Rq Y (Zc (ov Y) Y)<|Ra Y<|Ra Y<|Za<|Zq<|K2 5 6 Y<|Tr<|Rm Y<|Za<|K2 5 14 Y<|If h Y (fun h=>?_) fun h=>?_
 ·
  refine K1 5 Y<|Tr<|Rm Y<|Ra Y<|Za<|?_
  obtain rfl := rt h
  exact Zl (Zt Y (.one<|rb Y))
 ·
  refine Zi<|K1 5 Y<|Tr<|Rm Y<|R2 Zf1 Y<|Ra Y<|Za<|?_
  obtain rfl := rt h
  exact Zl (Zt Y (.one<|rb Y))
theorem Za2 {x : api_Sample} {r : Bool} (h : XB x = some r) :
 CSpec Tryd.prog (gl0 Gx) 56 [.agg [.int .i64 x.At, .int .i64 x.N, .int .i64 x.Mark]] (.bool r) := by
 unfold XB at h
 replace h := Qa h
 refine So Tryd.func56 Y fun w0 A=>Tr<|Rq Y (QB (cva<|ov Y) Y tZ_44 Y)<|Ra Y<|Za<|K2 1 2 Y<|Tr<|Rq Y (Zm (ov Y) Xc)<|Rq Y (Zb (ov Y) tS3 Y)<|R2 Zbs Y<|Ra Y<|Za<|?_
 obtain rfl := rt h
 exact Zl (Zt Y (.one<|rb Y))
theorem Zbz {s : api_Series} {at_ : Int} {long : Int} {r : api_Sample × Bool} (h : Xp s at_ long = some r) :
 CSpec Tryd.prog (gl0 Gx) 44 [.agg [.int .i64 s.Den, .sl 44 (List.map R44 s.Samples)], .int .i64 at_, .int .i64 long] (.tuple [.agg [.int .i64 r.1.At, .int .i64 r.1.N, .int .i64 r.1.Mark], .bool r.2]) := by
 unfold Xp at h
 replace h := Qa h
 refine So Tryd.func44 Y fun w0 A=>Tr<|Rq Y (QB (cva<|ov Y) Y tZ_24 Y)<|Rx Y (ZN (row := [_, _, _]) 0 Y XD Y tZ_44)<|Ra Y<|Za<|K4 1 2 3 6 Y<|Tr<|Rq Y (Zu (ov Y) Qm Y Y)<|Rm Y<|bE h fun y h_y h=>Rq Y (Zg (ZaH h_y)<|.cons (ov Y) (.aggB Y)<|.cons (ov Y) (.b Y) .nil)<|Ra Y<|Za<|Zq<|K5 1 2 3 6 8 Y<|Tr<|Rm Y<|R2 Qn Y<|Rm Y<|Rq Y (.guarded ((decide (y < 0)) == false) Y Y Y Y fun h => Zm (ov Y) Z6)<|Rq Y (.guarded ((decide (y < 0)) == false) Y Y Y Y fun h => Zb (ow Y h) XU Y)<|Rq Y (.guarded ((decide (y < 0)) == false) Y Y Y Y fun h => Zk<|ov Y)<|bE h fun x h_x h=>Rq Y (.guarded ((decide (y < 0)) == false) Y Y Y Y fun h => ZV (ow Y h) (ow Y h) Xh<|gdT h_x h)<|Rq Y (.guarded ((decide (y < 0)) == false) Y Y Y Y fun h => Zu (ow Y h) ZL Y Y)<|bE h fun y2 h_y2 h=>Rq Y (.guarded ((decide (y < 0)) == false) Y Y Y Y fun h => Zg (Za2<|gdT h_y2 h)<|.cons (ow Y h) (.aggB Y) .nil)<|Rq Y (.guarded ((decide (y < 0)) == false) Y Y Y Y fun h => XW<|ow Y h)<|Rq Y (X3 (ov Y) fun hp=>ow Y<|gF hp)<|Rm Y<|Rq Y (.guarded (((decide (y < 0)) || (!y2)) == false) Y Y Y Y fun h => Zk<|ov Y)<|Rq Y (.guarded (((decide (y < 0)) || (!y2)) == false) Y Y Y Y fun h => Zm (ov Y) Z6)<|Rq Y (.guarded (((decide (y < 0)) || (!y2)) == false) Y Y Y Y fun h => Zb (ow Y h) XU Y)<|Rq Y (.guarded (((decide (y < 0)) || (!y2)) == false) Y Y Y Y fun h => Zk<|ov Y)<|bE h fun x2 h_x2 h=>Rq Y (.guarded (((decide (y < 0)) || (!y2)) == false) Y Y Y Y fun h => ZV (ow Y h) (ow Y h) Xh<|gdT h_x2 h)<|Rq Y (.guarded (((decide (y < 0)) || (!y2)) == false) Y Y Y Y fun h => Zm (ow Y h) XP)<|Rq Y (.guarded (((decide (y < 0)) || (!y2)) == false) Y Y Y Y fun h => Zb (ow Y h) tS3 Y)<|Rq Y (.guarded (((decide (y < 0)) || (!y2)) == false) Y Y Y Y fun h => ZdH (ow Y h) (ow Y h) Y)<|Rq Y (.guarded (((decide (y < 0)) || (!y2)) == false) Y Y Y Y fun h => Zk<|ov Y)<|Rq Y (.guarded (((decide (y < 0)) || (!y2)) == false) Y Y Y Y fun h => Jx (ow Y h)<|ow Y h)<|Rq Y (X3 (ov Y) fun hp=>ow Y<|gF hp)<|Za<|K4 3 6 8 34 Y<|If h Y (fun h=>?_) fun h=>?_
 ·
  refine K1 6 Y<|Tr<|Rq Y (ZK (ys := [_, _, _]) Jl Jq XD .nil Y)<|Rx Y (Zo (ov Y) (ov Y) (Zj ZL Y) Y Y Y (Nat.le_of_ble_eq_true Y) (Zd Y) Y)<|Ra Y<|Za<|?_
  obtain rfl := rt h
  exact Zl (Zt Y (.two (.agg Y Y Y Y ZL Y Y<|pwB Y)<|rb Y))
 ·
  refine Zi<|K3 3 6 8 Y<|Tr<|Rq Y (Zm (ov Y) Z6)<|Rq Y (Zb (ov Y) XU Y)<|Rm Y<|bE h fun x3 h_x3 h=>Rq Y (ZV (ov Y) (ov Y) Xh h_x3)<|Rq Y (Zu (ov Y) ZL Y Y)<|Rx Y (Zo (ov Y) (ov Y) (Zj ZL Y) Y Y Y (Nat.le_of_ble_eq_true Y) (Zd Y) Y)<|Ra Y<|Za<|?_
  obtain rfl := rt h
  exact Zl (Zt Y (.two (.agg Y Y Y Y ZL Y Y<|pwB Y)<|rb Y))
theorem Zbp {s : api_Series} {at_ : Int} {long : Int} {r : api_Sample × Bool × Int} (h : Xs s at_ long = some r) :
 CSpec Tryd.prog (gl0 Gx) 29 [.agg [.int .i64 s.Den, .sl 44 (List.map R44 s.Samples)], .int .i64 at_, .int .i64 long] (.tuple [.agg [.int .i64 r.1.At, .int .i64 r.1.N, .int .i64 r.1.Mark], .bool r.2.1, .int .i64 r.2.2]) := by
 unfold Xs at h
 replace h := Qa h
 refine So Tryd.func29 Y fun w0 A=>Tr<|Rq Y (QB (cva<|ov Y) Y tZ_24 Y)<|Rx Y (ZN (row := [_, _, _]) 0 Y XD Y tZ_44)<|Ra Y<|Ra Y<|Za<|Zq<|K4 1 2 3 6 Y<|Tr<|Rq Y (Zu (ov Y) Qm Y Y)<|bE h fun y h_y h=>Rq Y (Zg (Jo h_y)<|.cons (ov Y) (.aggB Y) .nil)<|Ra Y<|Za<|K5 1 2 3 6 9 Y<|Tr<|Rm Y<|R2 X6 Y<|Za<|K6 1 2 3 6 9 15 Y<|If h Y (fun h=>?_) fun h=>?_
 ·
  refine K2 6 9 Y<|Tr<|Rq Y (ZK (ys := [_, _, _]) Jl Jq XD .nil Y)<|Rm Y<|Rx Y (Zo (ov Y) (ov Y) (Zj ZL Y) Y Y Y (Nat.le_of_ble_eq_true Y) (Zd Y) Y)<|Ra Y<|Ra Y<|Za<|?_
  obtain rfl := rt h
  exact Zl (Zt Y (.three (.agg Y Y Y Y ZL Y Y<|pwB Y) (rb Y)<|rb Y))
 ·
  refine Zi<|Zq<|K4 1 2 3 6 Y<|Tr<|Rm Y<|bE h fun y2 h_y2 h=>Rq Y (Zg (Z0 h_y2)<|.cons (ov Y) (.b Y)<|.cons (ov Y) (.b Y)<|.cons (ov Y) (.b Y) .nil)<|R1 XW Y<|Rm Y<|Rq Y (.guarded ((!y2) == false) Y Y Y Y fun h => Zk<|ov Y)<|bE h fun y3 h_y3 h=>Rq Y (.guarded ((!y2) == false) Y Y Y Y fun h => Zg (Z0<|gdT h_y3 h)<|.cons (ow Y h) (.b Y)<|.cons (ov Y) (.b Y)<|.cons (ov Y) (.b Y) .nil)<|Rq Y (.guarded ((!y2) == false) Y Y Y Y fun h => XW<|ow Y h)<|Rq Y (X3 (ov Y) fun hp=>ow Y<|gF hp)<|Za<|K5 1 2 3 6 25 Y<|If h Y (fun h=>?_) fun h=>?_
  ·
   refine K1 6 Y<|Tr<|Rq Y (ZK (ys := [_, _, _]) Jl Jq XD .nil Y)<|Rx Y (Zo (ov Y) (ov Y) (Zj ZL Y) Y Y Y (Nat.le_of_ble_eq_true Y) (Zd Y) Y)<|Ra Y<|Ra Y<|Za<|?_
   obtain rfl := rt h
   exact Zl (Zt Y (.three (.agg Y Y Y Y ZL Y Y<|pwB Y) (rb Y)<|rb Y))
  ·
   refine Zi<|K4 1 2 3 6 Y<|Tr<|Rq Y (Zu (ov Y) Qm Y Y)<|Rm Y<|Rm Y<|bE h fun y4 h_y4 h=>Rq Y (Zg (Zbz h_y4)<|.cons (ov Y) (.aggB Y)<|.cons (ov Y) (.b Y)<|.cons (ov Y) (.b Y) .nil)<|Rm Y<|Rq Y (Zc (ov Y) Y)<|Rq Y (Zc (ov Y) Y)<|Rx Y (ZN (row := [_, _, _]) 1 Y XD Y tZ_44)<|Rx Y (Zo (ov Y) (ov Y) (Zj ZL Y) Y Y Y (Nat.le_of_ble_eq_true Y) (Zd Y) Y)<|Ra Y<|Za<|K3 6 10 11 Y<|Tr<|Rq Y (Qe (ov Y) Y Y Y ZL Y Y)<|Rm Y<|Rx Y (Zo (ov Y) (ov Y) (Zj ZL Y) Y Y Y (Nat.le_of_ble_eq_true Y) (Zd Y) Y)<|Ra Y<|Ra Y<|Za<|?_
   obtain rfl := rt h
   exact Zl (Zt Y (.three (.agg Y Y Y Y ZL Y Y<|pwB Y) (rb Y)<|rb Y))
theorem JW  {r : Bool} (h : Xe  = some r) :
 CSpec Tryd.prog (gl0 Gx) 9 [] (.bool r) := by
 unfold Xe at h
 replace h := Qa h
 refine So Tryd.func9 Y fun w0 A=>Tr<|Ra Y<|Za<|K0<|Tr<|Rq Y (ZK (ys := [_, _, _]) Jl Jq XD (.cons (cvs (ov Y)<|ZE Y)<|.cons (cvs (ov Y)<|ZE Y)<|.cons (cvs (ov Y)<|ZE Y) .nil) Y)<|R_q (.sl 44<|List.map R44 ([(api_Sample.mk 5 7 4)] : List api_Sample)) Y (Zap Xh (.cons (cva<|ov Y) Y (pwD Y) .nil) Y Y)<|Rq Y (ZK (ys := [_, _]) Zae Zax JN (.cons (cvs (ov Y)<|ZE Y)<|.cons (cvs (ov Y)<|ZE Y) .nil) Y)<|bE h fun y h_y h=>Rq Y (Zg (Zbp h_y)<|.cons (ov Y) (.aggB Y)<|.cons (ov Y) (.b Y)<|.cons (ov Y) (.b Y) .nil)<|Rm Y<|Rq Y (Zc (ov Y) Y)<|Rq Y (Zc (ov Y) Y)<|Rq Y (Zc (ov Y) Y)<|Rx Y (ZN (row := [_, _, _]) 0 Y XD Y tZ_44)<|Rx Y (Zo (ov Y) (ov Y) (Zj ZL Y) Y Y Y (Nat.le_of_ble_eq_true Y) (Zd Y) Y)<|Ra Y<|Ra Y<|Za<|K3 1 2 3 Y<|Tr<|Rm Y<|Rm Y<|Rq Y (.guarded (y.2.1 == true) Y Y Y Y fun h => Zk<|ov Y)<|Rq Y (.guarded (y.2.1 == true) Y Y Y Y fun h => Xw (ow Y h)<|ov Y)<|Rq Y (Xa (ov Y) fun hp=>ow Y<|gT hp)<|Rm Y<|Rq Y (.guarded ((y.2.1 && (decide (y.2.2 = 0))) == true) Y Y Y Y fun h => Qe (ov Y) Y Y Y ZL Y Y)<|Rq Y (.guarded ((y.2.1 && (decide (y.2.2 = 0))) == true) Y Y Y Y fun h => ZK (ys := [_, _, _]) Jl Jq XD (.cons (cvs (ov Y)<|ZE Y)<|.cons (cvs (ov Y)<|ZE Y)<|.cons (cvs (ov Y)<|ZE Y) .nil) Y)<|Rq Y (.guarded ((y.2.1 && (decide (y.2.2 = 0))) == true) Y Y Y Y fun h => Zf8 Zgz (ow Y h) (ow Y h) (.aggB Y) (.aggB Y) Y Y)<|Rq Y (Xa (ov Y) fun hp=>ow Y<|gT hp)<|Ra Y<|Za<|?_
 obtain rfl := rt h
 exact Zl (Zt Y (.one<|rb Y))
theorem Xu {s : api_Series} {text : Str} {r : Bool} (h : ZJ s text = some r) :
 CSpec Tryd.prog (gl0 Gx) 3 [.agg [.int .i64 s.Den, .sl 44 (List.map R44 s.Samples)], .str text] (.bool r) := by
 unfold ZJ at h
 replace h := Qa h
 refine So Tryd.func3 Y fun w0 A=>Tr<|Rq Y (QB (cva<|ov Y) Y tZ_24 Y)<|Ra Y<|Za<|K2 1 2 Y<|Tr<|Rq Y (Zu (ov Y) Qm Y Y)<|bE h fun y h_y h=>Rq Y (Zg (Za3 h_y)<|.cons (ov Y) (.aggB Y) .nil)<|Rm Y<|Rq Y (Zc (ov Y) Y)<|Rq Y (Zc (ov Y) Y)<|Ra Y<|Ra Y<|Za<|K4 1 2 5 6 Y<|Tr<|Rq Y (Zu (ov Y) Qm Y Y)<|bE h fun y2 h_y2 h=>Rq Y (Zg (ZbM h_y2)<|.cons (ov Y) (.aggB Y) .nil)<|Rm Y<|Rq Y (Zc (ov Y) Y)<|Rq Y (Zc (ov Y) Y)<|Ra Y<|Ra Y<|Za<|Zq<|K6 1 2 5 6 7 8 Y<|Tr<|Rm Y<|Rm Y<|R2 Jb Y<|Rm Y<|Rq Y (.guarded ((!decide (y.1 = y2.1)) == false) Y Y Y Y fun h => Zk<|ov Y)<|Rq Y (.guarded ((!decide (y.1 = y2.1)) == false) Y Y Y Y fun h => Zk<|ov Y)<|Rq Y (.guarded ((!decide (y.1 = y2.1)) == false) Y Y Y Y fun h => X6 (ow Y h)<|ow Y h)<|Rq Y (X3 (ov Y) fun hp=>ow Y<|gF hp)<|Za<|K5 1 2 5 6 35 Y<|If h Y (fun h=>?_) fun h=>?_
 ·
  refine K0<|Tr<|Ra Y<|Za<|?_
  obtain rfl := rt h
  exact Zl (Zt Y (.one<|rb Y))
 ·
  refine Zi<|K4 1 2 5 6 Y<|Tr<|Rm Y<|bE h fun y3 h_y3 h=>Rq Y (Zg (Jp h_y3)<|.cons (ov Y) (.b Y) .nil)<|Rm Y<|Rq Y (Zc (ov Y) Y)<|Rq Y (Zc (ov Y) Y)<|Rq Y (Zc (ov Y) Y)<|Rx Y (ZN (row := [_, _]) 0 Y JN Y tZ_24)<|Rx Y (Zo (ov Y) (ov Y) (Zj Qm Y) Y Y Y (Nat.le_of_ble_eq_true Y) (Zd Y) Y)<|Ra Y<|Ra Y<|Za<|K7 1 2 5 6 9 10 11 Y<|Tr<|Rm Y<|bE h fun y4 h_y4 h=>Rq Y (Zg (ZbH h_y4)<|.cons (ov Y) (.b Y) .nil)<|Rm Y<|Rq Y (Zc (ov Y) Y)<|Rq Y (Zc (ov Y) Y)<|Rq Y (Zc (ov Y) Y)<|Rx Y (ZN (row := [_, _]) 1 Y JN Y tZ_24)<|Rx Y (Zo (ov Y) (ov Y) (Zj Qm Y) Y Y Y (Nat.le_of_ble_eq_true Y) (Zd Y) Y)<|Ra Y<|Ra Y<|Za<|Zq<|K9 2 5 6 9 10 11 12 13 14 Y<|Td md0<|Dq 0 Y (Qe (ov Y) Y Y Y Qm Y Y)<|D1 1 Zk Y<|bE h fun y5 h_y5 h=>Dq 2 Y (Zg (XA h_y5)<|.cons (ov Y) (.aggB Y)<|.cons (ov Y) (.b Y) .nil)<|Dq 3 Y (Qe (ov Y) Y Y Y Qm Y Y)<|D1 4 Zk Y<|bE h fun y6 h_y6 h=>Dq 5 Y (Zg (XA h_y6)<|.cons (ov Y) (.aggB Y)<|.cons (ov Y) (.b Y) .nil)<|D2 6 Jb Y<|D1 7 Zk Y<|Dq 8 Y (.guarded ((!decide (y5 = y6)) == false) Y Y Y Y fun h => Zk<|ov Y)<|Dq 9 Y (.guarded ((!decide (y5 = y6)) == false) Y Y Y Y fun h => Zk<|ov Y)<|Dq 10 Y (.guarded ((!decide (y5 = y6)) == false) Y Y Y Y fun h => X6 (ow Y h)<|ow Y h)<|Dq 11 Y (X3 (ov Y) fun hp=>ow Y<|gF hp)<|Dd<|K4 2 5 6 59 Y<|If h Y (fun h=>?_) fun h=>?_
  ·
   refine K0<|Tr<|Ra Y<|Za<|?_
   obtain rfl := rt h
   exact Zl (Zt Y (.one<|rb Y))
  ·
   refine Zi<|Zq<|K3 2 5 6 Y<|Tr<|Rm Y<|R2 Xw Y<|Za<|K3 2 5 61 Y<|If h Y (fun h=>?_) fun h=>?_
   ·
    refine K2 2 5 Y<|Tr<|Rm Y<|bE h fun y7 h_y7 h=>Rq Y (Zg (Jp h_y7)<|.cons (ov Y) (.b Y) .nil)<|Rm Y<|Rq Y (Zc (ov Y) Y)<|Rq Y (Zc (ov Y) Y)<|Rq Y (Zc (ov Y) Y)<|Rx Y (ZN (row := [_, _]) 2 Y JN Y tZ_24)<|Rx Y (Zo (ov Y) (ov Y) (Zj Qm Y) Y Y Y (Nat.le_of_ble_eq_true Y) (Zd Y) Y)<|Ra Y<|Ra Y<|Za<|K4 2 15 16 17 Y<|Td md0<|Dq 0 Y (Qe (ov Y) Y Y Y Qm Y Y)<|D1 1 Zk Y<|bE h fun y8 h_y8 h=>Dq 2 Y (Zg (XA h_y8)<|.cons (ov Y) (.aggB Y)<|.cons (ov Y) (.b Y) .nil)<|Dq 3 Y (Zu (ov Y) Qm Y Y)<|bE h fun y9 h_y9 h=>Dq 4 Y (Zg (XA h_y9)<|.cons (ov Y) (.aggB Y)<|.cons (ov Y) (.b Y) .nil)<|D2 5 Jb Y<|D1 6 Zk Y<|Dq 7 Y (.guarded ((!decide (y8 = y9)) == false) Y Y Y Y fun h => Zk<|ov Y)<|Dq 8 Y (.guarded ((!decide (y8 = y9)) == false) Y Y Y Y fun h => X6 (ow Y h)<|ov Y)<|Dq 9 Y (X3 (ov Y) fun hp=>ow Y<|gF hp)<|Dd<|K1 77 Y<|If h Y (fun h=>?_) fun h=>?_
    ·
     refine K0<|Tr<|Ra Y<|Za<|?_
     obtain rfl := rt h
     exact Zl (Zt Y (.one<|rb Y))
    ·
     refine Zi<|K0<|Tr<|bE h fun y10 h_y10 h=>Rq Y (Zg (JW h_y10) .nil)<|Ra Y<|Za<|?_
     obtain rfl := rt h
     exact Zl (Zt Y (.one<|rb Y))
   ·
    refine Zi<|K0<|Tr<|bE h fun y11 h_y11 h=>Rq Y (Zg (JW h_y11) .nil)<|Ra Y<|Za<|?_
    obtain rfl := rt h
    exact Zl (Zt Y (.one<|rb Y))
end Go.Proofs.YtieneanhpdhfiaaDoor
