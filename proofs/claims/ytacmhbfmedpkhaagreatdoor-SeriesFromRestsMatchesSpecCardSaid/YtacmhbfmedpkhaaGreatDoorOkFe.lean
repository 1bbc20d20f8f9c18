/- A text of the proof: a verified executor of the program form, or the contracts of the functions that the law reaches. -/
import Derived.Test.YtacmhbfmedpkhaaGreatDoorOkFd
set_option linter.all false
namespace Go.Proofs.YtacmhbfmedpkhaaGreatDoor
open Go Go.Vx
set_option maxRecDepth 10000
set_option maxHeartbeats 1000000
set_option linter.unusedVariables false
theorem Zii {c_ : api_Cell} {first : Int} {r : (List api_Where)} (h : ZbY c_ first = some r) :
 CSpec Tryz.prog gl0 77 [.agg [.int .i64 c_.Param, .int .i64 c_.Index, .int .i64 c_.Frame, .sl 115 (List.map R115 c_.Places)], .int .i64 first] (.sl 129 (List.map R129 r)) := by
 unfold ZbY at h
 replace h := ZE h
 refine So Tryz.func77 Y fun w0 A=>Tr<|Rq Y (Zv (cva<|ov Y) Y tZ_85 Y)<|Ra Y<|Za<|K2 1 2 Y<|Tr<|Ra Y<|Za<|I1 (fun out=>⟨[(5, .sl 129 (List.map R129 out))], []⟩) h (fun h=>?_) fun out h=>?_
 ·
  refine Tr<|Ra Y<|Za<|Zf<|?_
  obtain ⟨r1, hl1, ho1⟩ := Z1 h
  refine L2 (fun out2 i=>⟨[(1, .int .i64 first), (2, .rp [.int .i64 c_.Param, .int .i64 c_.Index, .int .i64 c_.Frame, .sl 115 (List.map R115 c_.Places)] 0), (5, .sl 129 (List.map R129 out2)), (6, .int .i64 i)], []⟩) hl1 (ES []) fun n1 out2 i h=>?_
  unfold ZbG at h
  refine Zj<|Tr<|Rm Y<|Rq Y (Zc (ov Y) Zcr)<|Rq Y (Zb (ov Y) Zhy Y)<|Rl tZ_115 ZgN Y<|R2 Zw Y<|Za<|K5 1 2 5 6 14 Y<|If h Y (fun h=>?_) fun h=>?_
  ·
   refine Ze<|I1 (fun out3=>⟨[(1, .int .i64 first), (2, .rp [.int .i64 c_.Param, .int .i64 c_.Index, .int .i64 c_.Frame, .sl 115 (List.map R115 c_.Places)] 0), (5, .sl 129 (List.map R129 out3)), (6, .int .i64 i)], []⟩) h (fun h=>?_) fun out3 h=>?_
   ·
    refine Zf<|K4 1 2 5 6 Y<|Tr<|Rm Y<|Rq Y (Zc (ov Y) Zcr)<|Rq Y (Zb (ov Y) Zhy Y)<|Rm Y<|bE h fun x h_x h=>Rq Y (Zx (ov Y) (ov Y) ZgN h_x)<|Rq Y (Zc (ov Y) Zhm)<|Rq Y (Zb (ov Y) tS3 Y)<|R2 ZB Y<|Ra Y<|Za<|K5 1 2 5 6 7 Y<|Tr<|Rq Y (Zc (ov Y) Zcr)<|Rq Y (Zb (ov Y) Zhy Y)<|Rm Y<|bE h fun x2 h_x2 h=>Rq Y (Zx (ov Y) (ov Y) ZgN h_x2)<|Rq Y (Zc (ov Y) Zf0)<|Rq Y (Zb (ov Y) tS3 Y)<|R_q (.agg<|List.map C3 (#v[3, x2.Word] : Vector Int 2).toList) Y (Zjm (ys := [_, _]) ZqE Zr1 (.cons (cvs (ov Y)<|Zp Y)<|.cons (cvs (ov Y)<|Zp Y) .nil) Y)<|Rm Y<|Za<|Zf<|?_
    obtain ⟨r2, hl2, ho2⟩ := Z1 h
    refine L2 (fun out4 i2=>⟨[(1, .int .i64 first), (2, .rp [.int .i64 c_.Param, .int .i64 c_.Index, .int .i64 c_.Frame, .sl 115 (List.map R115 c_.Places)] 0), (5, .sl 129 (List.map R129 out4)), (6, .int .i64 i), (7, .int .i64 (i64 (first + x.Frame))), (31, .agg (List.map C3 (#v[3, x2.Word] : Vector Int 2).toList)), (32, .int .i64 i2)], []⟩) hl2 (ES []) fun n2 out4 i2 h=>?_
    unfold Qi at h
    refine Tr<|R2 Zw Y<|Za<|Zj<|If h Y (fun h=>?_) fun h=>?_
    ·
     exact Ze<|Zj<|Zf<|K7 1 2 5 6 7 31 32 Y<|Tr<|bE h fun x3 h_x3 h=>Rq Y (Zep (ov Y) (ov Y) ZqE tS3 h_x3)<|Ra Y<|Za<|K8 1 2 5 6 7 9 31 32 Y<|Zs<|Rm Y<|Rm Y<|Rm Y<|Rq Y (ZA (ys := [_, _]) ZoW Zn3 Zql (.cons (cvs (ov Y)<|Zp Y)<|.cons (cvs (ov Y)<|Zp Y) .nil) Y)<|bE h fun y h_y h=>Rq Y (Zl (ZhR h_y)<|.cons (ov Y) (.b Y)<|.cons (ov Y) (.aggB Y) .nil)<|Ra Y<|Za<|K7 1 2 5 6 7 31 32 Y<|Zs<|R2 ZB Y<|Rm Y<|Za<|⟨_, h, ES []⟩
    ·
     refine Zu<|?_
     replace h := lx h ▸ ho2
     exact ⟨_, h, ES []⟩
   ·
    exact Zs<|Rm Y<|R2 ZB Y<|Ra Y<|Za<|⟨_, h, ES []⟩
  ·
   refine Zu<|?_
   replace h := lx h ▸ ho1
   exact ⟨_, h, ES []⟩
 ·
  refine Tr<|Rm Y<|Ra Y<|Za<|?_
  obtain rfl := rt h
  exact Zi (Zq Y (.one<|rb Y))
theorem Zhp {l : List api_Rest} {x : api_Where} {r : Int × Int} (h : ZbS l x = some r) :
 CSpec Tryz.prog gl0 78 [.sl 56 (List.map R56 l), .agg [.int .i64 x.Number, .int .i64 x.Word]] (.tuple [.int .i64 r.1, .int .i64 r.2]) := by
 unfold ZbS at h
 replace h := ZE h
 refine So Tryz.func78 Y fun w0 A=>Tr<|Rq Y (Zv (cva<|ov Y) Y tZ_129 Y)<|Ra Y<|Ra Y<|Za<|J0 (fun j => (.inr j)) ⟨[], []⟩ h (fun h=>?_) fun h=>?_
 ·
  refine K2 0 3 Y<|Tr<|Ra Y<|Za<|Zf<|?_
  obtain ⟨r1, hl1, ho1⟩ := Z1 h
  refine L1 (fun i=>⟨[(0, .sl 56 (List.map R56 l)), (3, .rp [.int .i64 x.Number, .int .i64 x.Word] 0), (6, .int .i64 i)], []⟩) hl1 (ES []) fun n1 i h=>?_
  unfold JS at h
  refine Zj<|Tr<|Rm Y<|Rm Y<|Rl tZ_56 ZaE Y<|R2 Zw Y<|Za<|K4 0 3 6 10 Y<|If h Y (fun h=>?_) fun h=>?_
  ·
   refine Ze<|Zj<|Zf<|K3 0 3 6 Y<|Td md0<|D1 0 Zm Y<|D1 1 Zm Y<|bE h fun x2 h_x2 h=>Dq 2 Y (Zx (ov Y) (ov Y) ZaE h_x2)<|Dq 3 Y (Zc (ov Y) JW)<|Dq 4 Y (Zb (ov Y) tS3<|ZG at4)<|Dq 5 Y (Zc (ov Y) Zhn)<|Dq 6 Y (Zb (ov Y) tS3 Y)<|D2 7 Z4 Y<|Dd<|K4 0 3 6 20 Y<|If h Y (fun h=>?_) fun h=>?_
   ·
    refine K3 0 3 6 Y<|Td md0<|D1 0 Zm Y<|D1 1 Zm Y<|Dq 2 Y (Zc (ov Y) Zg9)<|Dq 3 Y (Zb (ov Y) tS3 Y)<|bE h fun x3 h_x3 h=>Dq 4 Y (Zx (ov Y) (ov Y) ZaE h_x3)<|Dq 5 Y (Zc (ov Y) Zd6)<|bE h fun x4 h_x4 h=>Dq 6 Y (QN (ov Y) (ov Y) ZbL h_x4)<|Dq 7 Y (Zb (ov Y) Zbz<|ZG<|Xb (o := 1) (o' := (x.Word.toNat * 1)) at6<|Xs h_x4)<|Dq 8 Y (J2 (ov Y) Zhs tI3 Y)<|D2 9 Zcp Y<|D1 10 Zm Y<|D1 11 Zm Y<|Dq 12 Y (Zc (ov Y) Zg9)<|Dq 13 Y (Zb (ov Y) tS3 Y)<|bE h fun x5 h_x5 h=>Dq 14 Y (Zx (ov Y) (ov Y) ZaE h_x5)<|Dq 15 Y (Zc (ov Y) ZgK)<|bE h fun x6 h_x6 h=>Dq 16 Y (QN (ov Y) (ov Y) Zme h_x6)<|Dq 17 Y (Zb (ov Y) tS3<|ZG<|Xb (o := 65) (o' := (x.Word.toNat * 1)) at5<|Xs h_x6)<|D1 18 Z6 Y<|D1 19 Z6 Y<|Dd<|?_
    replace h := lx h ▸ ho1
    obtain rfl := rt h
    exact Zi (Zq Y (.two (rb Y)<|rb Y))
   ·
    exact Ze<|K3 0 3 6 Y<|Zs<|Rm Y<|R2 ZB Y<|Ra Y<|Za<|⟨_, h, ES []⟩
  ·
   refine Zu<|?_
   replace h := lx h ▸ ho1
   exact ⟨_, h, ES []⟩
 ·
  replace h := elr h
  replace h := t0i h
  refine Tr<|Ra Y<|Ra Y<|Za<|?_
  obtain rfl := rt h
  exact Zi (Zq Y (.two (rb Y)<|rb Y))
theorem ZiK {p : api_Param} {raw : Int} {r : Int × Bool} (h : ZcS p raw = some r) :
 CSpec Tryz.prog gl0 102 [.agg [.str p.Name, .int .i64 p.Kind, .sl 121 (List.map Z9 p.Parts), .int .i64 p.First, .int .i64 p.Every, .int .i64 p.Times, .int .i64 p.Step, .sl 9 (List.map R9 p.Names)], .int .i64 raw] (.tuple [.int .i64 r.1, .bool r.2]) := by
 unfold ZcS at h
 replace h := ZE h
 refine So Tryz.func102 Y fun w0 A=>Tr<|Rq Y (Zv (cva<|ov Y) Y tZ_45 Y)<|Ra Y<|Ra Y<|Za<|K2 1 2 Y<|Tr<|Rq Y (Zh (ov Y) Q7 Y Y)<|bE h fun y h_y h=>Rq Y (Zl (Zdk h_y)<|.cons (ov Y) (.aggB Y) .nil)<|Ra Y<|Za<|K3 1 2 6 Y<|Tr<|Rm Y<|Ra Y<|Za<|J1 (fun j => (.inr j)) (fun v=>⟨[(7, .int .i64 v)], []⟩) h (fun h=>?_) fun v h=>?_
 ·
  refine K4 1 2 6 7 Y<|Tr<|Rq Y (Zc (ov Y) ZbZ)<|Rq Y (Zb (ov Y) tS3 Y)<|Za<|Zf<|K5 1 2 6 7 14 Y<|Tr<|R2 Z4 Y<|Ra Y<|Za<|K6 1 2 6 7 14 15 Y<|If h Y (fun h=>?_) fun h=>?_
  ·
   refine K3 1 6 7 Y<|Tr<|Rm Y<|Rm Y<|R2 ZaF Y<|bE h fun q h_q h=>Rq Y (ZaH (ov Y) (ov Y) h_q)<|R2 JP Y<|Za<|K4 1 6 7 21 Y<|If h Y (fun h=>?_) fun h=>?_
   ·
    exact K3 1 6 7 Y<|Zs<|Rm Y<|Rm Y<|bE h fun q2 h_q2 h=>Rq Y (ZaH (ov Y) (ov Y) h_q2)<|R2 ZaF Y<|Ra Y<|Za<|⟨_, h, ES []⟩
   ·
    exact Ze<|⟨_, h, ES []⟩
  ·
   refine K5 1 2 6 7 14 Y<|Tr<|R2 Z4 Y<|Ra Y<|Za<|K6 1 2 6 7 14 26 Y<|If h Y (fun h=>?_) fun h=>?_
   ·
    refine Zj<|K3 1 6 7 Y<|Tr<|Rm Y<|Rm Y<|R2 ZaF Y<|bE h fun q3 h_q3 h=>Rq Y (ZaH (ov Y) (ov Y) h_q3)<|R2 Z4 Y<|Za<|K4 1 6 7 32 Y<|If h Y (fun h=>?_) fun h=>?_
    ·
     refine K0<|Tr<|Ra Y<|Ra Y<|Za<|?_
     obtain rfl := rt h
     exact Zi (Zq Y (.two (rb Y)<|rb Y))
    ·
     refine Ze<|K3 1 6 7 Y<|Tr<|Rm Y<|Rm Y<|R2 ZaF Y<|bE h fun q4 h_q4 h=>Rq Y (ZaH (ov Y) (ov Y) h_q4)<|R2 Qj Y<|Za<|K4 1 6 7 37 Y<|If h Y (fun h=>?_) fun h=>?_
     ·
      exact K3 1 6 7 Y<|Zs<|Rm Y<|R2 ZaF Y<|bE h fun q5 h_q5 h=>Rq Y (ZaH (ov Y) (ov Y) h_q5)<|Rm Y<|R2 ZaF Y<|Ra Y<|Za<|⟨_, h, ES []⟩
     ·
      exact Ze<|⟨_, h, ES []⟩
   ·
    refine K5 1 2 6 7 14 Y<|Tr<|R2 Z4 Y<|Ra Y<|Za<|K6 1 2 6 7 14 43 Y<|If h Y (fun h=>?_) fun h=>?_
    ·
     refine K3 1 6 7 Y<|Tr<|Ra Y<|Za<|Tr<|Rm Y<|R2 ZaF Y<|Ra Y<|Za<|Zf<|?_
     obtain ⟨r1, hl1, ho1⟩ := Z1 h
     refine L2 (fun v2 k=>⟨[(1, .int .i64 raw), (7, .int .i64 v2), (8, .int .i64 k)], []⟩) hl1 (ES []) fun n1 v2 k h=>?_
     unfold ZaO at h
     refine Zj<|Tr<|Rm Y<|R2 JP Y<|Za<|K4 1 7 8 48 Y<|If h Y (fun h=>?_) fun h=>?_
     ·
      refine Ze<|Zj<|Zf<|K3 1 7 8 Y<|Tr<|Rm Y<|Rm Y<|bE h fun q6 h_q6 h=>Rq Y (Zft (ov Y) (ov Y) h_q6)<|R2 Zcp Y<|Ra Y<|Za<|Zj<|K4 1 7 8 9 Y<|Tr<|Rm Y<|R2 Qj Y<|Za<|K5 1 7 8 9 56 Y<|If h Y (fun h=>?_) fun h=>?_
      ·
       refine K0<|Tr<|Ra Y<|Ra Y<|Za<|?_
       replace h := lx h ▸ ho1
       obtain rfl := rt h
       exact Zi (Zq Y (.two (rb Y)<|rb Y))
      ·
       exact Ze<|K4 1 7 8 9 Y<|Zs<|Rm Y<|R2 Zck Y<|Rm Y<|R2 ZB Y<|Ra Y<|Za<|K3 1 7 8 Y<|Zs<|Rm Y<|R2 ZaF Y<|Ra Y<|Za<|⟨_, h, ES []⟩
     ·
      refine Zu<|?_
      replace h := lx h ▸ ho1
      exact ⟨_, h, ES []⟩
    ·
     refine K4 1 2 7 14 Y<|Tr<|R2 Z4 Y<|Ra Y<|Za<|K4 1 2 7 61 Y<|If h Y (fun h=>?_) fun h=>?_
     ·
      refine K3 1 2 7 Y<|Tr<|Rm Y<|Rq Y (Zc (ov Y) Zb1)<|Rq Y (Zb (ov Y) Zg0 Y)<|Rl tZ_9 Zeh Y<|R2 JP Y<|Za<|K2 7 67 Y<|If h Y (fun h=>?_) fun h=>?_
      ·
       refine K0<|Tr<|Ra Y<|Ra Y<|Za<|?_
       obtain rfl := rt h
       exact Zi (Zq Y (.two (rb Y)<|rb Y))
      ·
       exact Ze<|⟨_, h, ES []⟩
     ·
      exact Ze<|⟨_, h, ES []⟩
 ·
  replace h := elr h
  replace h := t1i h
  refine Tr<|Rm Y<|Ra Y<|Ra Y<|Za<|?_
  obtain rfl := rt h
  exact Zi (Zq Y (.two (rb Y)<|rb Y))
theorem ZiM {p : api_Param} {raw : Int} {r : Int × Bool × Int} (h : ZbW p raw = some r) :
 CSpec Tryz.prog gl0 79 [.agg [.str p.Name, .int .i64 p.Kind, .sl 121 (List.map Z9 p.Parts), .int .i64 p.First, .int .i64 p.Every, .int .i64 p.Times, .int .i64 p.Step, .sl 9 (List.map R9 p.Names)], .int .i64 raw] (.tuple [.int .i64 r.1, .bool r.2.1, .int .i64 r.2.2]) := by
 unfold ZbW at h
 replace h := ZE h
 refine So Tryz.func79 Y fun w0 A=>Tr<|Rq Y (Zv (cva<|ov Y) Y tZ_45 Y)<|Ra Y<|Ra Y<|Ra Y<|Za<|Zj<|K2 1 2 Y<|Tr<|Rq Y (Zh (ov Y) Q7 Y Y)<|bE h fun y h_y h=>Rq Y (Zl (ZdC h_y)<|.cons (ov Y) (.aggB Y) .nil)<|Ra Y<|Za<|K3 1 2 7 Y<|Tr<|Rm Y<|R2 QC Y<|Za<|K4 1 2 7 13 Y<|If h Y (fun h=>?_) fun h=>?_
 ·
  refine K1 7 Y<|Tr<|Rm Y<|Ra Y<|Ra Y<|Ra Y<|Za<|?_
  obtain rfl := rt h
  exact Zi (Zq Y (.three (rb Y) (rb Y)<|rb Y))
 ·
  refine Ze<|Zj<|K2 1 2 Y<|Tr<|Rm Y<|Rq Y (Zh (ov Y) Q7 Y Y)<|bE h fun y2 h_y2 h=>Rq Y (Zl (Zdk h_y2)<|.cons (ov Y) (.aggB Y) .nil)<|bE h fun q h_q h=>Rq Y (ZaH (ov Y) (ov Y) h_q)<|R2 ZaF Y<|bE h fun y3 h_y3 h=>Rq Y (Zl (QL h_y3)<|.cons (ov Y) (.b Y)<|.cons (ov Y) (.b Y)<|.cons (ov Y) (.b Y) .nil)<|Za<|K3 1 2 20 Y<|If h Y (fun h=>?_) fun h=>?_
  ·
   refine K0<|Tr<|Ra Y<|Ra Y<|Ra Y<|Za<|?_
   obtain rfl := rt h
   exact Zi (Zq Y (.three (rb Y) (rb Y)<|rb Y))
  ·
   refine Ze<|K2 1 2 Y<|Tr<|Rq Y (Zh (ov Y) Q7 Y Y)<|Rm Y<|bE h fun y4 h_y4 h=>Rq Y (Zl (ZiK h_y4)<|.cons (ov Y) (.aggB Y)<|.cons (ov Y) (.b Y) .nil)<|Rm Y<|Rq Y (Zr (ov Y) Y)<|Rq Y (Zr (ov Y) Y)<|Ra Y<|Ra Y<|Za<|K2 8 9 Y<|Tr<|Rm Y<|Rm Y<|Ra Y<|Ra Y<|Ra Y<|Za<|?_
   obtain rfl := rt h
   exact Zi (Zq Y (.three (rb Y) (rb Y)<|rb Y))
theorem ZiO {m : api_Map} {c_ : api_Cell} {first : Int} {l : List api_Rest} {r : Int × Int} (h : ZcU m c_ first l = some r) :
 CSpec Tryz.prog gl0 46 [.agg [.int .i64 m.Version, .sl 45 (List.map R45 m.Params)], .agg [.int .i64 c_.Param, .int .i64 c_.Index, .int .i64 c_.Frame, .sl 115 (List.map R115 c_.Places)], .int .i64 first, .sl 56 (List.map R56 l)] (.tuple [.int .i64 r.1, .int .i64 r.2]) := by
 unfold ZcU at h
 replace h := ZE h
 refine So Tryz.func46 Y fun w0 A=>Tr<|Rq Y (Zv (cva<|ov Y) Y tZ_24 Y)<|Rq Y (Zv (cva<|ov Y) Y tZ_85 Y)<|Ra Y<|Ra Y<|Za<|K4 2 3 4 5 Y<|Tr<|Rq Y (Zh (ov Y) Ze6 Y Y)<|Rm Y<|bE h fun y h_y h=>Rq Y (Zl (Zii h_y)<|.cons (ov Y) (.aggB Y)<|.cons (ov Y) (.b Y) .nil)<|Ra Y<|Za<|K5 2 3 4 5 10 Y<|Tr<|Ra Y<|Za<|J1 (fun j => (.inr j)) (fun least=>⟨[(2, .int .i64 first), (3, .sl 56 (List.map R56 l)), (4, .rp [.int .i64 m.Version, .sl 45 (List.map R45 m.Params)] 0), (5, .rp [.int .i64 c_.Param, .int .i64 c_.Index, .int .i64 c_.Frame, .sl 115 (List.map R115 c_.Places)] 0), (11, .int .i64 least)], []⟩) h (fun h=>?_) fun least h=>?_
 ·
  refine Tr<|Ra Y<|Za<|Zf<|?_
  obtain ⟨r1, hl1, ho1⟩ := Z1 h
  refine L2 (fun least2 i=>⟨[(2, .int .i64 first), (3, .sl 56 (List.map R56 l)), (4, .rp [.int .i64 m.Version, .sl 45 (List.map R45 m.Params)] 0), (5, .rp [.int .i64 c_.Param, .int .i64 c_.Index, .int .i64 c_.Frame, .sl 115 (List.map R115 c_.Places)] 0), (10, .sl 129 (List.map R129 y)), (11, .int .i64 least2), (12, .int .i64 i)], []⟩) hl1 (ES []) fun n1 least2 i h=>?_
  unfold ZaK at h
  refine Zj<|Tr<|Rm Y<|Rm Y<|Rl tZ_129 Zde Y<|R2 Zw Y<|Za<|K8 2 3 4 5 10 11 12 29 Y<|If h Y (fun h=>?_) fun h=>?_
  ·
   refine Ze<|Zj<|Zf<|K7 2 3 4 5 10 11 12 Y<|Tr<|Rm Y<|Rm Y<|Rm Y<|bE h fun x h_x h=>Rq Y (Zx (ov Y) (ov Y) Zde h_x)<|Rq Y (Zh (ov Y) ZjR Y Y)<|bE h fun y2 h_y2 h=>Rq Y (Zl (Zhp h_y2)<|.cons (ov Y) (.b Y)<|.cons (ov Y) (.aggB Y) .nil)<|Rm Y<|Rq Y (Zr (ov Y) Y)<|Rq Y (Zr (ov Y) Y)<|Ra Y<|Ra Y<|Za<|K9 2 3 4 5 10 11 12 13 14 Y<|Tr<|Rm Y<|Rm Y<|Rq Y (Zsg (ov Y) (ov Y) Y)<|Ra Y<|Za<|K9 2 3 4 5 10 11 12 13 14 Y<|Tr<|Rm Y<|R2 QC Y<|Rm Y<|Rq Y (.guarded ((!decide (y2.2 = 0)) == true) Y Y Y Y fun h => Zm<|ov Y)<|Rq Y (.guarded ((!decide (y2.2 = 0)) == true) Y Y Y Y fun h => Zm<|ov Y)<|bE h fun x2 h_x2 h=>Rq Y (.guarded ((!decide (y2.2 = 0)) == true) Y Y Y Y fun h => Zx (ow Y h) (ow Y h) Zde<|gdT h_x2 h)<|Rq Y (.guarded ((!decide (y2.2 = 0)) == true) Y Y Y Y fun h => Zc (ow Y h) Zg9)<|Rq Y (.guarded ((!decide (y2.2 = 0)) == true) Y Y Y Y fun h => Zb (ow Y h) tS3 Y)<|Rq Y (.guarded ((!decide (y2.2 = 0)) == true) Y Y Y Y fun h => Z4 (ow Y h)<|ov Y)<|Rq Y (Ql (ov Y) fun hp=>ow Y<|gT hp)<|Rm Y<|Rq Y (.guarded (((!decide (y2.2 = 0)) && (decide (x2.Word = 3))) == true) Y Y Y Y fun h => Zm<|ov Y)<|Rq Y (.guarded (((!decide (y2.2 = 0)) && (decide (x2.Word = 3))) == true) Y Y Y Y fun h => Zc (ov Y) ZkK)<|Rq Y (.guarded (((!decide (y2.2 = 0)) && (decide (x2.Word = 3))) == true) Y Y Y Y fun h => Zb (ow Y h) tS3 Y)<|Rq Y (.guarded (((!decide (y2.2 = 0)) && (decide (x2.Word = 3))) == true) Y Y Y Y fun h => QC (ow Y h)<|ow Y h)<|Rq Y (Ql (ov Y) fun hp=>ow Y<|gT hp)<|Za<|K8 2 3 4 5 10 11 12 59 Y<|If h Y (fun h=>?_) fun h=>?_
   ·
    refine K0<|Tr<|Ra Y<|Ra Y<|Za<|?_
    replace h := lx h ▸ ho1
    obtain rfl := rt h
    exact Zi (Zq Y (.two (rb Y)<|rb Y))
   ·
    exact Ze<|K7 2 3 4 5 10 11 12 Y<|Zs<|Rm Y<|R2 ZB Y<|Ra Y<|Za<|⟨_, h, ES []⟩
  ·
   refine Zu<|?_
   replace h := lx h ▸ ho1
   exact ⟨_, h, ES []⟩
 ·
  replace h := elr h
  replace h := t1i h
  refine Zj<|Tr<|Rm Y<|R2 Z4 Y<|Za<|K6 2 3 4 5 11 61 Y<|If h Y (fun h=>?_) fun h=>?_
  ·
   refine K0<|Tr<|Ra Y<|Ra Y<|Za<|?_
   obtain rfl := rt h
   exact Zi (Zq Y (.two (rb Y)<|rb Y))
  ·
   refine Ze<|K5 2 3 4 5 11 Y<|Tr<|Ra Y<|Za<|I1 (fun raw=>⟨[(4, .rp [.int .i64 m.Version, .sl 45 (List.map R45 m.Params)] 0), (5, .rp [.int .i64 c_.Param, .int .i64 c_.Index, .int .i64 c_.Frame, .sl 115 (List.map R115 c_.Places)] 0), (11, .int .i64 least), (15, .int .i64 raw)], []⟩) h (fun h=>?_) fun raw h=>?_
   ·
    refine Tr<|Ra Y<|Za<|Zf<|?_
    obtain ⟨r2, hl2, ho2⟩ := Z1 h
    refine L2 (fun raw2 i2=>⟨[(2, .int .i64 first), (3, .sl 56 (List.map R56 l)), (4, .rp [.int .i64 m.Version, .sl 45 (List.map R45 m.Params)] 0), (5, .rp [.int .i64 c_.Param, .int .i64 c_.Index, .int .i64 c_.Frame, .sl 115 (List.map R115 c_.Places)] 0), (11, .int .i64 least), (15, .int .i64 raw2), (16, .int .i64 i2)], []⟩) hl2 (ES []) fun n2 raw2 i2 h=>?_
    unfold XV at h
    refine Zj<|Tr<|Rm Y<|Rq Y (Zc (ov Y) Zcr)<|Rq Y (Zb (ov Y) Zhy Y)<|Rl tZ_115 ZgN Y<|R2 Zw Y<|Za<|K8 2 3 4 5 11 15 16 66 Y<|If h Y (fun h=>?_) fun h=>?_
    ·
     exact Ze<|Zj<|Zf<|K7 2 3 4 5 11 15 16 Y<|Tr<|Rq Y (Zc (ov Y) Zcr)<|Rq Y (Zb (ov Y) Zhy Y)<|Rm Y<|bE h fun x3 h_x3 h=>Rq Y (Zx (ov Y) (ov Y) ZgN h_x3)<|Rq Y (Zh (ov Y) ZfC Y Y)<|Rx Y (Zt (row := [_, _, _, _]) 0 Y Zi5 Y tZ_115)<|Rx Y (Zo (ov Y) (ov Y) (Zk ZfC Y) Y Y Y (Nat.le_of_ble_eq_true Y) (Zd Y) Y)<|Za<|K8 2 3 4 5 11 15 16 17 Y<|Tr<|Rm Y<|Rm Y<|Rq Y (Zg (ov Y) Y Y Zhm)<|Rq Y (Zn (ov Y) Y Y Y tS3 Y)<|R2 ZB Y<|Rq Y (Zg (ov Y) Y Y Zf0)<|Rq Y (Zn (ov Y) Y Y Y tS3 Y)<|Rq Y (ZA (ys := [_, _]) ZoW Zn3 Zql (.cons (cvs (ov Y)<|Zp Y)<|.cons (cvs (ov Y)<|Zp Y) .nil) Y)<|bE h fun y3 h_y3 h=>Rq Y (Zl (Zhp h_y3)<|.cons (ov Y) (.b Y)<|.cons (ov Y) (.aggB Y) .nil)<|Rm Y<|Rq Y (Zr (ov Y) Y)<|Rq Y (Zr (ov Y) Y)<|Ra Y<|Ra Y<|Za<|K9 2 3 4 5 11 15 16 17 18 Y<|ZgH (cw := md0) (by kernel_rfl)<|D1 0 Zm Y<|Dq 1 Y (Zg (ov Y) Y Y Zf3)<|Dq 2 Y (Zn (ov Y) Y Y Y tS3 Y)<|bE h fun q h_q h=>Dq 3 Y (ZaH (ov Y) (ov Y) h_q)<|D1 4 Zm Y<|Dq 5 Y (Zg (ov Y) Y Y Zg7)<|Dq 6 Y (Zn (ov Y) Y Y Y tS3 Y)<|bE h fun q2 h_q2 h=>Dq 7 Y (Zft (ov Y) (ov Y) h_q2)<|Dq 8 Y (Zg (ov Y) Y Y Zf3)<|Dq 9 Y (Zn (ov Y) Y Y Y tS3 Y)<|bE h fun q3 h_q3 h=>Dq 10 Y (ZaH (ov Y) (ov Y) h_q3)<|D2 11 ZaF Y<|D2 12 Zcp Y<|D2 13 Zl0 Y<|D1 14 Z6 Y<|Dd<|K7 2 3 4 5 11 15 16 Y<|Zs<|Rm Y<|R2 ZB Y<|Ra Y<|Za<|⟨_, h, ES []⟩
    ·
     refine Zu<|?_
     replace h := lx h ▸ ho2
     exact ⟨_, h, ES []⟩
   ·
    refine Tr<|Rq Y (Zc (ov Y) ZaA)<|Rq Y (Zb (ov Y) Ze4 Y)<|Rq Y (Zc (ov Y) Zn6)<|Rq Y (Zb (ov Y) tS3 Y)<|bE h fun x4 h_x4 h=>Rq Y (Zx (ov Y) (ov Y) ZbX h_x4)<|Rq Y (Zh (ov Y) Q7 Y Y)<|Rm Y<|bE h fun y4 h_y4 h=>Rq Y (Zl (ZiM h_y4)<|.cons (ov Y) (.aggB Y)<|.cons (ov Y) (.b Y) .nil)<|Rm Y<|Rq Y (Zr (ov Y) Y)<|Rq Y (Zr (ov Y) Y)<|Rq Y (Zr (ov Y) Y)<|Ra Y<|Ra Y<|Ra Y<|Za<|Zj<|K3 11 20 21 Y<|Tr<|Rm Y<|R1 Z0 Y<|Za<|K3 11 20 113 Y<|If h Y (fun h=>?_) fun h=>?_
    ·
     refine K0<|Tr<|Ra Y<|Ra Y<|Za<|?_
     obtain rfl := rt h
     exact Zi (Zq Y (.two (rb Y)<|rb Y))
    ·
     refine Ze<|K2 11 20 Y<|Tr<|Rm Y<|Rm Y<|R2 ZB Y<|Ra Y<|Ra Y<|Za<|?_
     obtain rfl := rt h
     exact Zi (Zq Y (.two (rb Y)<|rb Y))
theorem Zkm {m : api_Map} {n : Int} {l : List api_Rest} {r : api_Series × Bool} (h : ZfU m n l = some r) :
 CSpec Tryz.prog gl0 22 [.agg [.int .i64 m.Version, .sl 45 (List.map R45 m.Params)], .int .i64 n, .sl 56 (List.map R56 l)] (.tuple [.agg [.int .i64 r.1.Den, .sl 59 (List.map R59 r.1.Samples)], .bool r.2]) := by
 unfold ZfU at h
 replace h := ZE h
 refine So Tryz.func22 Y fun w0 A=>Tr<|Rq Y (Zv (cva<|ov Y) Y tZ_24 Y)<|Rx Y (Zt (row := [_, _]) 0 Y X7 Y tZ_31)<|Ra Y<|Za<|K4 1 2 3 6 Y<|Tr<|Rq Y (ZA (ys := [_, _]) Jz JB X7 (.cons (cvs (ov Y)<|Zp Y) .nil) Y)<|Rx Y (Zt (row := [_, _]) 1 Y X7 Y tZ_31)<|Rx Y (Zo (ov Y) (ov Y) (Zk ZY Y) Y Y Y (Nat.le_of_ble_eq_true Y) (Zd Y) Y)<|Za<|Zj<|K5 1 2 3 6 8 Y<|Tr<|Rm Y<|Rl tZ_56 ZaE Y<|R2 Z4 Y<|Za<|K6 1 2 3 6 8 21 Y<|If h Y (fun h=>?_) fun h=>?_
 ·
  refine K2 6 8 Y<|Tr<|Rq Y (ZL (ov Y) Y Y Y ZY Y Y)<|Rx Y (Zo (ov Y) (ov Y) (Zk ZY Y) Y Y Y (Nat.le_of_ble_eq_true Y) (Zd Y) Y)<|Ra Y<|Za<|?_
  obtain rfl := rt h
  exact Zi (Zq Y (.two (.agg Y Y Y Y ZY Y Y<|.cons (Dat.view<|.b Y)<|.cons (View.nils 59) .nil)<|rb Y))
 ·
  refine Ze<|K5 1 2 3 6 8 Y<|Tr<|Rq Y (Zh (ov Y) Zf6 Y Y)<|Rm Y<|bE h fun y h_y h=>Rq Y (Zl (Zil h_y)<|.cons (ov Y) (.aggB Y)<|.cons (ov Y) (.b Y) .nil)<|Ra Y<|Za<|K6 1 2 3 6 8 9 Y<|Tr<|Rm Y<|bE h fun x h_x h=>Rq Y (Zx (ov Y) (ov Y) ZaE h_x)<|Rq Y (Zc (ov Y) JW)<|Rq Y (Zb (ov Y) tS3<|ZG at4)<|bE h fun q h_q h=>Rq Y (Zcz (ov Y) (ov Y) h_q)<|R2 Zck Y<|Ra Y<|Za<|K7 1 2 3 6 8 9 10 Y<|Tr<|Rm Y<|Rm Y<|Rl tZ_56 ZaE Y<|R2 ZaF Y<|bE h fun x2 h_x2 h=>Rq Y (Zx (ov Y) (ov Y) ZaE h_x2)<|Rq Y (Zc (ov Y) JW)<|Rq Y (Zb (ov Y) tS3<|ZG at4)<|bE h fun q2 h_q2 h=>Rq Y (Zcz (ov Y) (ov Y) h_q2)<|R2 Zck Y<|Ra Y<|Za<|Zj<|K8 1 2 3 6 8 9 10 11 Y<|Tr<|Rm Y<|Rm Y<|R2 ZaF Y<|bE h fun q3 h_q3 h=>Rq Y (Zcz (ov Y) (ov Y) h_q3)<|R2 ZB Y<|Rm Y<|Rl tZ_85 Zbq Y<|R2 Zck Y<|R2 ZB Y<|R2 Qj Y<|Za<|K9 1 2 3 6 8 9 10 11 50 Y<|If h Y (fun h=>?_) fun h=>?_
  ·
   refine K1 6 Y<|Tr<|Rq Y (ZA (ys := [_, _]) Jz JB X7 .nil Y)<|Rx Y (Zo (ov Y) (ov Y) (Zk ZY Y) Y Y Y (Nat.le_of_ble_eq_true Y) (Zd Y) Y)<|Ra Y<|Za<|?_
   obtain rfl := rt h
   exact Zi (Zq Y (.two (.agg Y Y Y Y ZY Y Y<|.cons (Dat.view<|.b Y)<|.cons (View.nils 59) .nil)<|rb Y))
  ·
   refine Ze<|I1 (fun Samples=>⟨[(6, .ptr 0 1 0 0), (8, .ptr 1 1 0 0), (11, .int .i64 (i64 (q2 * 16)))], [some ⟨31, [[.int .i64 0, .nils]]⟩, some ⟨31, [[.int .i64 1, .own 2 Samples.length]]⟩, some ⟨59, List.map R59 Samples⟩]⟩) h (fun h=>?_) fun Samples h=>?_
   ·
    refine K8 1 2 3 6 8 9 10 11 Y<|Tr<|Rm Y<|Ra Y<|Za<|Zf<|?_
    obtain ⟨r1, hl1, ho1⟩ := Z1 h
    refine L2 (fun Samples2 first=>⟨[(1, .int .i64 n), (2, .sl 56 (List.map R56 l)), (3, .rp [.int .i64 m.Version, .sl 45 (List.map R45 m.Params)] 0), (6, .ptr 0 1 0 0), (8, .ptr 1 1 0 0), (9, .sl 85 (List.map R85 y)), (11, .int .i64 (i64 (q2 * 16))), (12, .int .i64 first)], [some ⟨31, [[.int .i64 0, .nils]]⟩, some ⟨31, [[.int .i64 1, .own 2 Samples2.length]]⟩, some ⟨59, List.map R59 Samples2⟩]⟩) hl1 (ES [some 0, some 1, none]) fun n1 Samples2 first h=>?_
    unfold Js at h
    refine Zj<|Tr<|Rm Y<|Rm Y<|R2 ZaZ Y<|Za<|K9 1 2 3 6 8 9 11 12 55 Y<|If h Y (fun h=>?_) fun h=>?_
    ·
     refine Ze<|I1 (fun Samples3=>⟨[(1, .int .i64 n), (2, .sl 56 (List.map R56 l)), (3, .rp [.int .i64 m.Version, .sl 45 (List.map R45 m.Params)] 0), (6, .ptr 0 1 0 0), (8, .ptr 1 1 0 0), (9, .sl 85 (List.map R85 y)), (11, .int .i64 (i64 (q2 * 16))), (12, .int .i64 first)], [some ⟨31, [[.int .i64 0, .nils]]⟩, some ⟨31, [[.int .i64 1, .own 2 Samples3.length]]⟩, some ⟨59, List.map R59 Samples3⟩]⟩) h (fun h=>?_) fun Samples3 h=>?_
     ·
      refine Zf<|K8 1 2 3 6 8 9 11 12 Y<|Tr<|Rq Y (Zc (ov Y) ZaA)<|Rq Y (Zb (ov Y) Ze4 Y)<|Rm Y<|bE h fun x3 h_x3 h=>Rq Y (Zx (ov Y) (ov Y) ZbX h_x3)<|Rq Y (Zh (ov Y) Q7 Y Y)<|Rm Y<|Rm Y<|bE h fun y2 h_y2 h=>Rq Y (Zl (Zif h_y2)<|.cons (ov Y) (.aggB Y)<|.cons (ov Y) (.b Y)<|.cons (ov Y) (.b Y) .nil)<|Ra Y<|Za<|K9 1 2 3 6 8 9 11 12 13 Y<|Tr<|Rm Y<|Rm Y<|Rm Y<|R2 ZB Y<|bE h fun y3 h_y3 h=>Rq Y (Zl (ZkE h_y3)<|.cons (ov Y) (.b Y)<|.cons (ov Y) (.b Y)<|.cons (ov Y) (.b Y) .nil)<|Ra Y<|Za<|K10 1 2 3 6 8 9 11 12 13 14 Y<|Tr<|Ra Y<|Za<|Zf<|?_
      obtain ⟨r2, hl2, ho2⟩ := Z1 h
      refine L2 (fun Samples4 i=>⟨[(1, .int .i64 n), (2, .sl 56 (List.map R56 l)), (3, .rp [.int .i64 m.Version, .sl 45 (List.map R45 m.Params)] 0), (6, .ptr 0 1 0 0), (8, .ptr 1 1 0 0), (9, .sl 85 (List.map R85 y)), (11, .int .i64 (i64 (q2 * 16))), (12, .int .i64 first), (13, .sl 3 (List.map R3 y2)), (14, .sl 56 (List.map R56 y3)), (15, .int .i64 i)], [some ⟨31, [[.int .i64 0, .nils]]⟩, some ⟨31, [[.int .i64 1, .own 2 Samples4.length]]⟩, some ⟨59, List.map R59 Samples4⟩]⟩) hl2 (ES [some 0, some 1, some 2]) fun n2 Samples4 i h=>?_
      unfold Za6 at h
      refine Zj<|Tr<|Rm Y<|Rm Y<|Rl tZ_85 Zbq Y<|R2 Zw Y<|Za<|K12 1 2 3 6 8 9 11 12 13 14 15 74 Y<|If h Y (fun h=>?_) fun h=>?_
      ·
       exact Ze<|Zj<|Zf<|K11 1 2 3 6 8 9 11 12 13 14 15 Y<|Td md0<|Dq 0 Y (Zh (ov Y) Zf6 Y Y)<|D1 1 Zm Y<|D1 2 Zm Y<|bE h fun x4 h_x4 h=>Dq 3 Y (Zx (ov Y) (ov Y) Zbq h_x4)<|Dq 4 Y (Zh (ov Y) Ze6 Y Y)<|D1 5 Zm Y<|D1 6 Zm Y<|bE h fun y4 h_y4 h=>Dq 7 Y (Zl (ZiO h_y4)<|.cons (ov Y) (.aggB Y)<|.cons (ov Y) (.aggB Y)<|.cons (ov Y) (.b Y)<|.cons (ov Y) (.b Y) .nil)<|D1 8 Zm Y<|Dq 9 Y (Zr (ov Y) Y)<|Dq 10 Y (Zr (ov Y) Y)<|D1 11 Z6 Y<|D1 12 Z6 Y<|Dd<|JT (kc 1 Y<|kc 2 Y<|kc 3 Y<|kc 6 Y<|kc 8 Y<|kc 9 Y<|kc 11 Y<|kc 12 Y<|kc 13 Y<|kc 14 Y<|kc 15 Y<|kc 16 Y<|kc 17 Y kn) Y<|ZgH (cw := md0) (by kernel_rfl)<|Dq 0 Y (Zg (ov Y) Y Y Qb)<|Dq 1 Y (Zn (ov Y) Y Y Y X6 Y)<|D1 2 Zm Y<|D1 3 Zm Y<|bE h fun x5 h_x5 h=>Dq 4 Y (Zx (ov Y) (ov Y) Zea h_x5)<|Dq 5 Y (Zb (ov Y) tS3 Y)<|D1 6 Zm Y<|D1 7 Zm Y<|Dq 8 Y (ZA (ys := [_, _, _]) Zcl Zcn Zbi (.cons (cvs (ov Y)<|Zp Y)<|.cons (cvs (ov Y)<|Zp Y)<|.cons (cvs (ov Y)<|Zp Y) .nil) Y)<|Zmy 9 (.sl 59<|List.map R59 ([(api_Sample.mk x5 y4.1 y4.2)] : List api_Sample)) Y (by kernel_rfl) Y Y (JO QV (.cons (cva<|ov Y) Y (pwD Y) .nil) Y Y)<|bE h fun l2 h_l2 h=>Do 10 Y (Qf (ov Y) (Qp (ov Y) tZ_59) QV Y Y Y (fun _=>Zd Y) Y h_l2)<|Dq 11 Y (Zg (ov Y) Y Y Qb)<|Do 12 Y (Zo (ov Y) (ov Y) (ZO X6) Y Y Y (Nat.le_of_ble_eq_true Y) (Zd Y) Y)<|Dd<|K11 1 2 3 6 8 9 11 12 13 14 15 Y<|Zs<|Rm Y<|R2 ZB Y<|Ra Y<|Za<|⟨_, h, ES [some 0, some 1, some 2]⟩
      ·
       refine Zu<|?_
       replace h := lx h ▸ ho2
       exact ⟨_, h, ES [some 0, some 1, some 2]⟩
     ·
      exact Zs<|Rm Y<|R2 ZB Y<|Ra Y<|Za<|⟨_, h, ES [some 0, some 1, some 2]⟩
    ·
     refine Zu<|?_
     replace h := lx h ▸ ho1
     exact ⟨_, h, ES [some 0, some 1, some 2]⟩
   ·
    refine Tr<|Rq Y (Zg (ov Y) Y Y Qb)<|Rq Y (Zn (ov Y) Y Y Y X6 Y)<|Rm Y<|R2 ZB Y<|R2 Zck Y<|Rq Y (ZA (ys := [_, _, _]) Zcl Zcn Zbi (.cons (cvs (ov Y)<|Zp Y) .nil) Y)<|R_q (.sl 59<|List.map R59 ([(api_Sample.mk (i64 (64 * (i64 ((i64 (q2 * 16)) + 16)))) 0 0)] : List api_Sample)) Y (JO QV (.cons (cva<|ov Y) Y (pwD Y) .nil) Y Y)<|bE h fun l3 h_l3 h=>Rx Y (Qf (ov Y) (Qp (ov Y) tZ_59) QV Y Y Y (fun _=>Zd Y) Y h_l3)<|Rq Y (Zg (ov Y) Y Y Qb)<|Rx Y (Zo (ov Y) (ov Y) (ZO X6) Y Y Y (Nat.le_of_ble_eq_true Y) (Zd Y) Y)<|Za<|K2 6 8 Y<|Tr<|Rq Y (ZL (ov Y) Y Y Y ZY Y Y)<|Rx Y (Zo (ov Y) (ov Y) (Zk ZY Y) Y Y Y (Nat.le_of_ble_eq_true Y) (Zd Y) Y)<|Ra Y<|Za<|?_
    obtain rfl := rt h
    exact Zi (Zq Y (.two (.agg Y Y Y Y ZY Y Y<|.cons (Dat.view<|.b Y)<|.cons (View.ownM Y Y D59) .nil)<|rb Y))
theorem ZgT {m : api_Map} {name : Str} {l : List api_Rest} {r : api_Series × Int} (h : ZaQ m name l = some r) :
 CSpec Tryz.prog gl0 6 [.agg [.int .i64 m.Version, .sl 45 (List.map R45 m.Params)], .str name, .sl 56 (List.map R56 l)] (.tuple [.agg [.int .i64 r.1.Den, .sl 59 (List.map R59 r.1.Samples)], .int .i64 r.2]) := by
 unfold ZaQ at h
 replace h := ZE h
 refine So Tryz.func6 Y fun w0 A=>Tr<|Rq Y (Zv (cva<|ov Y) Y tZ_24 Y)<|Rx Y (Zt (row := [_, _]) 0 Y X7 Y tZ_31)<|Ra Y<|Za<|Zj<|K4 1 2 3 6 Y<|Tr<|Rq Y (Zh (ov Y) Zf6 Y Y)<|bE h fun y h_y h=>Rq Y (Zl (Zgi h_y)<|.cons (ov Y) (.aggB Y) .nil)<|Rm Y<|Rq Y (Zr (ov Y) Y)<|Rq Y (Zr (ov Y) Y)<|Ra Y<|Ra Y<|Za<|K5 1 2 3 6 9 Y<|Tr<|Rm Y<|R2 QC Y<|Za<|K6 1 2 3 6 9 20 Y<|If h Y (fun h=>?_) fun h=>?_
 ·
  refine K2 6 9 Y<|Tr<|Rq Y (ZA (ys := [_, _]) Jz JB X7 .nil Y)<|Rm Y<|Rx Y (Zo (ov Y) (ov Y) (Zk ZY Y) Y Y Y (Nat.le_of_ble_eq_true Y) (Zd Y) Y)<|Ra Y<|Za<|?_
  obtain rfl := rt h
  exact Zi (Zq Y (.two (.agg Y Y Y Y ZY Y Y<|.cons (Dat.view<|.b Y)<|.cons (View.nils 59) .nil)<|rb Y))
 ·
  refine Ze<|K4 1 2 3 6 Y<|Tr<|Rq Y (Zh (ov Y) Zf6 Y Y)<|Rm Y<|bE h fun y2 h_y2 h=>Rq Y (Zl (Zjw h_y2)<|.cons (ov Y) (.aggB Y)<|.cons (ov Y) (.b Y) .nil)<|Ra Y<|Za<|Zj<|K4 2 3 6 10 Y<|Tr<|Rm Y<|R2 Zw Y<|Za<|K5 2 3 6 10 27 Y<|If h Y (fun h=>?_) fun h=>?_
  ·
   refine K1 6 Y<|Tr<|Rq Y (ZA (ys := [_, _]) Jz JB X7 .nil Y)<|Rx Y (Zo (ov Y) (ov Y) (Zk ZY Y) Y Y Y (Nat.le_of_ble_eq_true Y) (Zd Y) Y)<|Ra Y<|Za<|?_
   obtain rfl := rt h
   exact Zi (Zq Y (.two (.agg Y Y Y Y ZY Y Y<|.cons (Dat.view<|.b Y)<|.cons (View.nils 59) .nil)<|rb Y))
  ·
   refine Ze<|Zj<|K4 2 3 6 10 Y<|Tr<|Rm Y<|bE h fun y3 h_y3 h=>Rq Y (Zl (ZgG h_y3)<|.cons (ov Y) (.b Y) .nil)<|Ra Y<|Za<|K5 2 3 6 10 11 Y<|Tr<|Rm Y<|R2 QC Y<|Za<|K6 2 3 6 10 11 32 Y<|If h Y (fun h=>?_) fun h=>?_
   ·
    refine K2 6 11 Y<|Tr<|Rq Y (ZA (ys := [_, _]) Jz JB X7 .nil Y)<|Rm Y<|Rx Y (Zo (ov Y) (ov Y) (Zk ZY Y) Y Y Y (Nat.le_of_ble_eq_true Y) (Zd Y) Y)<|Ra Y<|Za<|?_
    obtain rfl := rt h
    exact Zi (Zq Y (.two (.agg Y Y Y Y ZY Y Y<|.cons (Dat.view<|.b Y)<|.cons (View.nils 59) .nil)<|rb Y))
   ·
    refine Ze<|K4 2 3 6 10 Y<|Tr<|Rq Y (Zh (ov Y) Zf6 Y Y)<|Rm Y<|Rm Y<|bE h fun y4 h_y4 h=>Rq Y (Zl (Zkm h_y4)<|.cons (ov Y) (.aggB Y)<|.cons (ov Y) (.b Y)<|.cons (ov Y) (.b Y) .nil)<|Rm Y<|Rq Y (Zr (ov Y) Y)<|Rq Y (Zr (ov Y) Y)<|Rx Y (Zt (row := [_, _]) 1 Y X7 Y tZ_31)<|Rx Y (Zo (ov Y) (ov Y) (Zk ZY Y) Y Y Y (Nat.le_of_ble_eq_true Y) (Zd Y) Y)<|Ra Y<|Za<|Zj<|K3 6 12 13 Y<|Tr<|Rm Y<|R1 Z0 Y<|Za<|K3 6 12 43 Y<|If h Y (fun h=>?_) fun h=>?_
    ·
     refine K1 6 Y<|Tr<|Rq Y (ZA (ys := [_, _]) Jz JB X7 .nil Y)<|Rx Y (Zo (ov Y) (ov Y) (Zk ZY Y) Y Y Y (Nat.le_of_ble_eq_true Y) (Zd Y) Y)<|Ra Y<|Za<|?_
     obtain rfl := rt h
     exact Zi (Zq Y (.two (.agg Y Y Y Y ZY Y Y<|.cons (Dat.view<|.b Y)<|.cons (View.nils 59) .nil)<|rb Y))
    ·
     refine Ze<|K2 6 12 Y<|Tr<|Rq Y (ZL (ov Y) Y Y Y ZY Y Y)<|Rx Y (Zo (ov Y) (ov Y) (Zk ZY Y) Y Y Y (Nat.le_of_ble_eq_true Y) (Zd Y) Y)<|Ra Y<|Za<|?_
     obtain rfl := rt h
     exact Zi (Zq Y (.two (.agg Y Y Y Y ZY Y Y<|pwB Y)<|rb Y))
theorem ZJ {n : Int} {low : Int} {high : Int} {r : Bool} (h : ZM n low high = some r) :
 CSpec Tryz.prog gl0 48 [.int .i64 n, .int .i64 low, .int .i64 high] (.bool r) := by
 unfold ZM at h
 replace h := ZE h
 refine So Tryz.func48 Y fun w0 A=>Tr<|Ra Y<|Za<|Tr<|Rm Y<|Rm Y<|R2 JP Y<|Rm Y<|Rq Y (.guarded ((decide (low ≤ n)) == true) Y Y Y Y fun h => Zm<|ov Y)<|Rq Y (.guarded ((decide (low ≤ n)) == true) Y Y Y Y fun h => Zm<|ov Y)<|Rq Y (.guarded ((decide (low ≤ n)) == true) Y Y Y Y fun h => ZaZ (ow Y h)<|ow Y h)<|Rq Y (Ql (ov Y) fun hp=>ow Y<|gT hp)<|Ra Y<|Za<|?_
 obtain rfl := rt h
 exact Zi (Zq Y (.one<|rb Y))
theorem Zic {s : api_Series} {r : Int × Int} (h : Zcc s = some r) :
 CSpec Tryz.prog gl0 47 [.agg [.int .i64 s.Den, .sl 59 (List.map R59 s.Samples)]] (.tuple [.int .i64 r.1, .int .i64 r.2]) := by
 unfold Zcc at h
 replace h := ZE h
 refine So Tryz.func47 Y fun w0 A=>Tr<|Rq Y (Zv (cva<|ov Y) Y tZ_31 Y)<|Ra Y<|Ra Y<|Za<|Zj<|K1 1 Y<|Tr<|Rq Y (Zc (ov Y) ZiB)<|Rq Y (Zb (ov Y) tS3 Y)<|bE h fun y h_y h=>Rq Y (Zl (ZJ h_y)<|.cons (ov Y) (.b Y)<|.cons (ov Y) (.b Y)<|.cons (ov Y) (.b Y) .nil)<|R1 Z0 Y<|Za<|K2 1 9 Y<|If h Y (fun h=>?_) fun h=>?_
 ·
  refine K0<|Tr<|Ra Y<|Ra Y<|Za<|?_
  obtain rfl := rt h
  exact Zi (Zq Y (.two (rb Y)<|rb Y))
 ·
  refine Ze<|Zj<|K1 1 Y<|Tr<|Rq Y (Zc (ov Y) Qb)<|Rq Y (Zb (ov Y) X6 Y)<|Rl tZ_59 QV Y<|R2 Qj Y<|Za<|K2 1 13 Y<|If h Y (fun h=>?_) fun h=>?_
  ·
   refine K0<|Tr<|Ra Y<|Ra Y<|Za<|?_
   obtain rfl := rt h
   exact Zi (Zq Y (.two (rb Y)<|rb Y))
  ·
   refine Ze<|J0 (fun j => (.inr j)) ⟨[], []⟩ h (fun h=>?_) fun h=>?_
   ·
    refine K1 1 Y<|Tr<|Rq Y (Zc (ov Y) Qb)<|Rq Y (Zb (ov Y) X6 Y)<|Rl tZ_59 QV Y<|Rm Y<|Za<|Zf<|?_
    obtain ⟨r1, hl1, ho1⟩ := Z1 h
    refine L1 (fun i=>⟨[(1, .rp [.int .i64 s.Den, .sl 59 (List.map R59 s.Samples)] 0), (15, .sl 59 (List.map R59 s.Samples)), (16, .int .i64 (s.Samples.length : Int)), (17, .int .i64 i)], []⟩) hl1 (ES []) fun n1 i h=>?_
    unfold Zah at h
    refine Tr<|R2 Zw Y<|Za<|Zj<|If h Y (fun h=>?_) fun h=>?_
    ·
     refine Ze<|Zj<|Zf<|K4 1 15 16 17 Y<|Tr<|Rm Y<|bE h fun x h_x h=>Rq Y (Zx (ov Y) (ov Y) QV h_x)<|Rq Y (Zh (ov Y) Xn Y Y)<|Rx Y (Zt (row := [_, _, _]) 0 Y Zbi Y tZ_59)<|Ra Y<|Rx Y (Zo (ov Y) (ov Y) (Zk Xn Y) Y Y Y (Nat.le_of_ble_eq_true Y) (Zd Y) Y)<|Za<|Zf<|K6 1 4 5 15 16 17 Y<|Tr<|Rq Y (Zg (ov Y) Y Y Zaz)<|Rq Y (Zn (ov Y) Y Y Y tS3 Y)<|bE h fun y2 h_y2 h=>Rq Y (Zl (ZJ h_y2)<|.cons (ov Y) (.b Y)<|.cons (ov Y) (.b Y)<|.cons (ov Y) (.b Y) .nil)<|R1 Z0 Y<|Rm Y<|Rq Y (.guarded ((!y2) == false) Y Y Y Y fun h => Zg (ov Y) Y Y Zbg)<|Rq Y (.guarded ((!y2) == false) Y Y Y Y fun h => Zn (ow Y h) Y Y Y tS3 Y)<|bE h fun y3 h_y3 h=>Rq Y (.guarded ((!y2) == false) Y Y Y Y fun h => Zl (ZJ<|gdT h_y3 h)<|.cons (ow Y h) (.b Y)<|.cons (ov Y) (.b Y)<|.cons (ov Y) (.b Y) .nil)<|Rq Y (.guarded ((!y2) == false) Y Y Y Y fun h => Z0<|ow Y h)<|Rq Y (QB (ov Y) fun hp=>ow Y<|gF hp)<|Rm Y<|Rq Y (.guarded (((!y2) || (!y3)) == false) Y Y Y Y fun h => Zg (ov Y) Y Y Qy)<|Rq Y (.guarded (((!y2) || (!y3)) == false) Y Y Y Y fun h => Zn (ow Y h) Y Y Y tS3 Y)<|bE h fun y4 h_y4 h=>Rq Y (.guarded (((!y2) || (!y3)) == false) Y Y Y Y fun h => Zl (ZJ<|gdT h_y4 h)<|.cons (ow Y h) (.b Y)<|.cons (ov Y) (.b Y)<|.cons (ov Y) (.b Y) .nil)<|Rq Y (.guarded (((!y2) || (!y3)) == false) Y Y Y Y fun h => Z0<|ow Y h)<|Rq Y (QB (ov Y) fun hp=>ow Y<|gF hp)<|Ra Y<|Za<|K7 1 4 5 15 16 17 22 Y<|If h Y (fun h=>?_) fun h=>?_
     ·
      refine K1 4 Y<|Tr<|Rm Y<|Ra Y<|Ra Y<|Za<|?_
      replace h := lx h ▸ ho1
      obtain rfl := rt h
      exact Zi (Zq Y (.two (rb Y)<|rb Y))
     ·
      refine K6 1 4 5 15 16 17 Y<|Tr<|Rq Y (Zg (ov Y) Y Y Zbg)<|Rq Y (Zn (ov Y) Y Y Y tS3 Y)<|R2 QC Y<|Rm Y<|Rq Y (.guarded ((!decide (x.N = 0)) == true) Y Y Y Y fun h => Zg (ov Y) Y Y Qy)<|Rq Y (.guarded ((!decide (x.N = 0)) == true) Y Y Y Y fun h => Zn (ow Y h) Y Y Y tS3 Y)<|Rq Y (.guarded ((!decide (x.N = 0)) == true) Y Y Y Y fun h => ZaZ (ow Y h)<|ov Y)<|Rq Y (Ql (ov Y) fun hp=>ow Y<|gT hp)<|Ra Y<|Za<|K7 1 4 5 15 16 17 40 Y<|If h Y (fun h=>?_) fun h=>?_
      ·
       refine K1 4 Y<|Tr<|Rm Y<|Ra Y<|Ra Y<|Za<|?_
       replace h := lx h ▸ ho1
       obtain rfl := rt h
       exact Zi (Zq Y (.two (rb Y)<|rb Y))
      ·
       refine K6 1 4 5 15 16 17 Y<|Td md0<|D1 0 Zm Y<|D2 1 Qj Y<|D1 2 Zm Y<|Dq 3 Y (.guarded ((decide (0 < i)) == true) Y Y Y Y fun h => Zg (ov Y) Y Y Zaz)<|Dq 4 Y (.guarded ((decide (0 < i)) == true) Y Y Y Y fun h => Zn (ow Y h) Y Y Y tS3 Y)<|Dq 5 Y (.guarded ((decide (0 < i)) == true) Y Y Y Y fun h => Zc (ov Y) Qb)<|Dq 6 Y (.guarded ((decide (0 < i)) == true) Y Y Y Y fun h => Zb (ow Y h) X6 Y)<|Dq 7 Y (.guarded ((decide (0 < i)) == true) Y Y Y Y fun h => Zm<|ov Y)<|Dq 8 Y (.guarded ((decide (0 < i)) == true) Y Y Y Y fun h => ZfJ (ow Y h) (ov Y) Y)<|bE h fun x2 h_x2 h=>Dq 9 Y (.guarded ((decide (0 < i)) == true) Y Y Y Y fun h => Zx (ow Y h) (ow Y h) QV<|gdT h_x2 h)<|Dq 10 Y (.guarded ((decide (0 < i)) == true) Y Y Y Y fun h => Zc (ow Y h) Zaz)<|Dq 11 Y (.guarded ((decide (0 < i)) == true) Y Y Y Y fun h => Zb (ow Y h) tS3 Y)<|Dq 12 Y (.guarded ((decide (0 < i)) == true) Y Y Y Y fun h => ZaZ (ow Y h)<|ow Y h)<|Dq 13 Y (Ql (ov Y) fun hp=>ow Y<|gT hp)<|D1 14 Z6 Y<|Dd<|K6 1 4 15 16 17 50 Y<|If h Y (fun h=>?_) fun h=>?_
       ·
        refine K1 4 Y<|Tr<|Rm Y<|Ra Y<|Ra Y<|Za<|?_
        replace h := lx h ▸ ho1
        obtain rfl := rt h
        exact Zi (Zq Y (.two (rb Y)<|rb Y))
       ·
        exact Ze<|K4 1 15 16 17 Y<|Zs<|R2 ZB Y<|Rm Y<|Za<|⟨_, h, ES []⟩
    ·
     refine Zu<|?_
     replace h := lx h ▸ ho1
     exact ⟨_, h, ES []⟩
   ·
    replace h := elr h
    replace h := t0i h
    refine Tr<|Ra Y<|Ra Y<|Za<|?_
    obtain rfl := rt h
    exact Zi (Zq Y (.two (rb Y)<|rb Y))
theorem ZeP {s : api_Series} {r : Int} (h : Zba s = some r) :
 CSpec Tryz.prog gl0 23 [.agg [.int .i64 s.Den, .sl 59 (List.map R59 s.Samples)]] (.int .i64 r) := by
 unfold Zba at h
 replace h := ZE h
 refine So Tryz.func23 Y fun w0 A=>Tr<|Rq Y (Zv (cva<|ov Y) Y tZ_31 Y)<|Ra Y<|Za<|K1 1 Y<|Tr<|Rq Y (Zh (ov Y) ZY Y Y)<|bE h fun y h_y h=>Rq Y (Zl (Zic h_y)<|.cons (ov Y) (.aggB Y) .nil)<|Rm Y<|Rq Y (Zr (ov Y) Y)<|Rq Y (Zr (ov Y) Y)<|Ra Y<|Ra Y<|Za<|K1 4 Y<|Tr<|Rm Y<|Ra Y<|Za<|?_
 obtain rfl := rt h
 exact Zi (Zq Y (.one<|rb Y))
theorem Zcv {l : api_Line} {v : Int} {r : Int} (h : XP l v = some r) :
 CSpec Tryz.prog gl0 49 [.agg [.int .i64 l.From, .int .i64 l.To, .int .i64 l.A_, .int .i64 l.B], .int .i64 v] (.int .i64 r) := by
 unfold XP at h
 replace h := ZE h
 refine So Tryz.func49 Y fun w0 A=>Tr<|Rq Y (Zv (cva<|ov Y) Y tZ_101 Y)<|Ra Y<|Za<|K3 1 2 4 Y<|Tr<|Rq Y (Zc (ov Y) ZfT)<|Rq Y (Zb (ov Y) tS3 Y)<|Rm Y<|R2 Zck Y<|Rq Y (Zc (ov Y) ZfY)<|Rq Y (Zb (ov Y) tS3 Y)<|R2 ZB Y<|Ra Y<|Za<|?_
 obtain rfl := rt h
 exact Zi (Zq Y (.one<|rb Y))
theorem Zdx {c_ : api_Calibration} {r : Int} (h : Qt c_ = some r) :
 CSpec Tryz.prog gl0 24 [.agg [.int .i64 c_.Den, .sl 101 (List.map Jw c_.Lines), .int .i64 c_.Low, .int .i64 c_.High]] (.int .i64 r) := by
 unfold Qt at h
 replace h := ZE h
 refine So Tryz.func24 Y fun w0 A=>Tr<|Rq Y (Zv (cva<|ov Y) Y tZ_28 Y)<|Ra Y<|Za<|Zj<|Zf<|K1 1 Y<|Tr<|Rq Y (Zc (ov Y) Zgx)<|Rq Y (Zb (ov Y) tS3 Y)<|bE h fun y h_y h=>Rq Y (Zl (ZJ h_y)<|.cons (ov Y) (.b Y)<|.cons (ov Y) (.b Y)<|.cons (ov Y) (.b Y) .nil)<|R1 Z0 Y<|Ra Y<|Za<|K2 1 7 Y<|If h Y (fun h=>?_) fun h=>?_
 ·
  refine K0<|Tr<|Ra Y<|Za<|?_
  obtain rfl := rt h
  exact Zi (Zq Y (.one<|rb Y))
 ·
  refine K1 1 Y<|Tr<|Rq Y (Zc (ov Y) ZbK)<|Rq Y (Zb (ov Y) Zgy Y)<|Rl tZ_101 ZeW Y<|R2 Z4 Y<|Ra Y<|Za<|K2 1 12 Y<|If h Y (fun h=>?_) fun h=>?_
  ·
   refine K0<|Tr<|Ra Y<|Za<|?_
   obtain rfl := rt h
   exact Zi (Zq Y (.one<|rb Y))
  ·
   refine K1 1 Y<|Tr<|Rq Y (Zc (ov Y) ZbK)<|Rq Y (Zb (ov Y) Zgy Y)<|Rl tZ_101 ZeW Y<|R2 Qj Y<|Ra Y<|Za<|K2 1 17 Y<|If h Y (fun h=>?_) fun h=>?_
   ·
    refine K0<|Tr<|Ra Y<|Za<|?_
    obtain rfl := rt h
    exact Zi (Zq Y (.one<|rb Y))
   ·
    refine Ze<|J0 (fun j => (.inr j)) ⟨[(1, .rp [.int .i64 c_.Den, .sl 101 (List.map Jw c_.Lines), .int .i64 c_.Low, .int .i64 c_.High] 0)], []⟩ h (fun h=>?_) fun h=>?_
    ·
     refine K1 1 Y<|Tr<|Rq Y (Zc (ov Y) ZbK)<|Rq Y (Zb (ov Y) Zgy Y)<|Rl tZ_101 ZeW Y<|Rm Y<|Za<|Zf<|?_
     obtain ⟨r1, hl1, ho1⟩ := Z1 h
     refine L1 (fun i=>⟨[(1, .rp [.int .i64 c_.Den, .sl 101 (List.map Jw c_.Lines), .int .i64 c_.Low, .int .i64 c_.High] 0), (23, .sl 101 (List.map Jw c_.Lines)), (24, .int .i64 (c_.Lines.length : Int)), (25, .int .i64 i)], []⟩) hl1 (ES []) fun n1 i h=>?_
     unfold ZT at h
     refine Tr<|R2 Zw Y<|Za<|Zj<|If h Y (fun h=>?_) fun h=>?_
     ·
      refine Ze<|Zj<|Zf<|K4 1 23 24 25 Y<|Tr<|Rm Y<|bE h fun x h_x h=>Rq Y (Zx (ov Y) (ov Y) ZeW h_x)<|Rq Y (Zh (ov Y) ZdO Y Y)<|Rx Y (Zt (row := [_, _, _, _]) 0 Y ZjO Y tZ_101)<|Ra Y<|Rx Y (Zo (ov Y) (ov Y) (Zk ZdO Y) Y Y Y (Nat.le_of_ble_eq_true Y) (Zd Y) Y)<|Za<|Zj<|K6 1 3 4 23 24 25 Y<|Tr<|Rq Y (Zg (ov Y) Y Y ZcH)<|Rq Y (Zn (ov Y) Y Y Y tS3 Y)<|bE h fun y2 h_y2 h=>Rq Y (Zl (ZJ h_y2)<|.cons (ov Y) (.b Y)<|.cons (ov Y) (.b Y)<|.cons (ov Y) (.b Y) .nil)<|R1 Z0 Y<|Rm Y<|Rq Y (.guarded ((!y2) == false) Y Y Y Y fun h => Zg (ov Y) Y Y ZcL)<|Rq Y (.guarded ((!y2) == false) Y Y Y Y fun h => Zn (ow Y h) Y Y Y tS3 Y)<|bE h fun y3 h_y3 h=>Rq Y (.guarded ((!y2) == false) Y Y Y Y fun h => Zl (ZJ<|gdT h_y3 h)<|.cons (ow Y h) (.b Y)<|.cons (ov Y) (.b Y)<|.cons (ov Y) (.b Y) .nil)<|Rq Y (.guarded ((!y2) == false) Y Y Y Y fun h => Z0<|ow Y h)<|Rq Y (QB (ov Y) fun hp=>ow Y<|gF hp)<|Rm Y<|Rq Y (.guarded (((!y2) || (!y3)) == false) Y Y Y Y fun h => Zg (ov Y) Y Y ZcH)<|Rq Y (.guarded (((!y2) || (!y3)) == false) Y Y Y Y fun h => Zn (ow Y h) Y Y Y tS3 Y)<|Rq Y (.guarded (((!y2) || (!y3)) == false) Y Y Y Y fun h => Zg (ov Y) Y Y ZcL)<|Rq Y (.guarded (((!y2) || (!y3)) == false) Y Y Y Y fun h => Zn (ow Y h) Y Y Y tS3 Y)<|Rq Y (.guarded (((!y2) || (!y3)) == false) Y Y Y Y fun h => Qj (ow Y h)<|ow Y h)<|Rq Y (QB (ov Y) fun hp=>ow Y<|gF hp)<|Rm Y<|Rq Y (.guarded ((((!y2) || (!y3)) || (decide (x.To < x.From))) == false) Y Y Y Y fun h => Zg (ov Y) Y Y ZfT)<|Rq Y (.guarded ((((!y2) || (!y3)) || (decide (x.To < x.From))) == false) Y Y Y Y fun h => Zn (ow Y h) Y Y Y tS3 Y)<|bE h fun y4 h_y4 h=>Rq Y (.guarded ((((!y2) || (!y3)) || (decide (x.To < x.From))) == false) Y Y Y Y fun h => Zl (ZJ<|gdT h_y4 h)<|.cons (ow Y h) (.b Y)<|.cons (ov Y) (.b Y)<|.cons (ov Y) (.b Y) .nil)<|Rq Y (.guarded ((((!y2) || (!y3)) || (decide (x.To < x.From))) == false) Y Y Y Y fun h => Z0<|ow Y h)<|Rq Y (QB (ov Y) fun hp=>ow Y<|gF hp)<|Rm Y<|Rq Y (.guarded (((((!y2) || (!y3)) || (decide (x.To < x.From))) || (!y4)) == false) Y Y Y Y fun h => Zg (ov Y) Y Y ZfY)<|Rq Y (.guarded (((((!y2) || (!y3)) || (decide (x.To < x.From))) || (!y4)) == false) Y Y Y Y fun h => Zn (ow Y h) Y Y Y tS3 Y)<|bE h fun y5 h_y5 h=>Rq Y (.guarded (((((!y2) || (!y3)) || (decide (x.To < x.From))) || (!y4)) == false) Y Y Y Y fun h => Zl (ZJ<|gdT h_y5 h)<|.cons (ow Y h) (.b Y)<|.cons (ov Y) (.b Y)<|.cons (ov Y) (.b Y) .nil)<|Rq Y (.guarded (((((!y2) || (!y3)) || (decide (x.To < x.From))) || (!y4)) == false) Y Y Y Y fun h => Z0<|ow Y h)<|Rq Y (QB (ov Y) fun hp=>ow Y<|gF hp)<|Za<|K7 1 3 4 23 24 25 58 Y<|If h Y (fun h=>?_) fun h=>?_
      ·
       refine K0<|Tr<|Ra Y<|Za<|?_
       replace h := lx h ▸ ho1
       obtain rfl := rt h
       exact Zi (Zq Y (.one<|rb Y))
      ·
       refine Ze<|K6 1 3 4 23 24 25 Y<|Td md0<|D1 0 Zm Y<|D2 1 Qj Y<|D1 2 Zm Y<|Dq 3 Y (.guarded ((decide (0 < i)) == true) Y Y Y Y fun h => Zg (ov Y) Y Y ZcH)<|Dq 4 Y (.guarded ((decide (0 < i)) == true) Y Y Y Y fun h => Zn (ow Y h) Y Y Y tS3 Y)<|Dq 5 Y (.guarded ((decide (0 < i)) == true) Y Y Y Y fun h => Zc (ov Y) ZbK)<|Dq 6 Y (.guarded ((decide (0 < i)) == true) Y Y Y Y fun h => Zb (ow Y h) Zgy Y)<|Dq 7 Y (.guarded ((decide (0 < i)) == true) Y Y Y Y fun h => Zm<|ov Y)<|Dq 8 Y (.guarded ((decide (0 < i)) == true) Y Y Y Y fun h => ZfJ (ow Y h) (ov Y) Y)<|bE h fun x2 h_x2 h=>Dq 9 Y (.guarded ((decide (0 < i)) == true) Y Y Y Y fun h => Zx (ow Y h) (ow Y h) ZeW<|gdT h_x2 h)<|Dq 10 Y (.guarded ((decide (0 < i)) == true) Y Y Y Y fun h => Zc (ow Y h) ZcL)<|Dq 11 Y (.guarded ((decide (0 < i)) == true) Y Y Y Y fun h => Zb (ow Y h) tS3 Y)<|Dq 12 Y (.guarded ((decide (0 < i)) == true) Y Y Y Y fun h => ZaZ (ow Y h)<|ow Y h)<|Dq 13 Y (Ql (ov Y) fun hp=>ow Y<|gT hp)<|Dd<|K5 1 23 24 25 72 Y<|If h Y (fun h=>?_) fun h=>?_
       ·
        refine K0<|Tr<|Ra Y<|Za<|?_
        replace h := lx h ▸ ho1
        obtain rfl := rt h
        exact Zi (Zq Y (.one<|rb Y))
       ·
        exact Ze<|K4 1 23 24 25 Y<|Zs<|R2 ZB Y<|Rm Y<|Za<|⟨_, h, ES []⟩
     ·
      refine Zu<|?_
      replace h := lx h ▸ ho1
      exact ⟨_, h, ES []⟩
    ·
     replace h := elr h
     replace h := t0i h
     refine J0 (fun j => (.inr j)) ⟨[(1, .rp [.int .i64 c_.Den, .sl 101 (List.map Jw c_.Lines), .int .i64 c_.Low, .int .i64 c_.High] 0)], []⟩ h (fun h=>?_) fun h=>?_
     ·
      refine Tr<|Rq Y (Zc (ov Y) ZbK)<|Rq Y (Zb (ov Y) Zgy Y)<|Rl tZ_101 ZeW Y<|Rm Y<|Za<|Zf<|?_
      obtain ⟨r2, hl2, ho2⟩ := Z1 h
      refine L1 (fun i2=>⟨[(1, .rp [.int .i64 c_.Den, .sl 101 (List.map Jw c_.Lines), .int .i64 c_.Low, .int .i64 c_.High] 0), (75, .sl 101 (List.map Jw c_.Lines)), (76, .int .i64 (c_.Lines.length : Int)), (77, .int .i64 i2)], []⟩) hl2 (ES []) fun n2 i2 h=>?_
      unfold ZS at h
      refine Tr<|R2 Zw Y<|Za<|Zj<|If h Y (fun h=>?_) fun h=>?_
      ·
       refine Ze<|Zj<|Zf<|K4 1 75 76 77 Y<|Tr<|bE h fun x3 h_x3 h=>Rq Y (Zx (ov Y) (ov Y) ZeW h_x3)<|Rq Y (Zh (ov Y) ZdO Y Y)<|Rx Y (Zt (row := [_, _, _, _]) 0 Y ZjO Y tZ_101)<|Rx Y (Zo (ov Y) (ov Y) (Zk ZdO Y) Y Y Y (Nat.le_of_ble_eq_true Y) (Zd Y) Y)<|Za<|K5 1 6 75 76 77 Y<|Tr<|Rq Y (ZL (ov Y) Y Y Y ZdO Y Y)<|Rq Y (Zg (ov Y) Y Y ZcH)<|Rq Y (Zn (ov Y) Y Y Y tS3 Y)<|bE h fun y6 h_y6 h=>Rq Y (Zl (Zcv h_y6)<|.cons (ov Y) (.aggB Y)<|.cons (ov Y) (.b Y) .nil)<|bE h fun y7 h_y7 h=>Rq Y (Zl (ZJ h_y7)<|.cons (ov Y) (.b Y)<|.cons (ov Y) (.b Y)<|.cons (ov Y) (.b Y) .nil)<|R1 Z0 Y<|Rm Y<|Rq Y (.guarded ((!y7) == false) Y Y Y Y fun h => ZL (ov Y) Y Y Y ZdO Y Y)<|Rq Y (.guarded ((!y7) == false) Y Y Y Y fun h => Zg (ov Y) Y Y ZcL)<|Rq Y (.guarded ((!y7) == false) Y Y Y Y fun h => Zn (ow Y h) Y Y Y tS3 Y)<|bE h fun y8 h_y8 h=>Rq Y (.guarded ((!y7) == false) Y Y Y Y fun h => Zl (Zcv<|gdT h_y8 h)<|.cons (ow Y h) (.aggB Y)<|.cons (ow Y h) (.b Y) .nil)<|bE h fun y9 h_y9 h=>Rq Y (.guarded ((!y7) == false) Y Y Y Y fun h => Zl (ZJ<|gdT h_y9 h)<|.cons (ow Y h) (.b Y)<|.cons (ov Y) (.b Y)<|.cons (ov Y) (.b Y) .nil)<|Rq Y (.guarded ((!y7) == false) Y Y Y Y fun h => Z0<|ow Y h)<|Rq Y (QB (ov Y) fun hp=>ow Y<|gF hp)<|Za<|K5 1 75 76 77 94 Y<|If h Y (fun h=>?_) fun h=>?_
       ·
        refine K0<|Tr<|Ra Y<|Za<|?_
        replace h := lx h ▸ ho2
        obtain rfl := rt h
        exact Zi (Zq Y (.one<|rb Y))
       ·
        exact Ze<|K4 1 75 76 77 Y<|Zs<|R2 ZB Y<|Rm Y<|Za<|⟨_, h, ES []⟩
      ·
       refine Zu<|?_
       replace h := lx h ▸ ho2
       exact ⟨_, h, ES []⟩
     ·
      replace h := elr h
      replace h := t0i h
      refine Zj<|Tr<|Rq Y (Zc (ov Y) Zhw)<|Rq Y (Zb (ov Y) tS3 Y)<|bE h fun y10 h_y10 h=>Rq Y (Zl (ZJ h_y10)<|.cons (ov Y) (.b Y)<|.cons (ov Y) (.b Y)<|.cons (ov Y) (.b Y) .nil)<|R1 Z0 Y<|Rm Y<|Rq Y (.guarded ((!y10) == false) Y Y Y Y fun h => Zc (ov Y) ZhK)<|Rq Y (.guarded ((!y10) == false) Y Y Y Y fun h => Zb (ow Y h) tS3 Y)<|bE h fun y11 h_y11 h=>Rq Y (.guarded ((!y10) == false) Y Y Y Y fun h => Zl (ZJ<|gdT h_y11 h)<|.cons (ow Y h) (.b Y)<|.cons (ov Y) (.b Y)<|.cons (ov Y) (.b Y) .nil)<|Rq Y (.guarded ((!y10) == false) Y Y Y Y fun h => Z0<|ow Y h)<|Rq Y (QB (ov Y) fun hp=>ow Y<|gF hp)<|Rm Y<|Rq Y (.guarded (((!y10) || (!y11)) == false) Y Y Y Y fun h => Zc (ov Y) Zhw)<|Rq Y (.guarded (((!y10) || (!y11)) == false) Y Y Y Y fun h => Zb (ow Y h) tS3 Y)<|Rq Y (.guarded (((!y10) || (!y11)) == false) Y Y Y Y fun h => Zc (ov Y) ZhK)<|Rq Y (.guarded (((!y10) || (!y11)) == false) Y Y Y Y fun h => Zb (ow Y h) tS3 Y)<|Rq Y (.guarded (((!y10) || (!y11)) == false) Y Y Y Y fun h => Qj (ow Y h)<|ow Y h)<|Rq Y (QB (ov Y) fun hp=>ow Y<|gF hp)<|Za<|K1 112 Y<|If h Y (fun h=>?_) fun h=>?_
      ·
       refine K0<|Tr<|Ra Y<|Za<|?_
       obtain rfl := rt h
       exact Zi (Zq Y (.one<|rb Y))
      ·
       refine Ze<|K0<|Tr<|Ra Y<|Za<|?_
       obtain rfl := rt h
       exact Zi (Zq Y (.one<|rb Y))
theorem XG {xs r : List api_Sample} (h : Zm6 xs = some r) :
 GSpec Tryz.prog gl0 25 [.sl 59 (List.map R59 xs)] [] (.own 0 r.length) [some ⟨59, List.map R59 r⟩] := by
 have h2 : app [] xs = some r := h
 refine Jp (by kernel_rfl) Tryz.func25 Y Y<|?_
 intro w0 A W φ0
 refine Tr<|Ra Y<|Za<|Zj<|Zj<|Zs<|Rm Y<|Zp2 (ov Y) ZqP Y fun b hb=>?_
 refine Za<|Zou Y (fun hb2=>?_) fun hb2=>?_
 ·
  obtain rfl : xs = [] := by simpa using hb hb2
  obtain rfl : r = [] := by simpa [app] using h2.symm
  exact Tr<|Ra Y<|Za<|Zi<|Zig [none] Y (.cons (.tmp Y) .nil) (.row 59 .nil) Y Y<|.row Y
 ·
  exact Ze<|Tr<|Rx Y (Zq5 (r := 0) (xs := []) (f := R59) Y QV .nil Y Y Y)<|Rm Y<|Rx Y (Zds (ov Y) (Qp (ov Y) tZ_59) QV Y Y (fun _=>Zd Y) Y h2)<|Ra Y<|Za<|Zi<|Zig [some 0] Y (.cons (.tmp Y) .nil) (.cons Y (roM D59) .nil) Y Y<|.own _ Y
theorem QM {c_ : api_Calibration} {v : Int} {r : Int × Bool} (h : Zb9 c_ v = some r) :
 CSpec Tryz.prog gl0 26 [.agg [.int .i64 c_.Den, .sl 101 (List.map Jw c_.Lines), .int .i64 c_.Low, .int .i64 c_.High], .int .i64 v] (.tuple [.int .i64 r.1, .bool r.2]) := by
 unfold Zb9 at h
 replace h := ZE h
 refine So Tryz.func26 Y fun w0 A=>Tr<|Rq Y (Zv (cva<|ov Y) Y tZ_28 Y)<|Ra Y<|Ra Y<|Za<|J0 (fun j => (.inr j)) ⟨[], []⟩ h (fun h=>?_) fun h=>?_
 ·
  refine K2 1 2 Y<|Tr<|Rq Y (Zc (ov Y) ZbK)<|Rq Y (Zb (ov Y) Zgy Y)<|Rl tZ_101 ZeW Y<|Rm Y<|Za<|Zf<|?_
  obtain ⟨r1, hl1, ho1⟩ := Z1 h
  refine L1 (fun i=>⟨[(1, .int .i64 v), (2, .rp [.int .i64 c_.Den, .sl 101 (List.map Jw c_.Lines), .int .i64 c_.Low, .int .i64 c_.High] 0), (10, .sl 101 (List.map Jw c_.Lines)), (11, .int .i64 (c_.Lines.length : Int)), (12, .int .i64 i)], []⟩) hl1 (ES []) fun n1 i h=>?_
  unfold Zac at h
  refine Tr<|R2 Zw Y<|Za<|Zj<|If h Y (fun h=>?_) fun h=>?_
  ·
   refine Ze<|Zj<|Zf<|K5 1 2 10 11 12 Y<|Tr<|bE h fun x h_x h=>Rq Y (Zx (ov Y) (ov Y) ZeW h_x)<|Rq Y (Zh (ov Y) ZdO Y Y)<|Rx Y (Zt (row := [_, _, _, _]) 0 Y ZjO Y tZ_101)<|Rx Y (Zo (ov Y) (ov Y) (Zk ZdO Y) Y Y Y (Nat.le_of_ble_eq_true Y) (Zd Y) Y)<|Za<|K6 1 2 7 10 11 12 Y<|Tr<|Rm Y<|Rq Y (Zg (ov Y) Y Y ZcH)<|Rq Y (Zn (ov Y) Y Y Y tS3 Y)<|Rq Y (Zg (ov Y) Y Y ZcL)<|Rq Y (Zn (ov Y) Y Y Y tS3 Y)<|bE h fun y h_y h=>Rq Y (Zl (ZJ h_y)<|.cons (ov Y) (.b Y)<|.cons (ov Y) (.b Y)<|.cons (ov Y) (.b Y) .nil)<|Za<|K7 1 2 7 10 11 12 21 Y<|If h Y (fun h=>?_) fun h=>?_
   ·
    refine K6 1 2 7 10 11 12 Y<|Tr<|Rq Y (ZL (ov Y) Y Y Y ZdO Y Y)<|Rm Y<|bE h fun y2 h_y2 h=>Rq Y (Zl (Zcv h_y2)<|.cons (ov Y) (.aggB Y)<|.cons (ov Y) (.b Y) .nil)<|Ra Y<|Za<|K6 1 2 8 10 11 12 Y<|Tr<|Rm Y<|Rq Y (Zc (ov Y) Zhw)<|Rq Y (Zb (ov Y) tS3 Y)<|Rq Y (Zc (ov Y) ZhK)<|Rq Y (Zb (ov Y) tS3 Y)<|bE h fun y3 h_y3 h=>Rq Y (Zl (ZJ h_y3)<|.cons (ov Y) (.b Y)<|.cons (ov Y) (.b Y)<|.cons (ov Y) (.b Y) .nil)<|Za<|K7 1 2 8 10 11 12 30 Y<|If h Y (fun h=>?_) fun h=>?_
    ·
     refine K1 8 Y<|Tr<|Rm Y<|Ra Y<|Ra Y<|Za<|?_
     replace h := lx h ▸ ho1
     obtain rfl := rt h
     exact Zi (Zq Y (.two (rb Y)<|rb Y))
    ·
     exact Ze<|K5 1 2 10 11 12 Y<|Zs<|R2 ZB Y<|Rm Y<|Za<|⟨_, h, ES []⟩
   ·
    exact Ze<|K5 1 2 10 11 12 Y<|Zs<|R2 ZB Y<|Rm Y<|Za<|⟨_, h, ES []⟩
  ·
   refine Zu<|?_
   replace h := lx h ▸ ho1
   exact ⟨_, h, ES []⟩
 ·
  replace h := elr h
  replace h := t0i h
  refine Tr<|Ra Y<|Ra Y<|Za<|?_
  obtain rfl := rt h
  exact Zi (Zq Y (.two (rb Y)<|rb Y))
theorem Zgc {s : api_Series} {c_ : api_Calibration} {r : api_Series × Int} (h : JE s c_ = some r) :
 CSpec Tryz.prog gl0 7 [.agg [.int .i64 s.Den, .sl 59 (List.map R59 s.Samples)], .agg [.int .i64 c_.Den, .sl 101 (List.map Jw c_.Lines), .int .i64 c_.Low, .int .i64 c_.High]] (.tuple [.agg [.int .i64 r.1.Den, .sl 59 (List.map R59 r.1.Samples)], .int .i64 r.2]) := by
 unfold JE at h
 replace h := ZE h
 refine So Tryz.func7 Y fun w0 A=>Tr<|Rq Y (Zv (cva<|ov Y) Y tZ_31 Y)<|Rq Y (Zv (cva<|ov Y) Y tZ_28 Y)<|Rx Y (Zt (row := [_, _]) 0 Y X7 Y tZ_31)<|Ra Y<|Za<|Zj<|K3 2 3 4 Y<|Tr<|Rq Y (Zh (ov Y) ZY Y Y)<|bE h fun y h_y h=>Rq Y (Zl (ZeP h_y)<|.cons (ov Y) (.aggB Y) .nil)<|Ra Y<|Za<|K4 2 3 4 6 Y<|Tr<|Rm Y<|R2 QC Y<|Za<|K5 2 3 4 6 16 Y<|If h Y (fun h=>?_) fun h=>?_
 ·
  refine K2 4 6 Y<|Tr<|Rq Y (ZA (ys := [_, _]) Jz JB X7 .nil Y)<|Rm Y<|Rx Y (Zo (ov Y) (ov Y) (Zk ZY Y) Y Y Y (Nat.le_of_ble_eq_true Y) (Zd Y) Y)<|Ra Y<|Za<|?_
  obtain rfl := rt h
  exact Zi (Zq Y (.two (.agg Y Y Y Y ZY Y Y<|.cons (Dat.view<|.b Y)<|.cons (View.nils 59) .nil)<|rb Y))
 ·
  refine Ze<|Zj<|K3 2 3 4 Y<|Tr<|Rq Y (Zh (ov Y) ZgF Y Y)<|bE h fun y2 h_y2 h=>Rq Y (Zl (Zdx h_y2)<|.cons (ov Y) (.aggB Y) .nil)<|Ra Y<|Za<|K4 2 3 4 7 Y<|Tr<|Rm Y<|R2 QC Y<|Za<|K5 2 3 4 7 22 Y<|If h Y (fun h=>?_) fun h=>?_
  ·
   refine K2 4 7 Y<|Tr<|Rq Y (ZA (ys := [_, _]) Jz JB X7 .nil Y)<|Rm Y<|Rx Y (Zo (ov Y) (ov Y) (Zk ZY Y) Y Y Y (Nat.le_of_ble_eq_true Y) (Zd Y) Y)<|Ra Y<|Za<|?_
   obtain rfl := rt h
   exact Zi (Zq Y (.two (.agg Y Y Y Y ZY Y Y<|.cons (Dat.view<|.b Y)<|.cons (View.nils 59) .nil)<|rb Y))
  ·
   refine Ze<|Zj<|K3 2 3 4 Y<|Tr<|Rq Y (Zc (ov Y) ZiB)<|Rq Y (Zb (ov Y) tS3 Y)<|R2 QC Y<|Za<|K4 2 3 4 27 Y<|If h Y (fun h=>?_) fun h=>?_
   ·
    refine K1 4 Y<|Tr<|Rq Y (ZA (ys := [_, _]) Jz JB X7 .nil Y)<|Rx Y (Zo (ov Y) (ov Y) (Zk ZY Y) Y Y Y (Nat.le_of_ble_eq_true Y) (Zd Y) Y)<|Ra Y<|Za<|?_
    obtain rfl := rt h
    exact Zi (Zq Y (.two (.agg Y Y Y Y ZY Y Y<|.cons (Dat.view<|.b Y)<|.cons (View.nils 59) .nil)<|rb Y))
   ·
    refine Ze<|K3 2 3 4 Y<|Td ⟨true, false, [], [], []⟩<|ZiJ 2 _ Y (by kernel_rfl) Y Y Y ExtW.refl (fun hp' hx=>Zc (ov Y) Qb)<|ZiJ 3 _ Y (by kernel_rfl) Y Y Y ExtW.refl (fun hp' hx=>Zb (ov Y) X6 Y)<|bE h fun y3 h_y3 h=>Zmf [0, 4, 6] (by kernel_rfl)<|.q Y Y Y (Zc (ov Y) Zgx) ?_<|.w Y Y Y (fun h=>by cases h) (fun h=>by cases h) (Qq [] (XG h_y3) (.cons (ov Y) (.dat Y) .nil) .nil Y (.keep Y Y<|.lent 0 (.inr ⟨Nat.le_of_ble_eq_true Y, Y⟩) Y (roM D59) .nil) Y Y<|.own _<|.inr ⟨Nat.le_of_ble_eq_true Y, Y⟩) ?_<|.w Y Y Y (fun _=>Ext.app) (fun h=>by cases h) (Zt (row := [_, _]) 1 Y X7 Y tZ_31) ?_ .nil
    ·
     refine Zmf [1, 4, 6] (by kernel_rfl)<|.q Y Y Y (Zb (ov Y) tS3 Y) ?_<|.w Y Y Y (fun h=>by cases h) (fun h=>by cases h) (Qq [] (XG h_y3) (.cons (ov Y) (.dat Y) .nil) .nil Y (.keep Y Y<|.lent 0 (.inr ⟨Nat.le_of_ble_eq_true Y, Y⟩) Y (roM D59) .nil) Y Y<|.own _<|.inr ⟨Nat.le_of_ble_eq_true Y, Y⟩) ?_<|.w Y Y Y (fun _=>Ext.app) (fun h=>by cases h) (Zt (row := [_, _]) 1 Y X7 Y tZ_31) ?_ .nil
     ·
      refine ZmO 4 6 Y Y (by kernel_rfl) Y Y Y Y (fun h=>by cases h) (fun _=>Ext.app) (fun h=>by cases h) (fun h=>by cases h) (Qq [] (XG h_y3) (.cons (ov Y) (.dat Y) .nil) .nil Y (.keep Y Y<|.lent 0 (.inr ⟨Nat.le_of_ble_eq_true Y, Y⟩) Y (roM D59) .nil) Y Y<|.own _<|.inr ⟨Nat.le_of_ble_eq_true Y, Y⟩) (Zt (row := [_, _]) 1 Y X7 Y tZ_31) ?_ ?_
      ·
       refine Zfy 5 _ Y (by kernel_rfl) Y Y (fun hp'=>ZA (ys := [_, _]) Jz JB X7 (.cons (cvs (ov Y)<|Zp Y)<|.cons (cvs (ov Y)<|Zp Y) .nil) Y)<|Zlu 6 _ _ Y (by kernel_rfl) Y Y (fun _=>Ext.app) (fun h=>by cases h) (Zt (row := [_, _]) 2 Y X7 Y tZ_31)<|Do 7 Y (Zo (ov Y) (ov Y) (Zk ZY Y) Y Y Y (Nat.le_of_ble_eq_true Y) (Zd Y) Y)<|Dd<|I1 (fun Samples=>⟨[(4, .ptr 0 1 0 0), (8, .ptr 1 1 0 0)], [some ⟨31, [[.int .i64 0, .nils]]⟩, some ⟨31, [[.int .i64 c_.Den, .own 2 Samples.length]]⟩, some ⟨59, List.map R59 Samples⟩]⟩) h (fun h=>?_) fun Samples h=>?_
       ·
        refine K3 3 4 8 Y<|Tr<|Rq Y (Zg (ov Y) Y Y Qb)<|Rq Y (Zn (ov Y) Y Y Y X6 Y)<|Rq Y (Zc9 (ov Y) Y Y QV)<|Rm Y<|Za<|Zf<|?_
        obtain ⟨r1, hl1, ho1⟩ := Z1 h
        refine L2 (fun Samples2 i=>⟨[(3, .rp [.int .i64 c_.Den, .sl 101 (List.map Jw c_.Lines), .int .i64 c_.Low, .int .i64 c_.High] 0), (4, .ptr 0 1 0 0), (8, .ptr 1 1 0 0), (36, .own 2 Samples2.length), (37, .int .i64 (y3.length : Int)), (38, .int .i64 i)], [some ⟨31, [[.int .i64 0, .nils]]⟩, some ⟨31, [[.int .i64 c_.Den, .own 2 Samples2.length]]⟩, some ⟨59, List.map R59 Samples2⟩]⟩) hl1 (ES [some 0, some 2, some 1]) fun n1 Samples2 i h=>?_
        unfold ZI at h
        refine Tr<|R2 Zw Y<|Za<|Zj<|If h Y (fun h=>?_) fun h=>?_
        ·
         refine Ze<|Zj<|Zf<|K6 3 4 8 36 37 38 Y<|Tr<|Rm Y<|bE h fun x h_x h=>Rq Y (Zay (ov Y) (ov Y) QV Y Y h_x)<|Rq Y (Zcb (ov Y) Y Y h_x Xn Y Y)<|Rx Y (Zt (row := [_, _, _]) 3 Y Zbi Y tZ_59)<|Ra Y<|Rx Y (Zo (ov Y) (ov Y) (Zk Xn Y) Y Y Y (Nat.le_of_ble_eq_true Y) (Zd Y) Y)<|Za<|Zj<|K8 3 4 8 9 10 36 37 38 Y<|Tr<|Rq Y (Zg (ov Y) Y Y Qy)<|Rq Y (Zn (ov Y) Y Y Y tS3 Y)<|R2 Zw Y<|Za<|K9 3 4 8 9 10 36 37 38 45 Y<|If h Y (fun h=>?_) fun h=>?_
         ·
          exact Zu<|K6 3 4 8 36 37 38 Y<|Zs<|R2 ZB Y<|Rm Y<|Za<|⟨_, h, ES [some 0, some 1, some 2]⟩
         ·
          refine Ze<|K8 3 4 8 9 10 36 37 38 Y<|Tr<|Rq Y (Zh (ov Y) ZgF Y Y)<|Rq Y (Zg (ov Y) Y Y Zbg)<|Rq Y (Zn (ov Y) Y Y Y tS3 Y)<|bE h fun y4 h_y4 h=>Rq Y (Zl (QM h_y4)<|.cons (ov Y) (.aggB Y)<|.cons (ov Y) (.b Y) .nil)<|Rm Y<|Rq Y (Zr (ov Y) Y)<|Rq Y (Zr (ov Y) Y)<|Ra Y<|Ra Y<|Za<|I2 (fun Mark n=>⟨[(3, .rp [.int .i64 c_.Den, .sl 101 (List.map Jw c_.Lines), .int .i64 c_.Low, .int .i64 c_.High] 0), (4, .ptr 0 1 0 0), (8, .ptr 1 1 0 0), (9, .int .i64 i), (10, .ptr 3 1 0 0), (11, .int .i64 n), (36, .own 2 Samples2.length), (37, .int .i64 (y3.length : Int)), (38, .int .i64 i)], [some ⟨31, [[.int .i64 0, .nils]]⟩, some ⟨31, [[.int .i64 c_.Den, .own 2 Samples2.length]]⟩, some ⟨59, List.map R59 Samples2⟩, some ⟨59, [[.int .i64 x.At, .int .i64 x.N, .int .i64 Mark]]⟩]⟩) h (fun h=>?_) fun Mark n h=>?_
          ·
           refine K10 3 4 8 9 10 11 12 36 37 38 Y<|Tr<|Rm Y<|R1 Z0 Y<|Za<|K10 3 4 8 9 10 11 36 37 38 54 Y<|If h Y (fun h=>?_) fun h=>?_
           ·
            exact K9 3 4 8 9 10 11 36 37 38 Y<|Zs<|Ra Y<|Rq Y (Zg (ov Y) Y Y Qy)<|Rx Y (Zo (ov Y) (ov Y) (ZO tS3) Y Y Y (Nat.le_of_ble_eq_true Y) (Zd Y) Y)<|Za<|⟨_, h, ES [some 0, some 1, some 2, some 3]⟩
           ·
            exact Ze<|⟨_, h, ES [some 0, some 1, some 2, some 3]⟩
          ·
           exact Zs<|Rq Y (Zg (ov Y) Y Y Qb)<|Rq Y (Zn (ov Y) Y Y Y X6 Y)<|Rm Y<|Rq Y (Zg (ov Y) Y Y Zaz)<|Rq Y (Zn (ov Y) Y Y Y tS3 Y)<|Rm Y<|Rq Y (Zg (ov Y) Y Y Qy)<|Rq Y (Zn (ov Y) Y Y Y tS3 Y)<|Rq Y (ZA (ys := [_, _, _]) Zcl Zcn Zbi (.cons (cvs (ov Y)<|Zp Y)<|.cons (cvs (ov Y)<|Zp Y)<|.cons (cvs (ov Y)<|Zp Y) .nil) Y)<|bE h fun x2 h_x2 h=>Rq Y (Zay (ov Y) (ov Y) QV Y Y h_x2)<|Rx Y (Zcd (u' := (api_Sample.mk x.At n Mark)) (ov Y) (ov Y) (Zk Xn Y) Y Y h_x2 Y (Zd Y) Y)<|Za<|K6 3 4 8 36 37 38 Y<|Zs<|R2 ZB Y<|Rm Y<|Za<|⟨_, h, Ent.sel [some 0, some 1, some 2] (sd 3 Y Y<|sr 4 Y (.ptr _ _ _ Y)<|sr 8 Y (.ptr _ _ _ Y)<|sr 36 Y (ZeX (Eq.symm<|(List.length_set ..).trans Y) Y)<|sd 37 Y Y<|sd 38 Y Y sn) (.cons Y (ro1 (by exact tZ_31.symm)<|rld Y)<|.cons Y (ro1 (by exact tZ_31.symm)<|rlc (.dat Y)<|rlc (ZeX (Eq.symm<|(List.length_set ..).trans Y) Y) rln)<|.cons Y (roM D59) .nil) Y Y⟩
        ·
         refine Zu<|?_
         replace h := lx h ▸ ho1
         exact ⟨_, h, ES [some 0, some 1, some 2]⟩
       ·
        refine Tr<|Rq Y (ZL (ov Y) Y Y Y ZY Y Y)<|Rx Y (Zo (ov Y) (ov Y) (Zk ZY Y) Y Y Y (Nat.le_of_ble_eq_true Y) (Zd Y) Y)<|Ra Y<|Za<|?_
        obtain rfl := rt h
        exact Zi (Zq Y (.two (.agg Y Y Y Y ZY Y Y<|.cons (Dat.view<|.b Y)<|.cons (View.ownM Y Y D59) .nil)<|rb Y))
      ·
       refine Do 4 Y (Qq [] (XG h_y3) (.cons (ov Y) (.dat Y) .nil) .nil Y (.keep Y Y<|.keep Y Y<|.lent 0 (.inr ⟨Nat.le_of_ble_eq_true Y, Y⟩) Y (roM D59) .nil) Y Y<|.own _<|.inr ⟨Nat.le_of_ble_eq_true Y, Y⟩)<|Dq 5 Y (ZA (ys := [_, _]) Jz JB X7 (.cons (cvs (ov Y)<|Zp Y)<|.cons (cvs (ov Y)<|Zp Y) .nil) Y)<|Do 7 Y (Zo (ov Y) (ov Y) (Zk ZY Y) Y Y Y (Nat.le_of_ble_eq_true Y) (Zd Y) Y)<|Dd<|I1 (fun Samples=>⟨[(4, .ptr 0 1 0 0), (8, .ptr 1 1 0 0)], [some ⟨31, [[.int .i64 0, .nils]]⟩, some ⟨31, [[.int .i64 c_.Den, .own 2 Samples.length]]⟩, some ⟨59, List.map R59 Samples⟩]⟩) h (fun h=>?_) fun Samples h=>?_
       ·
        refine K3 3 4 8 Y<|Tr<|Rq Y (Zg (ov Y) Y Y Qb)<|Rq Y (Zn (ov Y) Y Y Y X6 Y)<|Rq Y (Zc9 (ov Y) Y Y QV)<|Rm Y<|Za<|Zf<|?_
        obtain ⟨r1, hl1, ho1⟩ := Z1 h
        refine L2 (fun Samples2 i=>⟨[(3, .rp [.int .i64 c_.Den, .sl 101 (List.map Jw c_.Lines), .int .i64 c_.Low, .int .i64 c_.High] 0), (4, .ptr 0 1 0 0), (8, .ptr 1 1 0 0), (36, .own 2 Samples2.length), (37, .int .i64 (y3.length : Int)), (38, .int .i64 i)], [some ⟨31, [[.int .i64 0, .nils]]⟩, some ⟨31, [[.int .i64 c_.Den, .own 2 Samples2.length]]⟩, some ⟨59, List.map R59 Samples2⟩]⟩) hl1 (ES [some 0, some 1, some 2]) fun n1 Samples2 i h=>?_
        unfold ZI at h
        refine Tr<|R2 Zw Y<|Za<|Zj<|If h Y (fun h=>?_) fun h=>?_
        ·
         refine Ze<|Zj<|Zf<|K6 3 4 8 36 37 38 Y<|Tr<|Rm Y<|bE h fun x h_x h=>Rq Y (Zay (ov Y) (ov Y) QV Y Y h_x)<|Rq Y (Zcb (ov Y) Y Y h_x Xn Y Y)<|Rx Y (Zt (row := [_, _, _]) 3 Y Zbi Y tZ_59)<|Ra Y<|Rx Y (Zo (ov Y) (ov Y) (Zk Xn Y) Y Y Y (Nat.le_of_ble_eq_true Y) (Zd Y) Y)<|Za<|Zj<|K8 3 4 8 9 10 36 37 38 Y<|Tr<|Rq Y (Zg (ov Y) Y Y Qy)<|Rq Y (Zn (ov Y) Y Y Y tS3 Y)<|R2 Zw Y<|Za<|K9 3 4 8 9 10 36 37 38 45 Y<|If h Y (fun h=>?_) fun h=>?_
         ·
          exact Zu<|K6 3 4 8 36 37 38 Y<|Zs<|R2 ZB Y<|Rm Y<|Za<|⟨_, h, ES [some 0, some 1, some 2]⟩
         ·
          refine Ze<|K8 3 4 8 9 10 36 37 38 Y<|Tr<|Rq Y (Zh (ov Y) ZgF Y Y)<|Rq Y (Zg (ov Y) Y Y Zbg)<|Rq Y (Zn (ov Y) Y Y Y tS3 Y)<|bE h fun y4 h_y4 h=>Rq Y (Zl (QM h_y4)<|.cons (ov Y) (.aggB Y)<|.cons (ov Y) (.b Y) .nil)<|Rm Y<|Rq Y (Zr (ov Y) Y)<|Rq Y (Zr (ov Y) Y)<|Ra Y<|Ra Y<|Za<|I2 (fun Mark n=>⟨[(3, .rp [.int .i64 c_.Den, .sl 101 (List.map Jw c_.Lines), .int .i64 c_.Low, .int .i64 c_.High] 0), (4, .ptr 0 1 0 0), (8, .ptr 1 1 0 0), (9, .int .i64 i), (10, .ptr 3 1 0 0), (11, .int .i64 n), (36, .own 2 Samples2.length), (37, .int .i64 (y3.length : Int)), (38, .int .i64 i)], [some ⟨31, [[.int .i64 0, .nils]]⟩, some ⟨31, [[.int .i64 c_.Den, .own 2 Samples2.length]]⟩, some ⟨59, List.map R59 Samples2⟩, some ⟨59, [[.int .i64 x.At, .int .i64 x.N, .int .i64 Mark]]⟩]⟩) h (fun h=>?_) fun Mark n h=>?_
          ·
           refine K10 3 4 8 9 10 11 12 36 37 38 Y<|Tr<|Rm Y<|R1 Z0 Y<|Za<|K10 3 4 8 9 10 11 36 37 38 54 Y<|If h Y (fun h=>?_) fun h=>?_
           ·
            exact K9 3 4 8 9 10 11 36 37 38 Y<|Zs<|Ra Y<|Rq Y (Zg (ov Y) Y Y Qy)<|Rx Y (Zo (ov Y) (ov Y) (ZO tS3) Y Y Y (Nat.le_of_ble_eq_true Y) (Zd Y) Y)<|Za<|⟨_, h, ES [some 0, some 1, some 2, some 3]⟩
           ·
            exact Ze<|⟨_, h, ES [some 0, some 1, some 2, some 3]⟩
          ·
           exact Zs<|Rq Y (Zg (ov Y) Y Y Qb)<|Rq Y (Zn (ov Y) Y Y Y X6 Y)<|Rm Y<|Rq Y (Zg (ov Y) Y Y Zaz)<|Rq Y (Zn (ov Y) Y Y Y tS3 Y)<|Rm Y<|Rq Y (Zg (ov Y) Y Y Qy)<|Rq Y (Zn (ov Y) Y Y Y tS3 Y)<|Rq Y (ZA (ys := [_, _, _]) Zcl Zcn Zbi (.cons (cvs (ov Y)<|Zp Y)<|.cons (cvs (ov Y)<|Zp Y)<|.cons (cvs (ov Y)<|Zp Y) .nil) Y)<|bE h fun x2 h_x2 h=>Rq Y (Zay (ov Y) (ov Y) QV Y Y h_x2)<|Rx Y (Zcd (u' := (api_Sample.mk x.At n Mark)) (ov Y) (ov Y) (Zk Xn Y) Y Y h_x2 Y (Zd Y) Y)<|Za<|K6 3 4 8 36 37 38 Y<|Zs<|R2 ZB Y<|Rm Y<|Za<|⟨_, h, Ent.sel [some 0, some 1, some 2] (sd 3 Y Y<|sr 4 Y (.ptr _ _ _ Y)<|sr 8 Y (.ptr _ _ _ Y)<|sr 36 Y (ZeX (Eq.symm<|(List.length_set ..).trans Y) Y)<|sd 37 Y Y<|sd 38 Y Y sn) (.cons Y (ro1 (by exact tZ_31.symm)<|rld Y)<|.cons Y (ro1 (by exact tZ_31.symm)<|rlc (.dat Y)<|rlc (ZeX (Eq.symm<|(List.length_set ..).trans Y) Y) rln)<|.cons Y (roM D59) .nil) Y Y⟩
        ·
         refine Zu<|?_
         replace h := lx h ▸ ho1
         exact ⟨_, h, ES [some 0, some 1, some 2]⟩
       ·
        refine Tr<|Rq Y (ZL (ov Y) Y Y Y ZY Y Y)<|Rx Y (Zo (ov Y) (ov Y) (Zk ZY Y) Y Y Y (Nat.le_of_ble_eq_true Y) (Zd Y) Y)<|Ra Y<|Za<|?_
        obtain rfl := rt h
        exact Zi (Zq Y (.two (.agg Y Y Y Y ZY Y Y<|.cons (Dat.view<|.b Y)<|.cons (View.ownM Y Y D59) .nil)<|rb Y))
     ·
      refine ZiJ 1 _ Y (by kernel_rfl) Y Y Y ExtW.refl (fun hp' hx=>Zb (ov Y) tS3 Y)<|Zfy 5 _ Y (by kernel_rfl) Y Y (fun hp'=>ZA (ys := [_, _]) Jz JB X7 (.cons (cvs (ov Y)<|Zp Y)<|.cons (cvs (ov Y)<|Zp Y) .nil) Y)<|Zlu 6 _ _ Y (by kernel_rfl) Y Y (fun _=>Ext.app) (fun h=>by cases h) (Zt (row := [_, _]) 2 Y X7 Y tZ_31)<|Do 7 Y (Zo (ov Y) (ov Y) (Zk ZY Y) Y Y Y (Nat.le_of_ble_eq_true Y) (Zd Y) Y)<|Dd<|I1 (fun Samples=>⟨[(4, .ptr 0 1 0 0), (8, .ptr 1 1 0 0)], [some ⟨31, [[.int .i64 0, .nils]]⟩, some ⟨31, [[.int .i64 c_.Den, .own 2 Samples.length]]⟩, some ⟨59, List.map R59 Samples⟩]⟩) h (fun h=>?_) fun Samples h=>?_
      ·
       refine K3 3 4 8 Y<|Tr<|Rq Y (Zg (ov Y) Y Y Qb)<|Rq Y (Zn (ov Y) Y Y Y X6 Y)<|Rq Y (Zc9 (ov Y) Y Y QV)<|Rm Y<|Za<|Zf<|?_
       obtain ⟨r1, hl1, ho1⟩ := Z1 h
       refine L2 (fun Samples2 i=>⟨[(3, .rp [.int .i64 c_.Den, .sl 101 (List.map Jw c_.Lines), .int .i64 c_.Low, .int .i64 c_.High] 0), (4, .ptr 0 1 0 0), (8, .ptr 1 1 0 0), (36, .own 2 Samples2.length), (37, .int .i64 (y3.length : Int)), (38, .int .i64 i)], [some ⟨31, [[.int .i64 0, .nils]]⟩, some ⟨31, [[.int .i64 c_.Den, .own 2 Samples2.length]]⟩, some ⟨59, List.map R59 Samples2⟩]⟩) hl1 (ES [some 0, some 2, some 1]) fun n1 Samples2 i h=>?_
       unfold ZI at h
       refine Tr<|R2 Zw Y<|Za<|Zj<|If h Y (fun h=>?_) fun h=>?_
       ·
        refine Ze<|Zj<|Zf<|K6 3 4 8 36 37 38 Y<|Tr<|Rm Y<|bE h fun x h_x h=>Rq Y (Zay (ov Y) (ov Y) QV Y Y h_x)<|Rq Y (Zcb (ov Y) Y Y h_x Xn Y Y)<|Rx Y (Zt (row := [_, _, _]) 3 Y Zbi Y tZ_59)<|Ra Y<|Rx Y (Zo (ov Y) (ov Y) (Zk Xn Y) Y Y Y (Nat.le_of_ble_eq_true Y) (Zd Y) Y)<|Za<|Zj<|K8 3 4 8 9 10 36 37 38 Y<|Tr<|Rq Y (Zg (ov Y) Y Y Qy)<|Rq Y (Zn (ov Y) Y Y Y tS3 Y)<|R2 Zw Y<|Za<|K9 3 4 8 9 10 36 37 38 45 Y<|If h Y (fun h=>?_) fun h=>?_
        ·
         exact Zu<|K6 3 4 8 36 37 38 Y<|Zs<|R2 ZB Y<|Rm Y<|Za<|⟨_, h, ES [some 0, some 1, some 2]⟩
        ·
         refine Ze<|K8 3 4 8 9 10 36 37 38 Y<|Tr<|Rq Y (Zh (ov Y) ZgF Y Y)<|Rq Y (Zg (ov Y) Y Y Zbg)<|Rq Y (Zn (ov Y) Y Y Y tS3 Y)<|bE h fun y4 h_y4 h=>Rq Y (Zl (QM h_y4)<|.cons (ov Y) (.aggB Y)<|.cons (ov Y) (.b Y) .nil)<|Rm Y<|Rq Y (Zr (ov Y) Y)<|Rq Y (Zr (ov Y) Y)<|Ra Y<|Ra Y<|Za<|I2 (fun Mark n=>⟨[(3, .rp [.int .i64 c_.Den, .sl 101 (List.map Jw c_.Lines), .int .i64 c_.Low, .int .i64 c_.High] 0), (4, .ptr 0 1 0 0), (8, .ptr 1 1 0 0), (9, .int .i64 i), (10, .ptr 3 1 0 0), (11, .int .i64 n), (36, .own 2 Samples2.length), (37, .int .i64 (y3.length : Int)), (38, .int .i64 i)], [some ⟨31, [[.int .i64 0, .nils]]⟩, some ⟨31, [[.int .i64 c_.Den, .own 2 Samples2.length]]⟩, some ⟨59, List.map R59 Samples2⟩, some ⟨59, [[.int .i64 x.At, .int .i64 x.N, .int .i64 Mark]]⟩]⟩) h (fun h=>?_) fun Mark n h=>?_
         ·
          refine K10 3 4 8 9 10 11 12 36 37 38 Y<|Tr<|Rm Y<|R1 Z0 Y<|Za<|K10 3 4 8 9 10 11 36 37 38 54 Y<|If h Y (fun h=>?_) fun h=>?_
          ·
           exact K9 3 4 8 9 10 11 36 37 38 Y<|Zs<|Ra Y<|Rq Y (Zg (ov Y) Y Y Qy)<|Rx Y (Zo (ov Y) (ov Y) (ZO tS3) Y Y Y (Nat.le_of_ble_eq_true Y) (Zd Y) Y)<|Za<|⟨_, h, ES [some 0, some 1, some 2, some 3]⟩
          ·
           exact Ze<|⟨_, h, ES [some 0, some 1, some 2, some 3]⟩
         ·
          exact Zs<|Rq Y (Zg (ov Y) Y Y Qb)<|Rq Y (Zn (ov Y) Y Y Y X6 Y)<|Rm Y<|Rq Y (Zg (ov Y) Y Y Zaz)<|Rq Y (Zn (ov Y) Y Y Y tS3 Y)<|Rm Y<|Rq Y (Zg (ov Y) Y Y Qy)<|Rq Y (Zn (ov Y) Y Y Y tS3 Y)<|Rq Y (ZA (ys := [_, _, _]) Zcl Zcn Zbi (.cons (cvs (ov Y)<|Zp Y)<|.cons (cvs (ov Y)<|Zp Y)<|.cons (cvs (ov Y)<|Zp Y) .nil) Y)<|bE h fun x2 h_x2 h=>Rq Y (Zay (ov Y) (ov Y) QV Y Y h_x2)<|Rx Y (Zcd (u' := (api_Sample.mk x.At n Mark)) (ov Y) (ov Y) (Zk Xn Y) Y Y h_x2 Y (Zd Y) Y)<|Za<|K6 3 4 8 36 37 38 Y<|Zs<|R2 ZB Y<|Rm Y<|Za<|⟨_, h, Ent.sel [some 0, some 1, some 2] (sd 3 Y Y<|sr 4 Y (.ptr _ _ _ Y)<|sr 8 Y (.ptr _ _ _ Y)<|sr 36 Y (ZeX (Eq.symm<|(List.length_set ..).trans Y) Y)<|sd 37 Y Y<|sd 38 Y Y sn) (.cons Y (ro1 (by exact tZ_31.symm)<|rld Y)<|.cons Y (ro1 (by exact tZ_31.symm)<|rlc (.dat Y)<|rlc (ZeX (Eq.symm<|(List.length_set ..).trans Y) Y) rln)<|.cons Y (roM D59) .nil) Y Y⟩
       ·
        refine Zu<|?_
        replace h := lx h ▸ ho1
        exact ⟨_, h, ES [some 0, some 1, some 2]⟩
      ·
       refine Tr<|Rq Y (ZL (ov Y) Y Y Y ZY Y Y)<|Rx Y (Zo (ov Y) (ov Y) (Zk ZY Y) Y Y Y (Nat.le_of_ble_eq_true Y) (Zd Y) Y)<|Ra Y<|Za<|?_
       obtain rfl := rt h
       exact Zi (Zq Y (.two (.agg Y Y Y Y ZY Y Y<|.cons (Dat.view<|.b Y)<|.cons (View.ownM Y Y D59) .nil)<|rb Y))
     ·
      refine Dw 1 4 Y (Zb (ov Y) tS3 Y) (Qq [] (XG h_y3) (.cons (ov Y) (.dat Y) .nil) .nil Y (.keep Y Y<|.keep Y Y<|.lent 0 (.inr ⟨Nat.le_of_ble_eq_true Y, Y⟩) Y (roM D59) .nil) Y Y<|.own _<|.inr ⟨Nat.le_of_ble_eq_true Y, Y⟩) ?_ ?_
      ·
       refine Do 4 Y (Qq [] (XG h_y3) (.cons (ov Y) (.dat Y) .nil) .nil Y (.keep Y Y<|.keep Y Y<|.lent 0 (.inr ⟨Nat.le_of_ble_eq_true Y, Y⟩) Y (roM D59) .nil) Y Y<|.own _<|.inr ⟨Nat.le_of_ble_eq_true Y, Y⟩)<|Dq 5 Y (ZA (ys := [_, _]) Jz JB X7 (.cons (cvs (ov Y)<|Zp Y)<|.cons (cvs (ov Y)<|Zp Y) .nil) Y)<|Do 7 Y (Zo (ov Y) (ov Y) (Zk ZY Y) Y Y Y (Nat.le_of_ble_eq_true Y) (Zd Y) Y)<|Dd<|I1 (fun Samples=>⟨[(4, .ptr 0 1 0 0), (8, .ptr 1 1 0 0)], [some ⟨31, [[.int .i64 0, .nils]]⟩, some ⟨31, [[.int .i64 c_.Den, .own 2 Samples.length]]⟩, some ⟨59, List.map R59 Samples⟩]⟩) h (fun h=>?_) fun Samples h=>?_
       ·
        refine K3 3 4 8 Y<|Tr<|Rq Y (Zg (ov Y) Y Y Qb)<|Rq Y (Zn (ov Y) Y Y Y X6 Y)<|Rq Y (Zc9 (ov Y) Y Y QV)<|Rm Y<|Za<|Zf<|?_
        obtain ⟨r1, hl1, ho1⟩ := Z1 h
        refine L2 (fun Samples2 i=>⟨[(3, .rp [.int .i64 c_.Den, .sl 101 (List.map Jw c_.Lines), .int .i64 c_.Low, .int .i64 c_.High] 0), (4, .ptr 0 1 0 0), (8, .ptr 1 1 0 0), (36, .own 2 Samples2.length), (37, .int .i64 (y3.length : Int)), (38, .int .i64 i)], [some ⟨31, [[.int .i64 0, .nils]]⟩, some ⟨31, [[.int .i64 c_.Den, .own 2 Samples2.length]]⟩, some ⟨59, List.map R59 Samples2⟩]⟩) hl1 (ES [some 0, some 1, some 2]) fun n1 Samples2 i h=>?_
        unfold ZI at h
        refine Tr<|R2 Zw Y<|Za<|Zj<|If h Y (fun h=>?_) fun h=>?_
        ·
         refine Ze<|Zj<|Zf<|K6 3 4 8 36 37 38 Y<|Tr<|Rm Y<|bE h fun x h_x h=>Rq Y (Zay (ov Y) (ov Y) QV Y Y h_x)<|Rq Y (Zcb (ov Y) Y Y h_x Xn Y Y)<|Rx Y (Zt (row := [_, _, _]) 3 Y Zbi Y tZ_59)<|Ra Y<|Rx Y (Zo (ov Y) (ov Y) (Zk Xn Y) Y Y Y (Nat.le_of_ble_eq_true Y) (Zd Y) Y)<|Za<|Zj<|K8 3 4 8 9 10 36 37 38 Y<|Tr<|Rq Y (Zg (ov Y) Y Y Qy)<|Rq Y (Zn (ov Y) Y Y Y tS3 Y)<|R2 Zw Y<|Za<|K9 3 4 8 9 10 36 37 38 45 Y<|If h Y (fun h=>?_) fun h=>?_
         ·
          exact Zu<|K6 3 4 8 36 37 38 Y<|Zs<|R2 ZB Y<|Rm Y<|Za<|⟨_, h, ES [some 0, some 1, some 2]⟩
         ·
          refine Ze<|K8 3 4 8 9 10 36 37 38 Y<|Tr<|Rq Y (Zh (ov Y) ZgF Y Y)<|Rq Y (Zg (ov Y) Y Y Zbg)<|Rq Y (Zn (ov Y) Y Y Y tS3 Y)<|bE h fun y4 h_y4 h=>Rq Y (Zl (QM h_y4)<|.cons (ov Y) (.aggB Y)<|.cons (ov Y) (.b Y) .nil)<|Rm Y<|Rq Y (Zr (ov Y) Y)<|Rq Y (Zr (ov Y) Y)<|Ra Y<|Ra Y<|Za<|I2 (fun Mark n=>⟨[(3, .rp [.int .i64 c_.Den, .sl 101 (List.map Jw c_.Lines), .int .i64 c_.Low, .int .i64 c_.High] 0), (4, .ptr 0 1 0 0), (8, .ptr 1 1 0 0), (9, .int .i64 i), (10, .ptr 3 1 0 0), (11, .int .i64 n), (36, .own 2 Samples2.length), (37, .int .i64 (y3.length : Int)), (38, .int .i64 i)], [some ⟨31, [[.int .i64 0, .nils]]⟩, some ⟨31, [[.int .i64 c_.Den, .own 2 Samples2.length]]⟩, some ⟨59, List.map R59 Samples2⟩, some ⟨59, [[.int .i64 x.At, .int .i64 x.N, .int .i64 Mark]]⟩]⟩) h (fun h=>?_) fun Mark n h=>?_
          ·
           refine K10 3 4 8 9 10 11 12 36 37 38 Y<|Tr<|Rm Y<|R1 Z0 Y<|Za<|K10 3 4 8 9 10 11 36 37 38 54 Y<|If h Y (fun h=>?_) fun h=>?_
           ·
            exact K9 3 4 8 9 10 11 36 37 38 Y<|Zs<|Ra Y<|Rq Y (Zg (ov Y) Y Y Qy)<|Rx Y (Zo (ov Y) (ov Y) (ZO tS3) Y Y Y (Nat.le_of_ble_eq_true Y) (Zd Y) Y)<|Za<|⟨_, h, ES [some 0, some 1, some 2, some 3]⟩
           ·
            exact Ze<|⟨_, h, ES [some 0, some 1, some 2, some 3]⟩
          ·
           exact Zs<|Rq Y (Zg (ov Y) Y Y Qb)<|Rq Y (Zn (ov Y) Y Y Y X6 Y)<|Rm Y<|Rq Y (Zg (ov Y) Y Y Zaz)<|Rq Y (Zn (ov Y) Y Y Y tS3 Y)<|Rm Y<|Rq Y (Zg (ov Y) Y Y Qy)<|Rq Y (Zn (ov Y) Y Y Y tS3 Y)<|Rq Y (ZA (ys := [_, _, _]) Zcl Zcn Zbi (.cons (cvs (ov Y)<|Zp Y)<|.cons (cvs (ov Y)<|Zp Y)<|.cons (cvs (ov Y)<|Zp Y) .nil) Y)<|bE h fun x2 h_x2 h=>Rq Y (Zay (ov Y) (ov Y) QV Y Y h_x2)<|Rx Y (Zcd (u' := (api_Sample.mk x.At n Mark)) (ov Y) (ov Y) (Zk Xn Y) Y Y h_x2 Y (Zd Y) Y)<|Za<|K6 3 4 8 36 37 38 Y<|Zs<|R2 ZB Y<|Rm Y<|Za<|⟨_, h, Ent.sel [some 0, some 1, some 2] (sd 3 Y Y<|sr 4 Y (.ptr _ _ _ Y)<|sr 8 Y (.ptr _ _ _ Y)<|sr 36 Y (ZeX (Eq.symm<|(List.length_set ..).trans Y) Y)<|sd 37 Y Y<|sd 38 Y Y sn) (.cons Y (ro1 (by exact tZ_31.symm)<|rld Y)<|.cons Y (ro1 (by exact tZ_31.symm)<|rlc (.dat Y)<|rlc (ZeX (Eq.symm<|(List.length_set ..).trans Y) Y) rln)<|.cons Y (roM D59) .nil) Y Y⟩
        ·
         refine Zu<|?_
         replace h := lx h ▸ ho1
         exact ⟨_, h, ES [some 0, some 1, some 2]⟩
       ·
        refine Tr<|Rq Y (ZL (ov Y) Y Y Y ZY Y Y)<|Rx Y (Zo (ov Y) (ov Y) (Zk ZY Y) Y Y Y (Nat.le_of_ble_eq_true Y) (Zd Y) Y)<|Ra Y<|Za<|?_
        obtain rfl := rt h
        exact Zi (Zq Y (.two (.agg Y Y Y Y ZY Y Y<|.cons (Dat.view<|.b Y)<|.cons (View.ownM Y Y D59) .nil)<|rb Y))
      ·
       refine Dq 1 Y (Zb (ov Y) tS3 Y)<|Dq 5 Y (ZA (ys := [_, _]) Jz JB X7 (.cons (cvs (ov Y)<|Zp Y)<|.cons (cvs (ov Y)<|Zp Y) .nil) Y)<|Do 7 Y (Zo (ov Y) (ov Y) (Zk ZY Y) Y Y Y (Nat.le_of_ble_eq_true Y) (Zd Y) Y)<|Dd<|I1 (fun Samples=>⟨[(4, .ptr 0 1 0 0), (8, .ptr 1 1 0 0)], [some ⟨31, [[.int .i64 0, .nils]]⟩, some ⟨31, [[.int .i64 c_.Den, .own 2 Samples.length]]⟩, some ⟨59, List.map R59 Samples⟩]⟩) h (fun h=>?_) fun Samples h=>?_
       ·
        refine K3 3 4 8 Y<|Tr<|Rq Y (Zg (ov Y) Y Y Qb)<|Rq Y (Zn (ov Y) Y Y Y X6 Y)<|Rq Y (Zc9 (ov Y) Y Y QV)<|Rm Y<|Za<|Zf<|?_
        obtain ⟨r1, hl1, ho1⟩ := Z1 h
        refine L2 (fun Samples2 i=>⟨[(3, .rp [.int .i64 c_.Den, .sl 101 (List.map Jw c_.Lines), .int .i64 c_.Low, .int .i64 c_.High] 0), (4, .ptr 0 1 0 0), (8, .ptr 1 1 0 0), (36, .own 2 Samples2.length), (37, .int .i64 (y3.length : Int)), (38, .int .i64 i)], [some ⟨31, [[.int .i64 0, .nils]]⟩, some ⟨31, [[.int .i64 c_.Den, .own 2 Samples2.length]]⟩, some ⟨59, List.map R59 Samples2⟩]⟩) hl1 (ES [some 0, some 1, some 2]) fun n1 Samples2 i h=>?_
        unfold ZI at h
        refine Tr<|R2 Zw Y<|Za<|Zj<|If h Y (fun h=>?_) fun h=>?_
        ·
         refine Ze<|Zj<|Zf<|K6 3 4 8 36 37 38 Y<|Tr<|Rm Y<|bE h fun x h_x h=>Rq Y (Zay (ov Y) (ov Y) QV Y Y h_x)<|Rq Y (Zcb (ov Y) Y Y h_x Xn Y Y)<|Rx Y (Zt (row := [_, _, _]) 3 Y Zbi Y tZ_59)<|Ra Y<|Rx Y (Zo (ov Y) (ov Y) (Zk Xn Y) Y Y Y (Nat.le_of_ble_eq_true Y) (Zd Y) Y)<|Za<|Zj<|K8 3 4 8 9 10 36 37 38 Y<|Tr<|Rq Y (Zg (ov Y) Y Y Qy)<|Rq Y (Zn (ov Y) Y Y Y tS3 Y)<|R2 Zw Y<|Za<|K9 3 4 8 9 10 36 37 38 45 Y<|If h Y (fun h=>?_) fun h=>?_
         ·
          exact Zu<|K6 3 4 8 36 37 38 Y<|Zs<|R2 ZB Y<|Rm Y<|Za<|⟨_, h, ES [some 0, some 1, some 2]⟩
         ·
          refine Ze<|K8 3 4 8 9 10 36 37 38 Y<|Tr<|Rq Y (Zh (ov Y) ZgF Y Y)<|Rq Y (Zg (ov Y) Y Y Zbg)<|Rq Y (Zn (ov Y) Y Y Y tS3 Y)<|bE h fun y4 h_y4 h=>Rq Y (Zl (QM h_y4)<|.cons (ov Y) (.aggB Y)<|.cons (ov Y) (.b Y) .nil)<|Rm Y<|Rq Y (Zr (ov Y) Y)<|Rq Y (Zr (ov Y) Y)<|Ra Y<|Ra Y<|Za<|I2 (fun Mark n=>⟨[(3, .rp [.int .i64 c_.Den, .sl 101 (List.map Jw c_.Lines), .int .i64 c_.Low, .int .i64 c_.High] 0), (4, .ptr 0 1 0 0), (8, .ptr 1 1 0 0), (9, .int .i64 i), (10, .ptr 3 1 0 0), (11, .int .i64 n), (36, .own 2 Samples2.length), (37, .int .i64 (y3.length : Int)), (38, .int .i64 i)], [some ⟨31, [[.int .i64 0, .nils]]⟩, some ⟨31, [[.int .i64 c_.Den, .own 2 Samples2.length]]⟩, some ⟨59, List.map R59 Samples2⟩, some ⟨59, [[.int .i64 x.At, .int .i64 x.N, .int .i64 Mark]]⟩]⟩) h (fun h=>?_) fun Mark n h=>?_
          ·
           refine K10 3 4 8 9 10 11 12 36 37 38 Y<|Tr<|Rm Y<|R1 Z0 Y<|Za<|K10 3 4 8 9 10 11 36 37 38 54 Y<|If h Y (fun h=>?_) fun h=>?_
           ·
            exact K9 3 4 8 9 10 11 36 37 38 Y<|Zs<|Ra Y<|Rq Y (Zg (ov Y) Y Y Qy)<|Rx Y (Zo (ov Y) (ov Y) (ZO tS3) Y Y Y (Nat.le_of_ble_eq_true Y) (Zd Y) Y)<|Za<|⟨_, h, ES [some 0, some 1, some 2, some 3]⟩
           ·
            exact Ze<|⟨_, h, ES [some 0, some 1, some 2, some 3]⟩
          ·
           exact Zs<|Rq Y (Zg (ov Y) Y Y Qb)<|Rq Y (Zn (ov Y) Y Y Y X6 Y)<|Rm Y<|Rq Y (Zg (ov Y) Y Y Zaz)<|Rq Y (Zn (ov Y) Y Y Y tS3 Y)<|Rm Y<|Rq Y (Zg (ov Y) Y Y Qy)<|Rq Y (Zn (ov Y) Y Y Y tS3 Y)<|Rq Y (ZA (ys := [_, _, _]) Zcl Zcn Zbi (.cons (cvs (ov Y)<|Zp Y)<|.cons (cvs (ov Y)<|Zp Y)<|.cons (cvs (ov Y)<|Zp Y) .nil) Y)<|bE h fun x2 h_x2 h=>Rq Y (Zay (ov Y) (ov Y) QV Y Y h_x2)<|Rx Y (Zcd (u' := (api_Sample.mk x.At n Mark)) (ov Y) (ov Y) (Zk Xn Y) Y Y h_x2 Y (Zd Y) Y)<|Za<|K6 3 4 8 36 37 38 Y<|Zs<|R2 ZB Y<|Rm Y<|Za<|⟨_, h, Ent.sel [some 0, some 1, some 2] (sd 3 Y Y<|sr 4 Y (.ptr _ _ _ Y)<|sr 8 Y (.ptr _ _ _ Y)<|sr 36 Y (ZeX (Eq.symm<|(List.length_set ..).trans Y) Y)<|sd 37 Y Y<|sd 38 Y Y sn) (.cons Y (ro1 (by exact tZ_31.symm)<|rld Y)<|.cons Y (ro1 (by exact tZ_31.symm)<|rlc (.dat Y)<|rlc (ZeX (Eq.symm<|(List.length_set ..).trans Y) Y) rln)<|.cons Y (roM D59) .nil) Y Y⟩
        ·
         refine Zu<|?_
         replace h := lx h ▸ ho1
         exact ⟨_, h, ES [some 0, some 1, some 2]⟩
       ·
        refine Tr<|Rq Y (ZL (ov Y) Y Y Y ZY Y Y)<|Rx Y (Zo (ov Y) (ov Y) (Zk ZY Y) Y Y Y (Nat.le_of_ble_eq_true Y) (Zd Y) Y)<|Ra Y<|Za<|?_
        obtain rfl := rt h
        exact Zi (Zq Y (.two (.agg Y Y Y Y ZY Y Y<|.cons (Dat.view<|.b Y)<|.cons (View.ownM Y Y D59) .nil)<|rb Y))
    ·
     refine ZiJ 0 _ Y (by kernel_rfl) Y Y Y ExtW.refl (fun hp' hx=>Zc (ov Y) Zgx)<|ZiJ 1 _ Y (by kernel_rfl) Y Y Y ExtW.refl (fun hp' hx=>Zb (ov Y) tS3 Y)<|Zfy 5 _ Y (by kernel_rfl) Y Y (fun hp'=>ZA (ys := [_, _]) Jz JB X7 (.cons (cvs (ov Y)<|Zp Y)<|.cons (cvs (ov Y)<|Zp Y) .nil) Y)<|Zlu 6 _ _ Y (by kernel_rfl) Y Y (fun _=>Ext.app) (fun h=>by cases h) (Zt (row := [_, _]) 2 Y X7 Y tZ_31)<|Do 7 Y (Zo (ov Y) (ov Y) (Zk ZY Y) Y Y Y (Nat.le_of_ble_eq_true Y) (Zd Y) Y)<|Dd<|I1 (fun Samples=>⟨[(4, .ptr 0 1 0 0), (8, .ptr 1 1 0 0)], [some ⟨31, [[.int .i64 0, .nils]]⟩, some ⟨31, [[.int .i64 c_.Den, .own 2 Samples.length]]⟩, some ⟨59, List.map R59 Samples⟩]⟩) h (fun h=>?_) fun Samples h=>?_
     ·
      refine K3 3 4 8 Y<|Tr<|Rq Y (Zg (ov Y) Y Y Qb)<|Rq Y (Zn (ov Y) Y Y Y X6 Y)<|Rq Y (Zc9 (ov Y) Y Y QV)<|Rm Y<|Za<|Zf<|?_
      obtain ⟨r1, hl1, ho1⟩ := Z1 h
      refine L2 (fun Samples2 i=>⟨[(3, .rp [.int .i64 c_.Den, .sl 101 (List.map Jw c_.Lines), .int .i64 c_.Low, .int .i64 c_.High] 0), (4, .ptr 0 1 0 0), (8, .ptr 1 1 0 0), (36, .own 2 Samples2.length), (37, .int .i64 (y3.length : Int)), (38, .int .i64 i)], [some ⟨31, [[.int .i64 0, .nils]]⟩, some ⟨31, [[.int .i64 c_.Den, .own 2 Samples2.length]]⟩, some ⟨59, List.map R59 Samples2⟩]⟩) hl1 (ES [some 0, some 2, some 1]) fun n1 Samples2 i h=>?_
      unfold ZI at h
      refine Tr<|R2 Zw Y<|Za<|Zj<|If h Y (fun h=>?_) fun h=>?_
      ·
       refine Ze<|Zj<|Zf<|K6 3 4 8 36 37 38 Y<|Tr<|Rm Y<|bE h fun x h_x h=>Rq Y (Zay (ov Y) (ov Y) QV Y Y h_x)<|Rq Y (Zcb (ov Y) Y Y h_x Xn Y Y)<|Rx Y (Zt (row := [_, _, _]) 3 Y Zbi Y tZ_59)<|Ra Y<|Rx Y (Zo (ov Y) (ov Y) (Zk Xn Y) Y Y Y (Nat.le_of_ble_eq_true Y) (Zd Y) Y)<|Za<|Zj<|K8 3 4 8 9 10 36 37 38 Y<|Tr<|Rq Y (Zg (ov Y) Y Y Qy)<|Rq Y (Zn (ov Y) Y Y Y tS3 Y)<|R2 Zw Y<|Za<|K9 3 4 8 9 10 36 37 38 45 Y<|If h Y (fun h=>?_) fun h=>?_
       ·
        exact Zu<|K6 3 4 8 36 37 38 Y<|Zs<|R2 ZB Y<|Rm Y<|Za<|⟨_, h, ES [some 0, some 1, some 2]⟩
       ·
        refine Ze<|K8 3 4 8 9 10 36 37 38 Y<|Tr<|Rq Y (Zh (ov Y) ZgF Y Y)<|Rq Y (Zg (ov Y) Y Y Zbg)<|Rq Y (Zn (ov Y) Y Y Y tS3 Y)<|bE h fun y4 h_y4 h=>Rq Y (Zl (QM h_y4)<|.cons (ov Y) (.aggB Y)<|.cons (ov Y) (.b Y) .nil)<|Rm Y<|Rq Y (Zr (ov Y) Y)<|Rq Y (Zr (ov Y) Y)<|Ra Y<|Ra Y<|Za<|I2 (fun Mark n=>⟨[(3, .rp [.int .i64 c_.Den, .sl 101 (List.map Jw c_.Lines), .int .i64 c_.Low, .int .i64 c_.High] 0), (4, .ptr 0 1 0 0), (8, .ptr 1 1 0 0), (9, .int .i64 i), (10, .ptr 3 1 0 0), (11, .int .i64 n), (36, .own 2 Samples2.length), (37, .int .i64 (y3.length : Int)), (38, .int .i64 i)], [some ⟨31, [[.int .i64 0, .nils]]⟩, some ⟨31, [[.int .i64 c_.Den, .own 2 Samples2.length]]⟩, some ⟨59, List.map R59 Samples2⟩, some ⟨59, [[.int .i64 x.At, .int .i64 x.N, .int .i64 Mark]]⟩]⟩) h (fun h=>?_) fun Mark n h=>?_
        ·
         refine K10 3 4 8 9 10 11 12 36 37 38 Y<|Tr<|Rm Y<|R1 Z0 Y<|Za<|K10 3 4 8 9 10 11 36 37 38 54 Y<|If h Y (fun h=>?_) fun h=>?_
         ·
          exact K9 3 4 8 9 10 11 36 37 38 Y<|Zs<|Ra Y<|Rq Y (Zg (ov Y) Y Y Qy)<|Rx Y (Zo (ov Y) (ov Y) (ZO tS3) Y Y Y (Nat.le_of_ble_eq_true Y) (Zd Y) Y)<|Za<|⟨_, h, ES [some 0, some 1, some 2, some 3]⟩
         ·
          exact Ze<|⟨_, h, ES [some 0, some 1, some 2, some 3]⟩
        ·
         exact Zs<|Rq Y (Zg (ov Y) Y Y Qb)<|Rq Y (Zn (ov Y) Y Y Y X6 Y)<|Rm Y<|Rq Y (Zg (ov Y) Y Y Zaz)<|Rq Y (Zn (ov Y) Y Y Y tS3 Y)<|Rm Y<|Rq Y (Zg (ov Y) Y Y Qy)<|Rq Y (Zn (ov Y) Y Y Y tS3 Y)<|Rq Y (ZA (ys := [_, _, _]) Zcl Zcn Zbi (.cons (cvs (ov Y)<|Zp Y)<|.cons (cvs (ov Y)<|Zp Y)<|.cons (cvs (ov Y)<|Zp Y) .nil) Y)<|bE h fun x2 h_x2 h=>Rq Y (Zay (ov Y) (ov Y) QV Y Y h_x2)<|Rx Y (Zcd (u' := (api_Sample.mk x.At n Mark)) (ov Y) (ov Y) (Zk Xn Y) Y Y h_x2 Y (Zd Y) Y)<|Za<|K6 3 4 8 36 37 38 Y<|Zs<|R2 ZB Y<|Rm Y<|Za<|⟨_, h, Ent.sel [some 0, some 1, some 2] (sd 3 Y Y<|sr 4 Y (.ptr _ _ _ Y)<|sr 8 Y (.ptr _ _ _ Y)<|sr 36 Y (ZeX (Eq.symm<|(List.length_set ..).trans Y) Y)<|sd 37 Y Y<|sd 38 Y Y sn) (.cons Y (ro1 (by exact tZ_31.symm)<|rld Y)<|.cons Y (ro1 (by exact tZ_31.symm)<|rlc (.dat Y)<|rlc (ZeX (Eq.symm<|(List.length_set ..).trans Y) Y) rln)<|.cons Y (roM D59) .nil) Y Y⟩
      ·
       refine Zu<|?_
       replace h := lx h ▸ ho1
       exact ⟨_, h, ES [some 0, some 1, some 2]⟩
     ·
      refine Tr<|Rq Y (ZL (ov Y) Y Y Y ZY Y Y)<|Rx Y (Zo (ov Y) (ov Y) (Zk ZY Y) Y Y Y (Nat.le_of_ble_eq_true Y) (Zd Y) Y)<|Ra Y<|Za<|?_
      obtain rfl := rt h
      exact Zi (Zq Y (.two (.agg Y Y Y Y ZY Y Y<|.cons (Dat.view<|.b Y)<|.cons (View.ownM Y Y D59) .nil)<|rb Y))
    ·
     refine Dw 0 4 Y (Zc (ov Y) Zgx) (Qq [] (XG h_y3) (.cons (ov Y) (.dat Y) .nil) .nil Y (.keep Y Y<|.keep Y Y<|.lent 0 (.inr ⟨Nat.le_of_ble_eq_true Y, Y⟩) Y (roM D59) .nil) Y Y<|.own _<|.inr ⟨Nat.le_of_ble_eq_true Y, Y⟩) ?_ ?_
     ·
      refine Dw 1 4 Y (Zb (ov Y) tS3 Y) (Qq [] (XG h_y3) (.cons (ov Y) (.dat Y) .nil) .nil Y (.keep Y Y<|.keep Y Y<|.lent 0 (.inr ⟨Nat.le_of_ble_eq_true Y, Y⟩) Y (roM D59) .nil) Y Y<|.own _<|.inr ⟨Nat.le_of_ble_eq_true Y, Y⟩) ?_ ?_
      ·
       refine Do 4 Y (Qq [] (XG h_y3) (.cons (ov Y) (.dat Y) .nil) .nil Y (.keep Y Y<|.keep Y Y<|.lent 0 (.inr ⟨Nat.le_of_ble_eq_true Y, Y⟩) Y (roM D59) .nil) Y Y<|.own _<|.inr ⟨Nat.le_of_ble_eq_true Y, Y⟩)<|Dq 5 Y (ZA (ys := [_, _]) Jz JB X7 (.cons (cvs (ov Y)<|Zp Y)<|.cons (cvs (ov Y)<|Zp Y) .nil) Y)<|Do 7 Y (Zo (ov Y) (ov Y) (Zk ZY Y) Y Y Y (Nat.le_of_ble_eq_true Y) (Zd Y) Y)<|Dd<|I1 (fun Samples=>⟨[(4, .ptr 0 1 0 0), (8, .ptr 1 1 0 0)], [some ⟨31, [[.int .i64 0, .nils]]⟩, some ⟨31, [[.int .i64 c_.Den, .own 2 Samples.length]]⟩, some ⟨59, List.map R59 Samples⟩]⟩) h (fun h=>?_) fun Samples h=>?_
       ·
        refine K3 3 4 8 Y<|Tr<|Rq Y (Zg (ov Y) Y Y Qb)<|Rq Y (Zn (ov Y) Y Y Y X6 Y)<|Rq Y (Zc9 (ov Y) Y Y QV)<|Rm Y<|Za<|Zf<|?_
        obtain ⟨r1, hl1, ho1⟩ := Z1 h
        refine L2 (fun Samples2 i=>⟨[(3, .rp [.int .i64 c_.Den, .sl 101 (List.map Jw c_.Lines), .int .i64 c_.Low, .int .i64 c_.High] 0), (4, .ptr 0 1 0 0), (8, .ptr 1 1 0 0), (36, .own 2 Samples2.length), (37, .int .i64 (y3.length : Int)), (38, .int .i64 i)], [some ⟨31, [[.int .i64 0, .nils]]⟩, some ⟨31, [[.int .i64 c_.Den, .own 2 Samples2.length]]⟩, some ⟨59, List.map R59 Samples2⟩]⟩) hl1 (ES [some 0, some 1, some 2]) fun n1 Samples2 i h=>?_
        unfold ZI at h
        refine Tr<|R2 Zw Y<|Za<|Zj<|If h Y (fun h=>?_) fun h=>?_
        ·
         refine Ze<|Zj<|Zf<|K6 3 4 8 36 37 38 Y<|Tr<|Rm Y<|bE h fun x h_x h=>Rq Y (Zay (ov Y) (ov Y) QV Y Y h_x)<|Rq Y (Zcb (ov Y) Y Y h_x Xn Y Y)<|Rx Y (Zt (row := [_, _, _]) 3 Y Zbi Y tZ_59)<|Ra Y<|Rx Y (Zo (ov Y) (ov Y) (Zk Xn Y) Y Y Y (Nat.le_of_ble_eq_true Y) (Zd Y) Y)<|Za<|Zj<|K8 3 4 8 9 10 36 37 38 Y<|Tr<|Rq Y (Zg (ov Y) Y Y Qy)<|Rq Y (Zn (ov Y) Y Y Y tS3 Y)<|R2 Zw Y<|Za<|K9 3 4 8 9 10 36 37 38 45 Y<|If h Y (fun h=>?_) fun h=>?_
         ·
          exact Zu<|K6 3 4 8 36 37 38 Y<|Zs<|R2 ZB Y<|Rm Y<|Za<|⟨_, h, ES [some 0, some 1, some 2]⟩
         ·
          refine Ze<|K8 3 4 8 9 10 36 37 38 Y<|Tr<|Rq Y (Zh (ov Y) ZgF Y Y)<|Rq Y (Zg (ov Y) Y Y Zbg)<|Rq Y (Zn (ov Y) Y Y Y tS3 Y)<|bE h fun y4 h_y4 h=>Rq Y (Zl (QM h_y4)<|.cons (ov Y) (.aggB Y)<|.cons (ov Y) (.b Y) .nil)<|Rm Y<|Rq Y (Zr (ov Y) Y)<|Rq Y (Zr (ov Y) Y)<|Ra Y<|Ra Y<|Za<|I2 (fun Mark n=>⟨[(3, .rp [.int .i64 c_.Den, .sl 101 (List.map Jw c_.Lines), .int .i64 c_.Low, .int .i64 c_.High] 0), (4, .ptr 0 1 0 0), (8, .ptr 1 1 0 0), (9, .int .i64 i), (10, .ptr 3 1 0 0), (11, .int .i64 n), (36, .own 2 Samples2.length), (37, .int .i64 (y3.length : Int)), (38, .int .i64 i)], [some ⟨31, [[.int .i64 0, .nils]]⟩, some ⟨31, [[.int .i64 c_.Den, .own 2 Samples2.length]]⟩, some ⟨59, List.map R59 Samples2⟩, some ⟨59, [[.int .i64 x.At, .int .i64 x.N, .int .i64 Mark]]⟩]⟩) h (fun h=>?_) fun Mark n h=>?_
          ·
           refine K10 3 4 8 9 10 11 12 36 37 38 Y<|Tr<|Rm Y<|R1 Z0 Y<|Za<|K10 3 4 8 9 10 11 36 37 38 54 Y<|If h Y (fun h=>?_) fun h=>?_
           ·
            exact K9 3 4 8 9 10 11 36 37 38 Y<|Zs<|Ra Y<|Rq Y (Zg (ov Y) Y Y Qy)<|Rx Y (Zo (ov Y) (ov Y) (ZO tS3) Y Y Y (Nat.le_of_ble_eq_true Y) (Zd Y) Y)<|Za<|⟨_, h, ES [some 0, some 1, some 2, some 3]⟩
           ·
            exact Ze<|⟨_, h, ES [some 0, some 1, some 2, some 3]⟩
          ·
           exact Zs<|Rq Y (Zg (ov Y) Y Y Qb)<|Rq Y (Zn (ov Y) Y Y Y X6 Y)<|Rm Y<|Rq Y (Zg (ov Y) Y Y Zaz)<|Rq Y (Zn (ov Y) Y Y Y tS3 Y)<|Rm Y<|Rq Y (Zg (ov Y) Y Y Qy)<|Rq Y (Zn (ov Y) Y Y Y tS3 Y)<|Rq Y (ZA (ys := [_, _, _]) Zcl Zcn Zbi (.cons (cvs (ov Y)<|Zp Y)<|.cons (cvs (ov Y)<|Zp Y)<|.cons (cvs (ov Y)<|Zp Y) .nil) Y)<|bE h fun x2 h_x2 h=>Rq Y (Zay (ov Y) (ov Y) QV Y Y h_x2)<|Rx Y (Zcd (u' := (api_Sample.mk x.At n Mark)) (ov Y) (ov Y) (Zk Xn Y) Y Y h_x2 Y (Zd Y) Y)<|Za<|K6 3 4 8 36 37 38 Y<|Zs<|R2 ZB Y<|Rm Y<|Za<|⟨_, h, Ent.sel [some 0, some 1, some 2] (sd 3 Y Y<|sr 4 Y (.ptr _ _ _ Y)<|sr 8 Y (.ptr _ _ _ Y)<|sr 36 Y (ZeX (Eq.symm<|(List.length_set ..).trans Y) Y)<|sd 37 Y Y<|sd 38 Y Y sn) (.cons Y (ro1 (by exact tZ_31.symm)<|rld Y)<|.cons Y (ro1 (by exact tZ_31.symm)<|rlc (.dat Y)<|rlc (ZeX (Eq.symm<|(List.length_set ..).trans Y) Y) rln)<|.cons Y (roM D59) .nil) Y Y⟩
        ·
         refine Zu<|?_
         replace h := lx h ▸ ho1
         exact ⟨_, h, ES [some 0, some 1, some 2]⟩
       ·
        refine Tr<|Rq Y (ZL (ov Y) Y Y Y ZY Y Y)<|Rx Y (Zo (ov Y) (ov Y) (Zk ZY Y) Y Y Y (Nat.le_of_ble_eq_true Y) (Zd Y) Y)<|Ra Y<|Za<|?_
        obtain rfl := rt h
        exact Zi (Zq Y (.two (.agg Y Y Y Y ZY Y Y<|.cons (Dat.view<|.b Y)<|.cons (View.ownM Y Y D59) .nil)<|rb Y))
      ·
       refine Dq 1 Y (Zb (ov Y) tS3 Y)<|Dq 5 Y (ZA (ys := [_, _]) Jz JB X7 (.cons (cvs (ov Y)<|Zp Y)<|.cons (cvs (ov Y)<|Zp Y) .nil) Y)<|Do 7 Y (Zo (ov Y) (ov Y) (Zk ZY Y) Y Y Y (Nat.le_of_ble_eq_true Y) (Zd Y) Y)<|Dd<|I1 (fun Samples=>⟨[(4, .ptr 0 1 0 0), (8, .ptr 1 1 0 0)], [some ⟨31, [[.int .i64 0, .nils]]⟩, some ⟨31, [[.int .i64 c_.Den, .own 2 Samples.length]]⟩, some ⟨59, List.map R59 Samples⟩]⟩) h (fun h=>?_) fun Samples h=>?_
       ·
        refine K3 3 4 8 Y<|Tr<|Rq Y (Zg (ov Y) Y Y Qb)<|Rq Y (Zn (ov Y) Y Y Y X6 Y)<|Rq Y (Zc9 (ov Y) Y Y QV)<|Rm Y<|Za<|Zf<|?_
        obtain ⟨r1, hl1, ho1⟩ := Z1 h
        refine L2 (fun Samples2 i=>⟨[(3, .rp [.int .i64 c_.Den, .sl 101 (List.map Jw c_.Lines), .int .i64 c_.Low, .int .i64 c_.High] 0), (4, .ptr 0 1 0 0), (8, .ptr 1 1 0 0), (36, .own 2 Samples2.length), (37, .int .i64 (y3.length : Int)), (38, .int .i64 i)], [some ⟨31, [[.int .i64 0, .nils]]⟩, some ⟨31, [[.int .i64 c_.Den, .own 2 Samples2.length]]⟩, some ⟨59, List.map R59 Samples2⟩]⟩) hl1 (ES [some 0, some 1, some 2]) fun n1 Samples2 i h=>?_
        unfold ZI at h
        refine Tr<|R2 Zw Y<|Za<|Zj<|If h Y (fun h=>?_) fun h=>?_
        ·
         refine Ze<|Zj<|Zf<|K6 3 4 8 36 37 38 Y<|Tr<|Rm Y<|bE h fun x h_x h=>Rq Y (Zay (ov Y) (ov Y) QV Y Y h_x)<|Rq Y (Zcb (ov Y) Y Y h_x Xn Y Y)<|Rx Y (Zt (row := [_, _, _]) 3 Y Zbi Y tZ_59)<|Ra Y<|Rx Y (Zo (ov Y) (ov Y) (Zk Xn Y) Y Y Y (Nat.le_of_ble_eq_true Y) (Zd Y) Y)<|Za<|Zj<|K8 3 4 8 9 10 36 37 38 Y<|Tr<|Rq Y (Zg (ov Y) Y Y Qy)<|Rq Y (Zn (ov Y) Y Y Y tS3 Y)<|R2 Zw Y<|Za<|K9 3 4 8 9 10 36 37 38 45 Y<|If h Y (fun h=>?_) fun h=>?_
         ·
          exact Zu<|K6 3 4 8 36 37 38 Y<|Zs<|R2 ZB Y<|Rm Y<|Za<|⟨_, h, ES [some 0, some 1, some 2]⟩
         ·
          refine Ze<|K8 3 4 8 9 10 36 37 38 Y<|Tr<|Rq Y (Zh (ov Y) ZgF Y Y)<|Rq Y (Zg (ov Y) Y Y Zbg)<|Rq Y (Zn (ov Y) Y Y Y tS3 Y)<|bE h fun y4 h_y4 h=>Rq Y (Zl (QM h_y4)<|.cons (ov Y) (.aggB Y)<|.cons (ov Y) (.b Y) .nil)<|Rm Y<|Rq Y (Zr (ov Y) Y)<|Rq Y (Zr (ov Y) Y)<|Ra Y<|Ra Y<|Za<|I2 (fun Mark n=>⟨[(3, .rp [.int .i64 c_.Den, .sl 101 (List.map Jw c_.Lines), .int .i64 c_.Low, .int .i64 c_.High] 0), (4, .ptr 0 1 0 0), (8, .ptr 1 1 0 0), (9, .int .i64 i), (10, .ptr 3 1 0 0), (11, .int .i64 n), (36, .own 2 Samples2.length), (37, .int .i64 (y3.length : Int)), (38, .int .i64 i)], [some ⟨31, [[.int .i64 0, .nils]]⟩, some ⟨31, [[.int .i64 c_.Den, .own 2 Samples2.length]]⟩, some ⟨59, List.map R59 Samples2⟩, some ⟨59, [[.int .i64 x.At, .int .i64 x.N, .int .i64 Mark]]⟩]⟩) h (fun h=>?_) fun Mark n h=>?_
          ·
           refine K10 3 4 8 9 10 11 12 36 37 38 Y<|Tr<|Rm Y<|R1 Z0 Y<|Za<|K10 3 4 8 9 10 11 36 37 38 54 Y<|If h Y (fun h=>?_) fun h=>?_
           ·
            exact K9 3 4 8 9 10 11 36 37 38 Y<|Zs<|Ra Y<|Rq Y (Zg (ov Y) Y Y Qy)<|Rx Y (Zo (ov Y) (ov Y) (ZO tS3) Y Y Y (Nat.le_of_ble_eq_true Y) (Zd Y) Y)<|Za<|⟨_, h, ES [some 0, some 1, some 2, some 3]⟩
           ·
            exact Ze<|⟨_, h, ES [some 0, some 1, some 2, some 3]⟩
          ·
           exact Zs<|Rq Y (Zg (ov Y) Y Y Qb)<|Rq Y (Zn (ov Y) Y Y Y X6 Y)<|Rm Y<|Rq Y (Zg (ov Y) Y Y Zaz)<|Rq Y (Zn (ov Y) Y Y Y tS3 Y)<|Rm Y<|Rq Y (Zg (ov Y) Y Y Qy)<|Rq Y (Zn (ov Y) Y Y Y tS3 Y)<|Rq Y (ZA (ys := [_, _, _]) Zcl Zcn Zbi (.cons (cvs (ov Y)<|Zp Y)<|.cons (cvs (ov Y)<|Zp Y)<|.cons (cvs (ov Y)<|Zp Y) .nil) Y)<|bE h fun x2 h_x2 h=>Rq Y (Zay (ov Y) (ov Y) QV Y Y h_x2)<|Rx Y (Zcd (u' := (api_Sample.mk x.At n Mark)) (ov Y) (ov Y) (Zk Xn Y) Y Y h_x2 Y (Zd Y) Y)<|Za<|K6 3 4 8 36 37 38 Y<|Zs<|R2 ZB Y<|Rm Y<|Za<|⟨_, h, Ent.sel [some 0, some 1, some 2] (sd 3 Y Y<|sr 4 Y (.ptr _ _ _ Y)<|sr 8 Y (.ptr _ _ _ Y)<|sr 36 Y (ZeX (Eq.symm<|(List.length_set ..).trans Y) Y)<|sd 37 Y Y<|sd 38 Y Y sn) (.cons Y (ro1 (by exact tZ_31.symm)<|rld Y)<|.cons Y (ro1 (by exact tZ_31.symm)<|rlc (.dat Y)<|rlc (ZeX (Eq.symm<|(List.length_set ..).trans Y) Y) rln)<|.cons Y (roM D59) .nil) Y Y⟩
        ·
         refine Zu<|?_
         replace h := lx h ▸ ho1
         exact ⟨_, h, ES [some 0, some 1, some 2]⟩
       ·
        refine Tr<|Rq Y (ZL (ov Y) Y Y Y ZY Y Y)<|Rx Y (Zo (ov Y) (ov Y) (Zk ZY Y) Y Y Y (Nat.le_of_ble_eq_true Y) (Zd Y) Y)<|Ra Y<|Za<|?_
        obtain rfl := rt h
        exact Zi (Zq Y (.two (.agg Y Y Y Y ZY Y Y<|.cons (Dat.view<|.b Y)<|.cons (View.ownM Y Y D59) .nil)<|rb Y))
     ·
      refine Dq 0 Y (Zc (ov Y) Zgx)<|Dq 1 Y (Zb (ov Y) tS3 Y)<|Dq 5 Y (ZA (ys := [_, _]) Jz JB X7 (.cons (cvs (ov Y)<|Zp Y)<|.cons (cvs (ov Y)<|Zp Y) .nil) Y)<|Do 7 Y (Zo (ov Y) (ov Y) (Zk ZY Y) Y Y Y (Nat.le_of_ble_eq_true Y) (Zd Y) Y)<|Dd<|I1 (fun Samples=>⟨[(4, .ptr 0 1 0 0), (8, .ptr 1 1 0 0)], [some ⟨31, [[.int .i64 0, .nils]]⟩, some ⟨31, [[.int .i64 c_.Den, .own 2 Samples.length]]⟩, some ⟨59, List.map R59 Samples⟩]⟩) h (fun h=>?_) fun Samples h=>?_
      ·
       refine K3 3 4 8 Y<|Tr<|Rq Y (Zg (ov Y) Y Y Qb)<|Rq Y (Zn (ov Y) Y Y Y X6 Y)<|Rq Y (Zc9 (ov Y) Y Y QV)<|Rm Y<|Za<|Zf<|?_
       obtain ⟨r1, hl1, ho1⟩ := Z1 h
       refine L2 (fun Samples2 i=>⟨[(3, .rp [.int .i64 c_.Den, .sl 101 (List.map Jw c_.Lines), .int .i64 c_.Low, .int .i64 c_.High] 0), (4, .ptr 0 1 0 0), (8, .ptr 1 1 0 0), (36, .own 2 Samples2.length), (37, .int .i64 (y3.length : Int)), (38, .int .i64 i)], [some ⟨31, [[.int .i64 0, .nils]]⟩, some ⟨31, [[.int .i64 c_.Den, .own 2 Samples2.length]]⟩, some ⟨59, List.map R59 Samples2⟩]⟩) hl1 (ES [some 0, some 1, some 2]) fun n1 Samples2 i h=>?_
       unfold ZI at h
       refine Tr<|R2 Zw Y<|Za<|Zj<|If h Y (fun h=>?_) fun h=>?_
       ·
        refine Ze<|Zj<|Zf<|K6 3 4 8 36 37 38 Y<|Tr<|Rm Y<|bE h fun x h_x h=>Rq Y (Zay (ov Y) (ov Y) QV Y Y h_x)<|Rq Y (Zcb (ov Y) Y Y h_x Xn Y Y)<|Rx Y (Zt (row := [_, _, _]) 3 Y Zbi Y tZ_59)<|Ra Y<|Rx Y (Zo (ov Y) (ov Y) (Zk Xn Y) Y Y Y (Nat.le_of_ble_eq_true Y) (Zd Y) Y)<|Za<|Zj<|K8 3 4 8 9 10 36 37 38 Y<|Tr<|Rq Y (Zg (ov Y) Y Y Qy)<|Rq Y (Zn (ov Y) Y Y Y tS3 Y)<|R2 Zw Y<|Za<|K9 3 4 8 9 10 36 37 38 45 Y<|If h Y (fun h=>?_) fun h=>?_
        ·
         exact Zu<|K6 3 4 8 36 37 38 Y<|Zs<|R2 ZB Y<|Rm Y<|Za<|⟨_, h, ES [some 0, some 1, some 2]⟩
        ·
         refine Ze<|K8 3 4 8 9 10 36 37 38 Y<|Tr<|Rq Y (Zh (ov Y) ZgF Y Y)<|Rq Y (Zg (ov Y) Y Y Zbg)<|Rq Y (Zn (ov Y) Y Y Y tS3 Y)<|bE h fun y4 h_y4 h=>Rq Y (Zl (QM h_y4)<|.cons (ov Y) (.aggB Y)<|.cons (ov Y) (.b Y) .nil)<|Rm Y<|Rq Y (Zr (ov Y) Y)<|Rq Y (Zr (ov Y) Y)<|Ra Y<|Ra Y<|Za<|I2 (fun Mark n=>⟨[(3, .rp [.int .i64 c_.Den, .sl 101 (List.map Jw c_.Lines), .int .i64 c_.Low, .int .i64 c_.High] 0), (4, .ptr 0 1 0 0), (8, .ptr 1 1 0 0), (9, .int .i64 i), (10, .ptr 3 1 0 0), (11, .int .i64 n), (36, .own 2 Samples2.length), (37, .int .i64 (y3.length : Int)), (38, .int .i64 i)], [some ⟨31, [[.int .i64 0, .nils]]⟩, some ⟨31, [[.int .i64 c_.Den, .own 2 Samples2.length]]⟩, some ⟨59, List.map R59 Samples2⟩, some ⟨59, [[.int .i64 x.At, .int .i64 x.N, .int .i64 Mark]]⟩]⟩) h (fun h=>?_) fun Mark n h=>?_
         ·
          refine K10 3 4 8 9 10 11 12 36 37 38 Y<|Tr<|Rm Y<|R1 Z0 Y<|Za<|K10 3 4 8 9 10 11 36 37 38 54 Y<|If h Y (fun h=>?_) fun h=>?_
          ·
           exact K9 3 4 8 9 10 11 36 37 38 Y<|Zs<|Ra Y<|Rq Y (Zg (ov Y) Y Y Qy)<|Rx Y (Zo (ov Y) (ov Y) (ZO tS3) Y Y Y (Nat.le_of_ble_eq_true Y) (Zd Y) Y)<|Za<|⟨_, h, ES [some 0, some 1, some 2, some 3]⟩
          ·
           exact Ze<|⟨_, h, ES [some 0, some 1, some 2, some 3]⟩
         ·
          exact Zs<|Rq Y (Zg (ov Y) Y Y Qb)<|Rq Y (Zn (ov Y) Y Y Y X6 Y)<|Rm Y<|Rq Y (Zg (ov Y) Y Y Zaz)<|Rq Y (Zn (ov Y) Y Y Y tS3 Y)<|Rm Y<|Rq Y (Zg (ov Y) Y Y Qy)<|Rq Y (Zn (ov Y) Y Y Y tS3 Y)<|Rq Y (ZA (ys := [_, _, _]) Zcl Zcn Zbi (.cons (cvs (ov Y)<|Zp Y)<|.cons (cvs (ov Y)<|Zp Y)<|.cons (cvs (ov Y)<|Zp Y) .nil) Y)<|bE h fun x2 h_x2 h=>Rq Y (Zay (ov Y) (ov Y) QV Y Y h_x2)<|Rx Y (Zcd (u' := (api_Sample.mk x.At n Mark)) (ov Y) (ov Y) (Zk Xn Y) Y Y h_x2 Y (Zd Y) Y)<|Za<|K6 3 4 8 36 37 38 Y<|Zs<|R2 ZB Y<|Rm Y<|Za<|⟨_, h, Ent.sel [some 0, some 1, some 2] (sd 3 Y Y<|sr 4 Y (.ptr _ _ _ Y)<|sr 8 Y (.ptr _ _ _ Y)<|sr 36 Y (ZeX (Eq.symm<|(List.length_set ..).trans Y) Y)<|sd 37 Y Y<|sd 38 Y Y sn) (.cons Y (ro1 (by exact tZ_31.symm)<|rld Y)<|.cons Y (ro1 (by exact tZ_31.symm)<|rlc (.dat Y)<|rlc (ZeX (Eq.symm<|(List.length_set ..).trans Y) Y) rln)<|.cons Y (roM D59) .nil) Y Y⟩
       ·
        refine Zu<|?_
        replace h := lx h ▸ ho1
        exact ⟨_, h, ES [some 0, some 1, some 2]⟩
      ·
       refine Tr<|Rq Y (ZL (ov Y) Y Y Y ZY Y Y)<|Rx Y (Zo (ov Y) (ov Y) (Zk ZY Y) Y Y Y (Nat.le_of_ble_eq_true Y) (Zd Y) Y)<|Ra Y<|Za<|?_
       obtain rfl := rt h
       exact Zi (Zq Y (.two (.agg Y Y Y Y ZY Y Y<|.cons (Dat.view<|.b Y)<|.cons (View.ownM Y Y D59) .nil)<|rb Y))
end Go.Proofs.YtacmhbfmedpkhaaGreatDoor
