/- A text of the proof: a verified executor of the program form, or the contracts of the functions that the law reaches. -/
import Derived.Test.YtdacciininlfmaaGreatDoorOkTc
set_option linter.all false
namespace Go.Proofs.YtdacciininlfmaaGreatDoor
open Go Go.Vx
set_option maxRecDepth 10000
set_option maxHeartbeats 1000000
set_option linter.unusedVariables false
theorem ZeL {l : List api_Rest} {r : Int} (h : Jg l = some r) :
 CSpec Tryz.prog gl0 35 [.sl 92 (List.map R92 l)] (.int .i64 r) := by
 unfold Jg at h
 replace h := ZS h
 refine So Tryz.func35 Y fun w0 A=>Tr<|Ra Y<|Za<|Zj<|K1 0 Y<|Tr<|Rm Y<|Rl tZ_92 ZdX Y<|R2 Qq Y<|Za<|K2 0 9 Y<|If h Y (fun h=>?_) fun h=>?_
 ·
  refine K0<|Tr<|Ra Y<|Za<|?_
  obtain rfl := rt h
  exact Zg (Zp Y (.one<|rb Y))
 ·
  refine Ze<|J0 (fun j => (.inr j)) ⟨[(0, .sl 92 (List.map R92 l))], []⟩ h (fun h=>?_) fun h=>?_
  ·
   refine K1 0 Y<|Tr<|Rm Y<|Rl tZ_92 ZdX Y<|Rm Y<|Za<|Zf<|?_
   obtain ⟨r1, hl1, ho1⟩ := Qg h
   refine L1 (fun i=>⟨[(0, .sl 92 (List.map R92 l)), (10, .sl 92 (List.map R92 l)), (11, .int .i64 (l.length : Int)), (12, .int .i64 i)], []⟩) hl1 (ES []) fun n1 i h=>?_
   unfold QG at h
   refine Tr<|R2 ZA Y<|Za<|Zj<|If h Y (fun h=>?_) fun h=>?_
   ·
    refine Ze<|Zj<|Zf<|K4 0 10 11 12 Y<|Tr<|bE h fun x h_x h=>Rq Y (Zx (ov Y) (ov Y) ZdX h_x)<|Rq Y (Zi (ov Y) ZhI (QD<|ZC ln9) ln9)<|Rx Y (Zr (row := (.int .i64 0) :: ((List.map C47 (Vector.replicate 64 0).toList) ++ (((List.map C3 (Vector.replicate 64 0).toList) ++ ((.bool false) :: (.int .i64 0) :: (.bool false) :: []))))) 0 Y ZpS (by kernel_rfl)<|by exact Eq.symm (Eq.trans (b := 132) ln9 tZ_92.symm))<|Rx Y (Zo (ov Y) (ov Y) (Zm ZhI ln9) Y Y Y (JD (ZC ln9) ln9) (Zd ZnJ)<|Jl<|Eq.trans ln9<|Eq.symm ln9)<|Za<|K5 0 4 10 11 12 Y<|Tr<|Rq Y (ZK (ov Y) Y Y Y ZhI (QD<|ZC ln9) ln9 (hns := ZrC))<|bE h fun y h_y h=>Rq Y (Zl (ZeK h_y)<|.cons (ov Y) (.aggB ZjC) .nil)<|Ra Y<|Za<|K5 0 5 10 11 12 Y<|Tr<|Rm Y<|R2 Z4 Y<|Za<|K6 0 5 10 11 12 19 Y<|If h Y (fun h=>?_) fun h=>?_
    ·
     refine K1 5 Y<|Tr<|Rm Y<|Ra Y<|Za<|?_
     replace h := lx h ▸ ho1
     obtain rfl := rt h
     exact Zg (Zp Y (.one<|rb Y))
    ·
     exact Ze<|K4 0 10 11 12 Y<|Zs<|R2 ZT Y<|Rm Y<|Za<|⟨_, h, ES []⟩
   ·
    refine Zu<|?_
    replace h := lx h ▸ ho1
    exact ⟨(), h, ES []⟩
  ·
   replace h := elr h
   replace h := t0i h
   refine J0 (fun j => (.inr j)) ⟨[], []⟩ h (fun h=>?_) fun h=>?_
   ·
    refine Tr<|Ra Y<|Za<|Zf<|?_
    obtain ⟨r2, hl2, ho2⟩ := Qg h
    refine L1 (fun i2=>⟨[(0, .sl 92 (List.map R92 l)), (6, .int .i64 i2)], []⟩) hl2 (ES []) fun n2 i2 h=>?_
    unfold QI at h
    refine Zj<|Tr<|Rm Y<|Rm Y<|Rl tZ_92 ZdX Y<|R2 ZA Y<|Za<|K3 0 6 25 Y<|If h Y (fun h=>?_) fun h=>?_
    ·
     refine Ze<|Zj<|Zf<|K2 0 6 Y<|Td md0<|D1 0 Zh Y<|D1 1 Zh Y<|bE h fun x2 h_x2 h=>Dq 2 Y (Zx (ov Y) (ov Y) ZdX h_x2)<|Dq 3 Y (Zc (ov Y) Zd0)<|Dq 4 Y (Zb (ov Y) tS3<|Z9 at1)<|D1 5 Zh Y<|D1 6 Zh Y<|D2 7 ZaI Y<|bE h fun x3 h_x3 h=>Dq 8 Y (Zx (ov Y) (ov Y) ZdX h_x3)<|Dq 9 Y (Zc (ov Y) Zd0)<|Dq 10 Y (Zb (ov Y) tS3<|Z9 at1)<|D2 11 ZbO Y<|Dd<|K3 0 6 39 Y<|If h Y (fun h=>?_) fun h=>?_
     ·
      refine K0<|Tr<|Ra Y<|Za<|?_
      replace h := lx h ▸ ho2
      obtain rfl := rt h
      exact Zg (Zp Y (.one<|rb Y))
     ·
      exact Ze<|K2 0 6 Y<|Zs<|Rm Y<|R2 ZT Y<|Ra Y<|Za<|⟨_, h, ES []⟩
    ·
     refine Zu<|?_
     replace h := lx h ▸ ho2
     exact ⟨(), h, ES []⟩
   ·
    replace h := elr h
    replace h := t0i h
    refine Tr<|Ra Y<|Za<|?_
    obtain rfl := rt h
    exact Zg (Zp Y (.one<|rb Y))
theorem Zeg {p : api_Param} {cells : List api_Cell} {first : Int} {r : (List Int)} (h : XN p cells first = some r) :
 CSpec Tryz.prog gl0 71 [.agg [.str p.Name, .int .i64 p.Kind, .sl 128 (List.map Z2 p.Parts), .int .i64 p.First, .int .i64 p.Every, .int .i64 p.Times, .int .i64 p.Step, .sl 9 (List.map R9 p.Names)], .sl 44 (List.map R44 cells), .int .i64 first] (.sl 3 (List.map R3 r)) := by
 unfold XN at h
 replace h := ZS h
 refine So Tryz.func71 Y fun w0 A=>Tr<|Rq Y (ZD (cva<|ov Y) Y tZ_41 Y)<|Ra Y<|Za<|K3 1 2 3 Y<|Tr<|Ra Y<|Za<|I1 (fun out=>⟨[(7, .own 0 out.length)], [some ⟨3, List.map R3 out⟩]⟩) h (fun h=>?_) fun out h=>?_
 ·
  refine Tr<|Rm Y<|Rl tZ_44 Za7 Y<|Rm Y<|Za<|Zf<|?_
  obtain ⟨r1, hl1, ho1⟩ := Qg h
  refine L2 (fun out2 i=>⟨[(2, .int .i64 first), (3, .rp [.str p.Name, .int .i64 p.Kind, .sl 128 (List.map Z2 p.Parts), .int .i64 p.First, .int .i64 p.Every, .int .i64 p.Times, .int .i64 p.Step, .sl 9 (List.map R9 p.Names)] 0), (7, .own 0 out2.length), (10, .sl 44 (List.map R44 cells)), (11, .int .i64 (cells.length : Int)), (12, .int .i64 i)], [some ⟨3, List.map R3 out2⟩]⟩) hl1 (ES [none]) fun n1 out2 i h=>?_
  unfold QZ at h
  refine Tr<|R2 ZA Y<|Za<|Zj<|If h Y (fun h=>?_) fun h=>?_
  ·
   exact Ze<|Zj<|Zf<|K6 2 3 7 10 11 12 Y<|Tr<|bE h fun x h_x h=>Rq Y (Zx (ov Y) (ov Y) Za7 h_x)<|Rq Y (Zi (ov Y) Zeu Y Y)<|Rx Y (Zr (row := [_, _, _, _]) 1 Y ZiO Y tZ_44)<|Rx Y (Zo (ov Y) (ov Y) (Zm Zeu Y) Y Y Y (Nat.le_of_ble_eq_true Y) (Zd Y) Y)<|Za<|K7 2 3 7 9 10 11 12 Y<|Zdm (cw := md0) (by kernel_rfl)<|D1 0 Zh Y<|D1 1 Zh Y<|Dq 2 Y (Zk (ov Y) Y Y Zra)<|Dq 3 Y (Zn (ov Y) Y Y Y tS3 Y)<|D2 4 ZT Y<|D2 5 ZfQ Y<|Dq 6 Y (Zk (ov Y) Y Y Zqy)<|Dq 7 Y (Zn (ov Y) Y Y Y tS3 Y)<|Dq 8 Y (Zc (ov Y) Zch)<|Dq 9 Y (Zb (ov Y) tS3 Y)<|bE h fun q h_q h=>Dq 10 Y (ZcH (ov Y) (ov Y) h_q)<|D2 11 ZfQ Y<|Dq 12 Y (Zc (ov Y) Zch)<|Dq 13 Y (Zb (ov Y) tS3 Y)<|bE h fun q2 h_q2 h=>Dq 14 Y (Ze1 (ov Y) (ov Y) h_q2)<|D2 15 ZT Y<|Zni 16 (.sl 3<|List.map R3 ([(i64 ((i64 (64 * (i64 (first + x.Frame)))) + q2))] : List Int)) Y (by kernel_rfl) Y Y (Zc2 XX (.cons (cvs (ov Y)<|Zt Y) Y (.cons (.b Y) .nil) .nil) Y Y)<|bE h fun l h_l h=>Do 17 Y (XH (ov Y) (Xe (ov Y) tZ_3) XX Y Y Y (fun _=>Zd Y) Y h_l)<|D1 18 Zy Y<|Dd<|K6 2 3 7 10 11 12 Y<|Zs<|R2 ZT Y<|Rm Y<|Za<|⟨_, h, ES [some 0]⟩
  ·
   refine Zu<|?_
   replace h := lx h ▸ ho1
   exact ⟨_, h, ES [some 0]⟩
 ·
  refine Tr<|Rm Y<|Ra Y<|Za<|?_
  obtain rfl := rt h
  exact Zg (Zp Y (.one<|.tmp Y<|View.ownM Y Y D3))
theorem ZgK {p : api_Param} {raw : Int} {r : Int × Bool} (h : Zaz p raw = some r) :
 CSpec Tryz.prog gl0 108 [.agg [.str p.Name, .int .i64 p.Kind, .sl 128 (List.map Z2 p.Parts), .int .i64 p.First, .int .i64 p.Every, .int .i64 p.Times, .int .i64 p.Step, .sl 9 (List.map R9 p.Names)], .int .i64 raw] (.tuple [.int .i64 r.1, .bool r.2]) := by
 unfold Zaz at h
 replace h := ZS h
 refine So Tryz.func108 Y fun w0 A=>Tr<|Rq Y (ZD (cva<|ov Y) Y tZ_41 Y)<|Ra Y<|Ra Y<|Za<|K2 1 2 Y<|Tr<|Rq Y (Zi (ov Y) QW Y Y)<|bE h fun y h_y h=>Rq Y (Zl (Za8 h_y)<|.cons (ov Y) (.aggB Y) .nil)<|Rq Y (Znm (ov Y) Zo0 Y)<|Rm Y<|bE h fun y2 h_y2 h=>Rq Y (Zam (ov Y) (((Jn h_y).2)).1 ((((Jn h_y).2)).2 _ _ h_y2)<|.cons (ov Y) (.b Y) .nil)<|Rm Y<|Rq Y (Zq (ov Y) Y)<|Rq Y (Zq (ov Y) Y)<|Ra Y<|Ra Y<|Za<|Zj<|K2 6 7 Y<|Tr<|Rm Y<|R1 Qa Y<|Za<|K2 6 17 Y<|If h Y (fun h=>?_) fun h=>?_
 ·
  refine K0<|Tr<|Ra Y<|Ra Y<|Za<|?_
  obtain rfl := rt h
  exact Zg (Zp Y (.two (rb Y)<|rb Y))
 ·
  refine Ze<|K1 6 Y<|Tr<|Rm Y<|Ra Y<|Ra Y<|Za<|?_
  obtain rfl := rt h
  exact Zg (Zp Y (.two (rb Y)<|rb Y))
theorem Zf3 {p : api_Param} {raw : Int} {r : Int × Bool} (h : ZbN p raw = some r) :
 CSpec Tryz.prog gl0 95 [.agg [.str p.Name, .int .i64 p.Kind, .sl 128 (List.map Z2 p.Parts), .int .i64 p.First, .int .i64 p.Every, .int .i64 p.Times, .int .i64 p.Step, .sl 9 (List.map R9 p.Names)], .int .i64 raw] (.tuple [.int .i64 r.1, .bool r.2]) := by
 unfold ZbN at h
 replace h := ZS h
 refine So Tryz.func95 Y fun w0 A=>Tr<|Rq Y (ZD (cva<|ov Y) Y tZ_41 Y)<|Ra Y<|Ra Y<|Za<|K4 1 2 4 5 Y<|Tr<|Rq Y (Zi (ov Y) QW Y Y)<|Rm Y<|bE h fun y h_y h=>Rq Y (Zl (ZgK h_y)<|.cons (ov Y) (.aggB Y)<|.cons (ov Y) (.b Y) .nil)<|Rq Y (Zq (ov Y) Y)<|Rq Y (Zq (ov Y) Y)<|Ra Y<|Ra Y<|Za<|?_
 obtain rfl := rt h
 exact Zg (Zp Y (.two (rb Y)<|rb Y))
theorem ZfT {m : api_Map} {p : api_Param} {c_ : api_Cell} {l : Vector api_Rest 16} {r : Int × Int} (h : JY m p c_ l = some r) :
 CSpec Tryz.prog gl0 72 [.agg [.int .i64 m.Version, .sl 41 (List.map R41 m.Params)], .agg [.str p.Name, .int .i64 p.Kind, .sl 128 (List.map Z2 p.Parts), .int .i64 p.First, .int .i64 p.Every, .int .i64 p.Times, .int .i64 p.Step, .sl 9 (List.map R9 p.Names)], .agg [.int .i64 c_.Param, .int .i64 c_.Index, .int .i64 c_.Frame, .sl 117 (List.map R117 c_.Places)], .agg (l.toList.flatMap R92)] (.tuple [.int .i64 r.1, .int .i64 r.2]) := by
 unfold JY at h
 replace h := ZS h
 refine So Tryz.func72 Y fun w0 A=>Tr<|Rq Y (ZD (cva<|ov Y) Y tZ_24 Y)<|Rq Y (ZD (cva<|ov Y) Y tZ_41 Y)<|Rq Y (ZD (cva<|ov Y) Y tZ_44 Y)<|Rq Y (ZD (cva<|ov Y) (Qs (fun x=>(D92 x).1.trans tZ_92) Y) tZ_119<|JR fun x => (D92 x).2)<|Ra Y<|Ra Y<|Za<|K4 4 5 6 7 Y<|Tr<|Ra Y<|Ra Y<|Ra Y<|Za<|I3 (fun least raw old=>⟨[(5, .rp [.str p.Name, .int .i64 p.Kind, .sl 128 (List.map Z2 p.Parts), .int .i64 p.First, .int .i64 p.Every, .int .i64 p.Times, .int .i64 p.Step, .sl 9 (List.map R9 p.Names)] 0), (10, .int .i64 least), (11, .int .i64 raw), (12, .bool old)], []⟩) h (fun h=>?_) fun least raw old h=>?_
 ·
  refine Tr<|Rq Y (Zc (ov Y) ZdW)<|Rq Y (Zb (ov Y) Zjz Y)<|Rl tZ_117 ZhC Y<|Rm Y<|Za<|Zf<|?_
  obtain ⟨r1, hl1, ho1⟩ := Qg h
  refine L4 (fun least2 raw2 old2 i=>⟨[(4, .rp [.int .i64 m.Version, .sl 41 (List.map R41 m.Params)] 0), (5, .rp [.str p.Name, .int .i64 p.Kind, .sl 128 (List.map Z2 p.Parts), .int .i64 p.First, .int .i64 p.Every, .int .i64 p.Times, .int .i64 p.Step, .sl 9 (List.map R9 p.Names)] 0), (7, .rp (l.toList.flatMap R92) 0), (10, .int .i64 least2), (11, .int .i64 raw2), (12, .bool old2), (19, .sl 117 (List.map R117 c_.Places)), (20, .int .i64 (c_.Places.length : Int)), (21, .int .i64 i)], []⟩) hl1 (ES []) fun n1 least2 raw2 old2 i h=>?_
  unfold Qn at h
  refine Tr<|R2 ZA Y<|Za<|Zj<|If h Y (fun h=>?_) fun h=>?_
  ·
   exact Ze<|Zj<|Zf<|K9 4 5 7 10 11 12 19 20 21 Y<|Tr<|bE h fun x h_x h=>Rq Y (Zx (ov Y) (ov Y) ZhC h_x)<|Rq Y (Zi (ov Y) Zeq Y Y)<|Rx Y (Zr (row := [_, _, _, _]) 0 Y Zh1 Y tZ_117)<|Rx Y (Zo (ov Y) (ov Y) (Zm Zeq Y) Y Y Y (Nat.le_of_ble_eq_true Y) (Zd Y) Y)<|Za<|K10 4 5 7 10 11 12 14 19 20 21 Y<|Tr<|Rq Y (Zk (ov Y) Y Y ZhU)<|Rq Y (Zn (ov Y) Y Y Y tS3 Y)<|bE h fun x2 h_x2 h=>Rq Y (Zai (ov Y) (ov Y) ZpZ h_x2)<|Rq Y (Zi (ov Y) ZhI (QD<|XY (o := 0) (o' := (x.Frame.toNat * 132)) (ZC<|Qs (fun x=>(D92 x).1.trans tZ_92) Y)<|Zl1 (fun x=>(D92 x).1.trans tZ_92) h_x2) ln9)<|Rx Y (Zr (row := (.int .i64 0) :: ((List.map C47 (Vector.replicate 64 0).toList) ++ (((List.map C3 (Vector.replicate 64 0).toList) ++ ((.bool false) :: (.int .i64 0) :: (.bool false) :: []))))) 1 Y ZpS (by kernel_rfl)<|by exact Eq.symm (Eq.trans (b := 132) ln9 tZ_92.symm))<|Rx Y (Zo (ov Y) (ov Y) (Zm ZhI ln9) Y Y Y (JD (ZC ln9) ln9) (Zd ZnJ)<|Jl<|Eq.trans ln9<|Eq.symm ln9)<|Za<|K11 4 5 7 10 11 12 14 15 19 20 21 Y<|Td md0<|D1 0 Zh Y<|Dq 1 Y (Zk (ov Y) Y Y ZgJ)<|Dq 2 Y (Zn (ov Y) Y Y Y tS3 Y)<|Dq 3 Y (Zk (ov Y) Y Y Zg4)<|bE h fun x3 h_x3 h=>Dq 4 Y (XM (ov Y) (ov Y) ZmV Y Y h_x3)<|Dq 5 Y (Zn (ov Y) Y Y Y tS3<|Z9<|XY (o := 65) (o' := (x.Word.toNat * 1)) Zlm<|Jt h_x3)<|Dq 6 Y (Zk (ov Y) Y Y Zg4)<|bE h fun x4 h_x4 h=>Dq 7 Y (XM (ov Y) (ov Y) ZmV Y Y h_x4)<|Dq 8 Y (Zn (ov Y) Y Y Y tS3<|Z9<|XY (o := 65) (o' := ((Int.toNat 3) * 1)) Zlm<|Jt h_x4)<|Dq 9 Y (Zrc (ov Y) (ov Y) (ov Y) Y)<|D1 10 Zy Y<|Dd<|K11 4 5 7 10 11 12 14 15 19 20 21 Y<|Tr<|Rm Y<|Rm Y<|Rq Y (.guarded (old2 == false) Y Y Y Y fun h => Zk (ov Y) Y Y Ziq)<|bE h fun x5 h_x5 h=>Rq Y (.guarded (old2 == false) Y Y Y Y fun h => XM (ow Y h) (ov Y) Zbd Y Y<|gdT h_x5 h)<|Rq Y (.guarded (old2 == false) Y Y Y Y fun h => Zn (ow Y h) Y Y Y Zbe<|Z9<|XY (o := 1) (o' := ((Int.toNat 3) * 1)) at3<|Jt<|gdT h_x5 h)<|Rq Y (.guarded (old2 == false) Y Y Y Y fun h => Zcj (ow Y h)<|ov Y)<|Rq Y (.guarded (old2 == false) Y Y Y Y fun h => Zh3 (ow Y h) Zpb tI3 Y)<|Rq Y (.guarded (old2 == false) Y Y Y Y fun h => Zc (ov Y) ZjY)<|Rq Y (.guarded (old2 == false) Y Y Y Y fun h => Zb (ow Y h) tS3 Y)<|Rq Y (.guarded (old2 == false) Y Y Y Y fun h => Z4 (ow Y h)<|ow Y h)<|Rq Y (Qi (ov Y) fun hp=>ow Y<|gF hp)<|Ra Y<|Za<|K11 4 5 7 10 11 12 14 15 19 20 21 Y<|Zdm (cw := md0) (by kernel_rfl)<|D1 0 Zh Y<|Dq 1 Y (Zk (ov Y) Y Y Ze8)<|Dq 2 Y (Zn (ov Y) Y Y Y tS3 Y)<|bE h fun q h_q h=>Dq 3 Y (ZcK (ov Y) (ov Y) h_q)<|Dq 4 Y (Zk (ov Y) Y Y ZgJ)<|Dq 5 Y (Zn (ov Y) Y Y Y tS3 Y)<|Dq 6 Y (Zk (ov Y) Y Y Ziq)<|bE h fun x6 h_x6 h=>Dq 7 Y (XM (ov Y) (ov Y) Zbd Y Y h_x6)<|Dq 8 Y (Zn (ov Y) Y Y Y Zbe<|Z9<|XY (o := 1) (o' := (x.Word.toNat * 1)) at3<|Jt h_x6)<|Dq 9 Y (Zh3 (ov Y) Zpb tI3 Y)<|Dq 10 Y (Zk (ov Y) Y Y Zgc)<|Dq 11 Y (Zn (ov Y) Y Y Y tS3 Y)<|bE h fun q2 h_q2 h=>Dq 12 Y (ZfF (ov Y) (ov Y) h_q2)<|Dq 13 Y (Zk (ov Y) Y Y Ze8)<|Dq 14 Y (Zn (ov Y) Y Y Y tS3 Y)<|bE h fun q3 h_q3 h=>Dq 15 Y (ZcK (ov Y) (ov Y) h_q3)<|D2 16 ZaI Y<|D2 17 Zcj Y<|D2 18 Zjf Y<|D1 19 Zy Y<|Dd<|K9 4 5 7 10 11 12 19 20 21 Y<|Zs<|R2 ZT Y<|Rm Y<|Za<|⟨_, h, ES []⟩
  ·
   refine Zu<|?_
   replace h := lx h ▸ ho1
   exact ⟨_, h, ES []⟩
 ·
  refine Zj<|Tr<|Rm Y<|R2 Qb Y<|Rm Y<|Rq Y (.guarded ((decide (least = 0)) == false) Y Y Y Y fun h => Zh<|ov Y)<|Rq Y (Qi (ov Y) fun hp=>ow Y<|gF hp)<|Za<|K4 5 10 11 74 Y<|If h Y (fun h=>?_) fun h=>?_
  ·
   refine K0<|Tr<|Ra Y<|Ra Y<|Za<|?_
   obtain rfl := rt h
   exact Zg (Zp Y (.two (rb Y)<|rb Y))
  ·
   refine Ze<|K3 5 10 11 Y<|Tr<|Rq Y (Zi (ov Y) QW Y Y)<|Rm Y<|bE h fun y h_y h=>Rq Y (Zl (Zf3 h_y)<|.cons (ov Y) (.aggB Y)<|.cons (ov Y) (.b Y) .nil)<|Rm Y<|Rq Y (Zq (ov Y) Y)<|Rq Y (Zq (ov Y) Y)<|Ra Y<|Ra Y<|Za<|Zj<|K3 10 16 17 Y<|Tr<|Rm Y<|R1 Qa Y<|Za<|K3 10 16 82 Y<|If h Y (fun h=>?_) fun h=>?_
   ·
    refine K0<|Tr<|Ra Y<|Ra Y<|Za<|?_
    obtain rfl := rt h
    exact Zg (Zp Y (.two (rb Y)<|rb Y))
   ·
    refine Ze<|K2 10 16 Y<|Td md0<|Zbc 0 _ Y (by kernel_rfl) Y Y (fun hp'=>Zh<|ov Y)<|Zbc 6 _ Y (by kernel_rfl) Y Y (fun hp'=>Zh<|ov Y)<|Zbc 8 _ Y (by kernel_rfl) Y Y (fun hp'=>Zy<|ov Y)<|ZlM 1 _ _ Y (by kernel_rfl) Y Y (fun _=>Ext.app) (fun h=>by cases h) (ZcE 0 Y XZ)<|ZqP [2, 3, 4] (by kernel_rfl)<|.w Y Y Y (fun h=>by cases h) (fun h=>by cases h) (Qx (m := ([] : List (Int × Int))) (fk := FK3) (fv := FV3) (k := 3) (v := 4) (m' := ([(3, 4)] : List (Int × Int))) (ov Y) (ov Y) (ov Y) XZ ZaS Y (fun _=>.b Y) Y) ?_<|.w Y Y Y (fun h=>by cases h) (fun h=>by cases h) (Qx (m := ([] : List (Int × Int))) (fk := FK3) (fv := FV3) (k := 2) (v := 3) (m' := ([(2, 3)] : List (Int × Int))) (ov Y) (ov Y) (ov Y) XZ ZaS Y (fun _=>.b Y) Y) ?_<|.w Y Y Y (fun h=>by cases h) (fun h=>by cases h) (Qx (m := ([] : List (Int × Int))) (fk := FK3) (fv := FV3) (k := 1) (v := 2) (m' := ([(1, 2)] : List (Int × Int))) (ov Y) (ov Y) (ov Y) XZ ZaS Y (fun _=>.b Y) Y) ?_ .nil
    ·
     refine ZlV 3 4 Y Y (by kernel_rfl) Y Y Y Y (fun h=>by cases h) (fun h=>by cases h) (fun h=>by cases h) (fun h=>by cases h) (Qx (m := ([(3, 4)] : List (Int × Int))) (fk := FK3) (fv := FV3) (k := 2) (v := 3) (m' := ([(3, 4), (2, 3)] : List (Int × Int))) (ov Y) (ov Y) (ov Y) XZ ZaS Y (fun _=>.b Y) Y) (Qx (m := ([(3, 4)] : List (Int × Int))) (fk := FK3) (fv := FV3) (k := 1) (v := 2) (m' := ([(3, 4), (1, 2)] : List (Int × Int))) (ov Y) (ov Y) (ov Y) XZ ZaS Y (fun _=>.b Y) Y) ?_ ?_
     ·
      refine Do 4 Y (Qx (m := ([(3, 4), (2, 3)] : List (Int × Int))) (fk := FK3) (fv := FV3) (k := 1) (v := 2) (m' := ([(3, 4), (2, 3), (1, 2)] : List (Int × Int))) (ov Y) (ov Y) (ov Y) XZ ZaS Y (fun _=>.b Y) Y)<|D1 5 Zh Y<|bE h fun o h_o h=>Dq 7 Y (ZdM (m := ([(3, 4), (2, 3), (1, 2)] : List (Int × Int))) (fk := FK3) (fv := FV3) (k := least) (z0 := 0) (ov Y) (ov Y) XZ ZaS Y (fun _=>.b Y) (Xt Zln Y) (fun _ _=>Y)<|mgP (by decide) (by decide) h_o)<|D1 9 Zy Y<|Dd<|?_
      obtain rfl := rt h
      exact Zg (Zp Y (.two (rb Y)<|rb Y))
     ·
      refine Do 3 Y (Qx (m := ([(3, 4), (1, 2)] : List (Int × Int))) (fk := FK3) (fv := FV3) (k := 2) (v := 3) (m' := ([(3, 4), (1, 2), (2, 3)] : List (Int × Int))) (ov Y) (ov Y) (ov Y) XZ ZaS Y (fun _=>.b Y) Y)<|D1 5 Zh Y<|bE h fun o h_o h=>Dq 7 Y (ZdM (m := ([(3, 4), (1, 2), (2, 3)] : List (Int × Int))) (fk := FK3) (fv := FV3) (k := least) (z0 := 0) (ov Y) (ov Y) XZ ZaS Y (fun _=>.b Y) (Xt Zln Y) (fun _ _=>Y)<|mgP (by decide) (by decide) h_o)<|D1 9 Zy Y<|Dd<|?_
      obtain rfl := rt h
      exact Zg (Zp Y (.two (rb Y)<|rb Y))
    ·
     refine ZlV 2 4 Y Y (by kernel_rfl) Y Y Y Y (fun h=>by cases h) (fun h=>by cases h) (fun h=>by cases h) (fun h=>by cases h) (Qx (m := ([(2, 3)] : List (Int × Int))) (fk := FK3) (fv := FV3) (k := 3) (v := 4) (m' := ([(2, 3), (3, 4)] : List (Int × Int))) (ov Y) (ov Y) (ov Y) XZ ZaS Y (fun _=>.b Y) Y) (Qx (m := ([(2, 3)] : List (Int × Int))) (fk := FK3) (fv := FV3) (k := 1) (v := 2) (m' := ([(2, 3), (1, 2)] : List (Int × Int))) (ov Y) (ov Y) (ov Y) XZ ZaS Y (fun _=>.b Y) Y) ?_ ?_
     ·
      refine Do 4 Y (Qx (m := ([(2, 3), (3, 4)] : List (Int × Int))) (fk := FK3) (fv := FV3) (k := 1) (v := 2) (m' := ([(2, 3), (3, 4), (1, 2)] : List (Int × Int))) (ov Y) (ov Y) (ov Y) XZ ZaS Y (fun _=>.b Y) Y)<|D1 5 Zh Y<|bE h fun o h_o h=>Dq 7 Y (ZdM (m := ([(2, 3), (3, 4), (1, 2)] : List (Int × Int))) (fk := FK3) (fv := FV3) (k := least) (z0 := 0) (ov Y) (ov Y) XZ ZaS Y (fun _=>.b Y) (Xt Zln Y) (fun _ _=>Y)<|mgP (by decide) (by decide) h_o)<|D1 9 Zy Y<|Dd<|?_
      obtain rfl := rt h
      exact Zg (Zp Y (.two (rb Y)<|rb Y))
     ·
      refine Do 2 Y (Qx (m := ([(2, 3), (1, 2)] : List (Int × Int))) (fk := FK3) (fv := FV3) (k := 3) (v := 4) (m' := ([(2, 3), (1, 2), (3, 4)] : List (Int × Int))) (ov Y) (ov Y) (ov Y) XZ ZaS Y (fun _=>.b Y) Y)<|D1 5 Zh Y<|bE h fun o h_o h=>Dq 7 Y (ZdM (m := ([(2, 3), (1, 2), (3, 4)] : List (Int × Int))) (fk := FK3) (fv := FV3) (k := least) (z0 := 0) (ov Y) (ov Y) XZ ZaS Y (fun _=>.b Y) (Xt Zln Y) (fun _ _=>Y)<|mgP (by decide) (by decide) h_o)<|D1 9 Zy Y<|Dd<|?_
      obtain rfl := rt h
      exact Zg (Zp Y (.two (rb Y)<|rb Y))
    ·
     refine ZlV 2 3 Y Y (by kernel_rfl) Y Y Y Y (fun h=>by cases h) (fun h=>by cases h) (fun h=>by cases h) (fun h=>by cases h) (Qx (m := ([(1, 2)] : List (Int × Int))) (fk := FK3) (fv := FV3) (k := 3) (v := 4) (m' := ([(1, 2), (3, 4)] : List (Int × Int))) (ov Y) (ov Y) (ov Y) XZ ZaS Y (fun _=>.b Y) Y) (Qx (m := ([(1, 2)] : List (Int × Int))) (fk := FK3) (fv := FV3) (k := 2) (v := 3) (m' := ([(1, 2), (2, 3)] : List (Int × Int))) (ov Y) (ov Y) (ov Y) XZ ZaS Y (fun _=>.b Y) Y) ?_ ?_
     ·
      refine Do 3 Y (Qx (m := ([(1, 2), (3, 4)] : List (Int × Int))) (fk := FK3) (fv := FV3) (k := 2) (v := 3) (m' := ([(1, 2), (3, 4), (2, 3)] : List (Int × Int))) (ov Y) (ov Y) (ov Y) XZ ZaS Y (fun _=>.b Y) Y)<|D1 5 Zh Y<|bE h fun o h_o h=>Dq 7 Y (ZdM (m := ([(1, 2), (3, 4), (2, 3)] : List (Int × Int))) (fk := FK3) (fv := FV3) (k := least) (z0 := 0) (ov Y) (ov Y) XZ ZaS Y (fun _=>.b Y) (Xt Zln Y) (fun _ _=>Y)<|mgP (by decide) (by decide) h_o)<|D1 9 Zy Y<|Dd<|?_
      obtain rfl := rt h
      exact Zg (Zp Y (.two (rb Y)<|rb Y))
     ·
      refine Do 2 Y (Qx (m := ([(1, 2), (2, 3)] : List (Int × Int))) (fk := FK3) (fv := FV3) (k := 3) (v := 4) (m' := ([(1, 2), (2, 3), (3, 4)] : List (Int × Int))) (ov Y) (ov Y) (ov Y) XZ ZaS Y (fun _=>.b Y) Y)<|D1 5 Zh Y<|bE h fun o h_o h=>Dq 7 Y (ZdM (m := ([(1, 2), (2, 3), (3, 4)] : List (Int × Int))) (fk := FK3) (fv := FV3) (k := least) (z0 := 0) (ov Y) (ov Y) XZ ZaS Y (fun _=>.b Y) (Xt Zln Y) (fun _ _=>Y)<|mgP (by decide) (by decide) h_o)<|D1 9 Zy Y<|Dd<|?_
      obtain rfl := rt h
      exact Zg (Zp Y (.two (rb Y)<|rb Y))
theorem Zef {m : api_Map} {p : api_Param} {cells : List api_Cell} {l : List api_Rest} {first : Int} {last : Int} {r : (List api_Sample)} (h : Js m p cells l first last = some r) :
 GSpec Tryz.prog gl0 36 [.agg [.int .i64 m.Version, .sl 41 (List.map R41 m.Params)], .agg [.str p.Name, .int .i64 p.Kind, .sl 128 (List.map Z2 p.Parts), .int .i64 p.First, .int .i64 p.Every, .int .i64 p.Times, .int .i64 p.Step, .sl 9 (List.map R9 p.Names)], .sl 44 (List.map R44 cells), .sl 92 (List.map R92 l), .int .i64 first, .int .i64 last] [] (.own 0 r.length) [some ⟨62, List.map R62 r⟩] := by
 unfold Js at h
 replace h := ZS h
 refine Zdx (by kernel_rfl) Tryz.func36 Y Y<|?_
 intro w0 A W φ0
 refine Tr<|Rq Y (ZD (cva<|ov Y) Y tZ_24 Y)<|Rq Y (ZD (cva<|ov Y) Y tZ_41 Y)<|Ra Y<|Za<|K6 2 3 4 5 6 7 Y<|Tr<|Ra Y<|Za<|I1 (fun out=>⟨[(13, .own 0 out.length)], [some ⟨62, List.map R62 out⟩]⟩) h (fun h=>?_) fun out h=>?_
 ·
  refine Tr<|Rm Y<|Ra Y<|Za<|Zf<|?_
  obtain ⟨r1, hl1, ho1⟩ := Qg h
  refine L3 (fun l2 out2 s=>⟨[(2, .sl 44 (List.map R44 cells)), (3, .sl 92 (List.map R92 l2)), (5, .int .i64 last), (6, .rp [.int .i64 m.Version, .sl 41 (List.map R41 m.Params)] 0), (7, .rp [.str p.Name, .int .i64 p.Kind, .sl 128 (List.map Z2 p.Parts), .int .i64 p.First, .int .i64 p.Every, .int .i64 p.Times, .int .i64 p.Step, .sl 9 (List.map R9 p.Names)] 0), (13, .own 0 out2.length), (14, .int .i64 s)], [some ⟨62, List.map R62 out2⟩]⟩) hl1 (ES [none]) fun n1 l2 out2 s h=>?_
  unfold Qr at h
  refine Zj<|Tr<|Rm Y<|Rm Y<|R2 ZbO Y<|Za<|K8 2 3 5 6 7 13 14 24 Y<|If h Y (fun h=>?_) fun h=>?_
  ·
   refine Ze<|I2 (fun l3 out3=>⟨[(2, .sl 44 (List.map R44 cells)), (3, .sl 92 (List.map R92 l3)), (5, .int .i64 last), (6, .rp [.int .i64 m.Version, .sl 41 (List.map R41 m.Params)] 0), (7, .rp [.str p.Name, .int .i64 p.Kind, .sl 128 (List.map Z2 p.Parts), .int .i64 p.First, .int .i64 p.Every, .int .i64 p.Times, .int .i64 p.Step, .sl 9 (List.map R9 p.Names)] 0), (13, .own 0 out3.length), (14, .int .i64 s)], [some ⟨62, List.map R62 out3⟩]⟩) h (fun h=>?_) fun l3 out3 h=>?_
   ·
    refine Zf<|K7 2 3 5 6 7 13 14 Y<|Tr<|Rx Y (Zr (row := ((Vector.replicate 16 (api_Rest.mk 0 (Vector.replicate 64 0) (Vector.replicate 64 0) false 0 false)).toList.flatMap R92)) 1 Y ZrF (by kernel_rfl)<|by exact Eq.symm (Eq.trans (b := 2112) (Qs (fun x => (D92 x).1.trans tZ_92) rfl) tZ_119.symm))<|Za<|I2 (fun l4 rests=>⟨[(2, .sl 44 (List.map R44 cells)), (3, .sl 92 (List.map R92 l4)), (5, .int .i64 last), (6, .rp [.int .i64 m.Version, .sl 41 (List.map R41 m.Params)] 0), (7, .rp [.str p.Name, .int .i64 p.Kind, .sl 128 (List.map Z2 p.Parts), .int .i64 p.First, .int .i64 p.Every, .int .i64 p.Times, .int .i64 p.Step, .sl 9 (List.map R9 p.Names)] 0), (13, .own 0 out2.length), (14, .int .i64 s), (15, .ptr 1 1 0 0)], [some ⟨62, List.map R62 out2⟩, some ⟨119, [(rests.toList.flatMap R92)]⟩]⟩) h (fun h=>?_) fun l4 rests h=>?_
    ·
     refine Zf<|?_
     obtain ⟨r2, hl2, ho2⟩ := Qg h
     refine L2 (fun l5 rests2=>⟨[(2, .sl 44 (List.map R44 cells)), (3, .sl 92 (List.map R92 l5)), (5, .int .i64 last), (6, .rp [.int .i64 m.Version, .sl 41 (List.map R41 m.Params)] 0), (7, .rp [.str p.Name, .int .i64 p.Kind, .sl 128 (List.map Z2 p.Parts), .int .i64 p.First, .int .i64 p.Every, .int .i64 p.Times, .int .i64 p.Step, .sl 9 (List.map R9 p.Names)] 0), (13, .own 0 out2.length), (14, .int .i64 s), (15, .ptr 1 1 0 0)], [some ⟨62, List.map R62 out2⟩, some ⟨119, [(rests2.toList.flatMap R92)]⟩]⟩) hl2 (ES [some 0, some 1] (hhp := .cons Y (roM D62)<|.cons Y (ro1 (by exact Eq.trans (b := 2112) (Qs (fun x => (D92 x).1.trans tZ_92) rfl) tZ_119.symm)<|rld<|JR fun x => (D92 x).2) .nil)) fun n2 l5 rests2 h=>?_
     unfold Z1 at h
     refine Zj<|Tr<|Rm Y<|Rl tZ_92 ZdX Y<|R2 Qq Y<|Rm Y<|Rq Y (.guarded ((decide (0 < (l5.length : Int))) == true) Y Y Y Y fun h => Zh<|ov Y)<|bE h fun x h_x h=>Rq Y (.guarded ((decide (0 < (l5.length : Int))) == true) Y Y Y Y fun h => Zx (ow Y h) (ov Y) ZdX<|gdT h_x h)<|Rq Y (.guarded ((decide (0 < (l5.length : Int))) == true) Y Y Y Y fun h => Zc (ow Y h) Zd0)<|Rq Y (.guarded ((decide (0 < (l5.length : Int))) == true) Y Y Y Y fun h => Zb (ow Y h) tS3<|Z9 at1)<|bE h fun q h_q h=>Rq Y (.guarded ((decide (0 < (l5.length : Int))) == true) Y Y Y Y fun h => Ze1 (ow Y h) (ov Y)<|gdT h_q h)<|Rq Y (.guarded ((decide (0 < (l5.length : Int))) == true) Y Y Y Y fun h => Zh<|ov Y)<|Rq Y (.guarded ((decide (0 < (l5.length : Int))) == true) Y Y Y Y fun h => ZbO (ow Y h)<|ow Y h)<|Rq Y (QC (ov Y) fun hp=>ow Y<|gT hp)<|Za<|K9 2 3 5 6 7 13 14 15 38 Y<|If h Y (fun h=>?_) fun h=>?_
     ·
      refine Ze<|Zf<|Zj<|K8 2 3 5 6 7 13 14 15 Y<|Tr<|Rm Y<|bE h fun x2 h_x2 h=>Rq Y (Zx (ov Y) (ov Y) ZdX h_x2)<|Rq Y (Zc (ov Y) Zd0)<|Rq Y (Zb (ov Y) tS3<|Z9 at1)<|bE h fun q2 h_q2 h=>Rq Y (Ze1 (ov Y) (ov Y) h_q2)<|Rm Y<|R2 Qb Y<|Za<|K9 2 3 5 6 7 13 14 15 45 Y<|If h Y (fun h=>?_) fun h=>?_
      ·
       exact K8 2 3 5 6 7 13 14 15 Y<|Zdm (cw := md0) (by kernel_rfl)<|D1 0 Zh Y<|bE h fun x3 h_x3 h=>Dq 1 Y (Zx (ov Y) (ov Y) ZdX h_x3)<|Dq 2 Y (Zc (ov Y) Zd0)<|Dq 3 Y (Zb (ov Y) tS3<|Z9 at1)<|bE h fun q3 h_q3 h=>Dq 4 Y (ZcH (ov Y) (ov Y) h_q3)<|D1 5 Zh Y<|bE h fun x4 h_x4 h=>Dq 6 Y (Zx (ov Y) (ov Y) ZdX h_x4)<|Dq 7 Y (Zi (ov Y) ZhI (QD<|ZC ln9) ln9)<|bE h fun x5 h_x5 h=>Dq 8 Y (XM (ov Y) (ov Y) ZpZ Y Y h_x5)<|Do 9 Y (Zo (ov Y) (ov Y) (Zm ZhI ln9) Y Y Y (JD (XY (o := 0) (o' := (q3.toNat * 132)) (ZC<|Qs (fun x=>(D92 x).1.trans tZ_92) Y)<|Zl1 (fun x=>(D92 x).1.trans tZ_92) h_x5) ln9) (Zd ZnJ)<|Znf<|Znc (fun x=>(D92 x).1.trans tZ_92) h_x5 (x := x4))<|Dd<|K8 2 3 5 6 7 13 14 15 Y<|Zs<|Rm Y<|bE h fun l6 h_l6 h=>Rq Y (Zdy (ov Y) ZdX (oi<|ov Y) on h_l6)<|Ra Y<|Za<|⟨_, h, ES [some 0, some 1] (hhp := .cons Y (roM D62)<|.cons Y (ro1 (by exact Eq.trans (b := 2112) (Qs (fun x => (D92 x).1.trans tZ_92) rfl) tZ_119.symm)<|rld<|JR fun x => (D92 x).2) .nil)⟩
      ·
       exact Ze<|K8 2 3 5 6 7 13 14 15 Y<|Zs<|Rm Y<|bE h fun l7 h_l7 h=>Rq Y (Zdy (ov Y) ZdX (oi<|ov Y) on h_l7)<|Ra Y<|Za<|⟨_, h, ES [some 0, some 1] (hhp := .cons Y (roM D62)<|.cons Y (ro1 (by exact Eq.trans (b := 2112) (Qs (fun x => (D92 x).1.trans tZ_92) rfl) tZ_119.symm)<|rld<|JR fun x => (D92 x).2) .nil)⟩
     ·
      refine Zu<|?_
      replace h := lx h ▸ ho2
      exact ⟨_, h, ES [some 0, some 1] (hhp := .cons Y (roM D62)<|.cons Y (ro1 (by exact Eq.trans (b := 2112) (Qs (fun x => (D92 x).1.trans tZ_92) rfl) tZ_119.symm)<|rld<|JR fun x => (D92 x).2) .nil)⟩
    ·
     refine Tr<|Rq Y (Zi (ov Y) QW Y Y)<|Rm Y<|Rm Y<|R2 ZfQ Y<|bE h fun y h_y h=>Rq Y (Zl (Zeg h_y)<|.cons (ov Y) (.aggB Y)<|.cons (ov Y) (.b Y)<|.cons (ov Y) (.b Y) .nil)<|Ra Y<|Za<|K9 2 3 5 6 7 13 14 15 16 Y<|Tr<|Rm Y<|Rl tZ_44 Za7 Y<|Rm Y<|Za<|Zf<|?_
     obtain ⟨r3, hl3, ho3⟩ := Qg h
     refine L2 (fun out4 i=>⟨[(2, .sl 44 (List.map R44 cells)), (3, .sl 92 (List.map R92 l4)), (5, .int .i64 last), (6, .rp [.int .i64 m.Version, .sl 41 (List.map R41 m.Params)] 0), (7, .rp [.str p.Name, .int .i64 p.Kind, .sl 128 (List.map Z2 p.Parts), .int .i64 p.First, .int .i64 p.Every, .int .i64 p.Times, .int .i64 p.Step, .sl 9 (List.map R9 p.Names)] 0), (13, .own 0 out4.length), (14, .int .i64 s), (15, .ptr 1 1 0 0), (16, .sl 3 (List.map R3 y)), (62, .sl 44 (List.map R44 cells)), (63, .int .i64 (cells.length : Int)), (64, .int .i64 i)], [some ⟨62, List.map R62 out4⟩, some ⟨119, [(rests.toList.flatMap R92)]⟩]⟩) hl3 (ES [some 0, some 1] (hhp := .cons Y (roM D62)<|.cons Y (ro1 (by exact Eq.trans (b := 2112) (Qs (fun x => (D92 x).1.trans tZ_92) rfl) tZ_119.symm)<|rld<|JR fun x => (D92 x).2) .nil)) fun n3 out4 i h=>?_
     unfold QT at h
     refine Tr<|R2 ZA Y<|Za<|Zj<|If h Y (fun h=>?_) fun h=>?_
     ·
      exact Ze<|Zj<|Zf<|K12 2 3 5 6 7 13 14 15 16 62 63 64 Y<|Tr<|Rm Y<|bE h fun x6 h_x6 h=>Rq Y (Zx (ov Y) (ov Y) Za7 h_x6)<|Rq Y (Zi (ov Y) Zeu Y Y)<|Rx Y (Zr (row := [_, _, _, _]) 2 Y ZiO Y tZ_44)<|Ra Y<|Rx Y (Zo (ov Y) (ov Y) (Zm Zeu Y) Y Y Y (Nat.le_of_ble_eq_true Y) (Zd Y) Y)<|Za<|Qf (kc 2 Y<|kc 3 Y<|kc 5 Y<|kc 6 Y<|kc 7 Y<|kc 13 Y<|kc 14 Y<|kc 15 Y<|kc 16 Y<|kc 17 Y<|kc 18 Y<|kc 62 Y<|kc 63 Y<|kc 64 Y kn) Y<|Tr<|Rq Y (Zi (ov Y) Zfk Y Y)<|Rq Y (Zi (ov Y) QW Y Y)<|Rq Y (ZK (ov Y) Y Y Y Zeu Y Y)<|Rq Y (ZK (ov Y) Y Y Y ZrN (QD<|ZC<|Qs (fun x=>(D92 x).1.trans tZ_92) Y) (Qs (fun x=>(D92 x).1.trans tZ_92) Y) (hns := (Zbs (JR fun x => (D92 x).2))))<|bE h fun y2 h_y2 h=>Rq Y (Zl (ZfT h_y2)<|.cons (ov Y) (.aggB Y)<|.cons (ov Y) (.aggB Y)<|.cons (ov Y) (.aggB Y)<|.cons (ov Y) (.aggB<|JR fun x => (D92 x).2) .nil)<|Rm Y<|Rq Y (Zq (ov Y) Y)<|Rq Y (Zq (ov Y) Y)<|Ra Y<|Ra Y<|Za<|Qf (kc 2 Y<|kc 3 Y<|kc 5 Y<|kc 6 Y<|kc 7 Y<|kc 13 Y<|kc 14 Y<|kc 15 Y<|kc 16 Y<|kc 17 Y<|kc 19 Y<|kc 20 Y<|kc 62 Y<|kc 63 Y<|kc 64 Y kn) Y<|Zs<|Rm Y<|Rm Y<|Rm Y<|bE h fun x7 h_x7 h=>Rq Y (Zx (ov Y) (ov Y) XX h_x7)<|Rq Y (Zb (ov Y) tS3 Y)<|Rm Y<|Rm Y<|Rq Y (Qz (ys := [_, _, _]) ZlJ Zmb Zk6 (.cons (cvs (ov Y)<|Zt Y)<|.cons (cvs (ov Y)<|Zt Y)<|.cons (cvs (ov Y)<|Zt Y) .nil) Y)<|R_q (.sl 62<|List.map R62 ([(api_Sample.mk x7 y2.1 y2.2)] : List api_Sample)) Y (Zc2 Zds (.cons (cva<|ov Y) Y (pwD Y) .nil) Y Y)<|bE h fun l8 h_l8 h=>Rx Y (XH (ov Y) (Xe (ov Y) tZ_62) Zds Y Y Y (fun _=>Zd Y) Y h_l8)<|Ra Y<|Za<|K12 2 3 5 6 7 13 14 15 16 62 63 64 Y<|Zs<|R2 ZT Y<|Rm Y<|Za<|⟨_, h, ES [some 0, some 1] (hhp := .cons Y (roM D62)<|.cons Y (ro1 (by exact Eq.trans (b := 2112) (Qs (fun x => (D92 x).1.trans tZ_92) rfl) tZ_119.symm)<|rld<|JR fun x => (D92 x).2) .nil)⟩
     ·
      refine Zu<|?_
      replace h := lx h ▸ ho3
      exact ⟨_, h, ES [some 0]⟩
   ·
    exact Zs<|Rm Y<|R2 ZT Y<|Ra Y<|Za<|⟨_, h, ES [some 0]⟩
  ·
   refine Zu<|?_
   replace h := lx h ▸ ho1
   exact ⟨_, h, ES [some 0]⟩
 ·
  refine Tr<|Rm Y<|Ra Y<|Za<|?_
  obtain rfl := rt h
  exact Zg<|ZlB [some 0] Y (.cons (.tmp Y) .nil) (.cons Y (roM D62) .nil) Y Y<|.own _ Y
theorem Zfl {m : api_Map} {name : Str} {l : List api_Rest} {r : api_Series × Int} (h : Jq m name l = some r) :
 CSpec Tryz.prog gl0 12 [.agg [.int .i64 m.Version, .sl 41 (List.map R41 m.Params)], .str name, .sl 92 (List.map R92 l)] (.tuple [.agg [.int .i64 r.1.Den, .sl 62 (List.map R62 r.1.Samples)], .int .i64 r.2]) := by
 unfold Jq at h
 replace h := ZS h
 refine So Tryz.func12 Y fun w0 A=>Tr<|Rq Y (ZD (cva<|ov Y) Y tZ_24 Y)<|Rq Y (ZD (cvs (ov Y)<|Zt Y) Y tZ_9 Y)<|Rx Y (Zr (row := [_, _]) 0 Y Zem Y tZ_55)<|Ra Y<|Za<|Zj<|K4 2 3 4 6 Y<|Tr<|Rq Y (Zi (ov Y) Zfk Y Y)<|bE h fun y h_y h=>Rq Y (Zl (Zhz h_y)<|.cons (ov Y) (.aggB Y) .nil)<|Rm Y<|Rq Y (Zq (ov Y) Y)<|Rq Y (Zq (ov Y) Y)<|Ra Y<|Ra Y<|Za<|K5 2 3 4 6 9 Y<|Tr<|Rm Y<|R2 Z4 Y<|Za<|K6 2 3 4 6 9 24 Y<|If h Y (fun h=>?_) fun h=>?_
 ·
  refine K2 6 9 Y<|Tr<|Rq Y (Qz (ys := [_, _]) ZfC Zfv Zem .nil Y)<|Rm Y<|Rx Y (Zo (ov Y) (ov Y) (Zm ZaG Y) Y Y Y (Nat.le_of_ble_eq_true Y) (Zd Y) Y)<|Ra Y<|Za<|?_
  obtain rfl := rt h
  exact Zg (Zp Y (.two (.agg Y Y Y Y ZaG Y Y<|.cons (Dat.view<|.b Y)<|.cons (View.nils 62) .nil)<|rb Y))
 ·
  refine Ze<|K4 2 3 4 6 Y<|Tr<|Rq Y (Zc (ov Y) Jp)<|Rq Y (Zb (ov Y) ZdK Y)<|Rq Y (Qk<|.cons (ov Y) .nil)<|bE h fun y2 h_y2 h=>Rq Y (Zl (Q7 Y (fun z0 _ hz=>Zeh hz) h_y2)<|.cons (ov Y) (.b Y)<|.cons (ov Y) (.fnC<|.cons (.b Y) .nil) .nil)<|Ra Y<|Za<|Zj<|K4 2 3 6 10 Y<|Tr<|Rm Y<|R2 ZA Y<|Za<|K5 2 3 6 10 32 Y<|If h Y (fun h=>?_) fun h=>?_
  ·
   refine K1 6 Y<|Tr<|Rq Y (Qz (ys := [_, _]) ZfC Zfv Zem .nil Y)<|Rx Y (Zo (ov Y) (ov Y) (Zm ZaG Y) Y Y Y (Nat.le_of_ble_eq_true Y) (Zd Y) Y)<|Ra Y<|Za<|?_
   obtain rfl := rt h
   exact Zg (Zp Y (.two (.agg Y Y Y Y ZaG Y Y<|.cons (Dat.view<|.b Y)<|.cons (View.nils 62) .nil)<|rb Y))
  ·
   refine Ze<|Zj<|K4 2 3 6 10 Y<|Tr<|Rm Y<|bE h fun y3 h_y3 h=>Rq Y (Zl (ZeL h_y3)<|.cons (ov Y) (.b Y) .nil)<|Ra Y<|Za<|K5 2 3 6 10 11 Y<|Tr<|Rm Y<|R2 Z4 Y<|Za<|K6 2 3 6 10 11 37 Y<|If h Y (fun h=>?_) fun h=>?_
   ·
    refine K2 6 11 Y<|Tr<|Rq Y (Qz (ys := [_, _]) ZfC Zfv Zem .nil Y)<|Rm Y<|Rx Y (Zo (ov Y) (ov Y) (Zm ZaG Y) Y Y Y (Nat.le_of_ble_eq_true Y) (Zd Y) Y)<|Ra Y<|Za<|?_
    obtain rfl := rt h
    exact Zg (Zp Y (.two (.agg Y Y Y Y ZaG Y Y<|.cons (Dat.view<|.b Y)<|.cons (View.nils 62) .nil)<|rb Y))
   ·
    refine Ze<|K4 2 3 6 10 Y<|Tr<|Rq Y (Qz (ys := [_, _]) ZfC Zfv Zem (.cons (cvs (ov Y)<|Zt Y) .nil) Y)<|Rx Y (Zr (row := [_, _]) 1 Y Zem Y tZ_55)<|Rx Y (Zo (ov Y) (ov Y) (Zm ZaG Y) Y Y Y (Nat.le_of_ble_eq_true Y) (Zd Y) Y)<|Za<|Zj<|K5 2 3 6 10 12 Y<|Tr<|Rm Y<|Rl tZ_92 ZdX Y<|R2 Qb Y<|Za<|K6 2 3 6 10 12 43 Y<|If h Y (fun h=>?_) fun h=>?_
    ·
     refine K2 6 12 Y<|Tr<|Rq Y (ZK (ov Y) Y Y Y ZaG Y Y)<|Rx Y (Zo (ov Y) (ov Y) (Zm ZaG Y) Y Y Y (Nat.le_of_ble_eq_true Y) (Zd Y) Y)<|Ra Y<|Za<|?_
     obtain rfl := rt h
     exact Zg (Zp Y (.two (.agg Y Y Y Y ZaG Y Y<|.cons (Dat.view<|.b Y)<|.cons (View.nils 62) .nil)<|rb Y))
    ·
     refine Ze<|K5 2 3 6 10 12 Y<|Tr<|Rq Y (Zc (ov Y) Jp)<|Rq Y (Zb (ov Y) ZdK Y)<|Rm Y<|bE h fun x h_x h=>Rq Y (Zx (ov Y) (ov Y) ZaT h_x)<|Rq Y (Zi (ov Y) QW Y Y)<|Rx Y (Zr (row := [_, _, _, _, _, _, _, _]) 2 Y ZiS Y tZ_41)<|Rx Y (Zo (ov Y) (ov Y) (Zm QW Y) Y Y Y (Nat.le_of_ble_eq_true Y) (Zd Y) Y)<|Za<|K5 2 3 6 12 13 Y<|Tr<|Rq Y (ZK (ov Y) Y Y Y QW Y Y)<|R_q (.sl 41<|List.map R41 ([x] : List api_Param)) Y (Zc2 ZaT (.cons (cva<|ov Y) Y (pwD Y) .nil) Y Y)<|Rq Y (Qz (ys := [_, _]) Zrx ZrD Zsj (.cons (cvs (ov Y)<|Zt Y) .nil) Y)<|bE h fun y4 h_y4 h=>Rq Y (Zl (Zeb h_y4)<|.cons (ov Y) (.aggB Y) .nil)<|Rm Y<|Rq Y (Zq (ov Y) Y)<|Rq Y (Zq (ov Y) Y)<|Ra Y<|Ra Y<|Za<|K6 2 3 6 12 13 14 Y<|Td md0<|D1 0 Zh Y<|bE h fun x2 h_x2 h=>Dq 1 Y (Zx (ov Y) (ov Y) ZdX h_x2)<|Dq 2 Y (Zc (ov Y) Zd0)<|Dq 3 Y (Zb (ov Y) tS3<|Z9 at1)<|bE h fun q h_q h=>Dq 4 Y (Ze1 (ov Y) (ov Y) h_q)<|D1 5 Zh Y<|D1 6 Zh Y<|Dq 7 Y (ZeE (Xe (ov Y) tZ_92) ZdX<|ZbE _ _)<|D2 8 ZaI Y<|bE h fun x3 h_x3 h=>Dq 9 Y (Zx (ov Y) (ov Y) ZdX h_x3)<|Dq 10 Y (Zc (ov Y) Zd0)<|Dq 11 Y (Zb (ov Y) tS3<|Z9 at1)<|bE h fun q2 h_q2 h=>Dq 12 Y (Ze1 (ov Y) (ov Y) h_q2)<|D1 13 Zy Y<|D1 14 Zy Y<|Dd<|Zj<|K8 2 3 6 12 13 14 16 17 Y<|Tr<|Rm Y<|Rm Y<|R2 ZaI Y<|R2 ZT Y<|Rm Y<|Rl tZ_44 Za7 Y<|R2 ZfQ Y<|R2 ZT Y<|R2 Qq Y<|Za<|K9 2 3 6 12 13 14 16 17 78 Y<|If h Y (fun h=>?_) fun h=>?_
     ·
      refine K1 6 Y<|Tr<|Rq Y (Qz (ys := [_, _]) ZfC Zfv Zem .nil Y)<|Rx Y (Zo (ov Y) (ov Y) (Zm ZaG Y) Y Y Y (Nat.le_of_ble_eq_true Y) (Zd Y) Y)<|Ra Y<|Za<|?_
      obtain rfl := rt h
      exact Zg (Zp Y (.two (.agg Y Y Y Y ZaG Y Y<|.cons (Dat.view<|.b Y)<|.cons (View.nils 62) .nil)<|rb Y))
     ·
      refine Ze<|K8 2 3 6 12 13 14 16 17 Y<|Tr<|Rq Y (Zi (ov Y) Zfk Y Y)<|Rq Y (ZK (ov Y) Y Y Y QW Y Y)<|Rm Y<|Rm Y<|Rm Y<|Rm Y<|bE h fun y5 h_y5 h=>Rx Y (ZcA [] (Zef h_y5) (.cons (ov Y) (Ja<|rld Y)<|.cons (ov Y) (Ja<|rld Y)<|.cons (ov Y) (.dat Y)<|.cons (ov Y) (.dat Y)<|.cons (ov Y) (.dat Y)<|.cons (ov Y) (.dat Y) .nil) .nil Y (.keep Y Y<|.keep Y Y<|.keep Y Y<|.lent 0 (.inr ⟨Nat.le_of_ble_eq_true Y, Y⟩) Y (roM D62) .nil) Y Y<|.own _<|.inr ⟨Nat.le_of_ble_eq_true Y, Y⟩)<|Rq Y (Zk (ov Y) Y Y Zbb)<|Rx Y (Zo (ov Y) (ov Y) (ZL ZfN) Y Y Y (Nat.le_of_ble_eq_true Y) (Zd Y) Y)<|Za<|K3 6 12 17 Y<|Tr<|Rq Y (Zk (ov Y) Y Y Zbb)<|Rq Y (Zn (ov Y) Y Y Y ZfN Y)<|Rm Y<|R2 ZT Y<|R2 ZfQ Y<|Rq Y (Qz (ys := [_, _, _]) ZlJ Zmb Zk6 (.cons (cvs (ov Y)<|Zt Y) .nil) Y)<|R_q (.sl 62<|List.map R62 ([(api_Sample.mk (i64 ((i64 (q2 + 1)) * 1024)) 0 0)] : List api_Sample)) Y (Zc2 Zds (.cons (cva<|ov Y) Y (pwD Y) .nil) Y Y)<|bE h fun l2 h_l2 h=>Rx Y (XH (ov Y) (Xe (ov Y) tZ_62) Zds Y Y Y (fun _=>Zd Y) Y h_l2)<|Rq Y (Zk (ov Y) Y Y Zbb)<|Rx Y (Zo (ov Y) (ov Y) (ZL ZfN) Y Y Y (Nat.le_of_ble_eq_true Y) (Zd Y) Y)<|Za<|K2 6 12 Y<|Tr<|Rq Y (ZK (ov Y) Y Y Y ZaG Y Y)<|Rx Y (Zo (ov Y) (ov Y) (Zm ZaG Y) Y Y Y (Nat.le_of_ble_eq_true Y) (Zd Y) Y)<|Ra Y<|Za<|?_
      obtain rfl := rt h
      exact Zg (Zp Y (.two (.agg Y Y Y Y ZaG Y Y<|.cons (Dat.view<|.b Y)<|.cons (View.ownM Y Y D62) .nil)<|rb Y))
theorem ZhD {s : api_Series} {r : Int × Int} (h : Zbz s = some r) :
 CSpec Tryz.prog gl0 73 [.agg [.int .i64 s.Den, .sl 62 (List.map R62 s.Samples)]] (.tuple [.int .i64 r.1, .int .i64 r.2]) := by
 unfold Zbz at h
 replace h := ZS h
 refine So Tryz.func73 Y fun w0 A=>Tr<|Rq Y (ZD (cva<|ov Y) Y tZ_55 Y)<|Ra Y<|Ra Y<|Za<|Zj<|K1 1 Y<|Tr<|Rq Y (Zc (ov Y) Zn2)<|Rq Y (Zb (ov Y) tS3 Y)<|bE h fun y h_y h=>Rq Y (Zl (ZG h_y)<|.cons (ov Y) (.b Y)<|.cons (ov Y) (.b Y)<|.cons (ov Y) (.b Y) .nil)<|R1 Qa Y<|Za<|K2 1 9 Y<|If h Y (fun h=>?_) fun h=>?_
 ·
  refine K0<|Tr<|Ra Y<|Ra Y<|Za<|?_
  obtain rfl := rt h
  exact Zg (Zp Y (.two (rb Y)<|rb Y))
 ·
  refine Ze<|Zj<|K1 1 Y<|Tr<|Rq Y (Zc (ov Y) Zbb)<|Rq Y (Zb (ov Y) ZfN Y)<|Rl tZ_62 Zds Y<|R2 Qq Y<|Za<|K2 1 13 Y<|If h Y (fun h=>?_) fun h=>?_
  ·
   refine K0<|Tr<|Ra Y<|Ra Y<|Za<|?_
   obtain rfl := rt h
   exact Zg (Zp Y (.two (rb Y)<|rb Y))
  ·
   refine Ze<|J0 (fun j => (.inr j)) ⟨[], []⟩ h (fun h=>?_) fun h=>?_
   ·
    refine K1 1 Y<|Tr<|Rq Y (Zc (ov Y) Zbb)<|Rq Y (Zb (ov Y) ZfN Y)<|Rl tZ_62 Zds Y<|Rm Y<|Za<|Zf<|?_
    obtain ⟨r1, hl1, ho1⟩ := Qg h
    refine L1 (fun i=>⟨[(1, .rp [.int .i64 s.Den, .sl 62 (List.map R62 s.Samples)] 0), (15, .sl 62 (List.map R62 s.Samples)), (16, .int .i64 (s.Samples.length : Int)), (17, .int .i64 i)], []⟩) hl1 (ES []) fun n1 i h=>?_
    unfold JX at h
    refine Tr<|R2 ZA Y<|Za<|Zj<|If h Y (fun h=>?_) fun h=>?_
    ·
     refine Ze<|Zj<|Zf<|K4 1 15 16 17 Y<|Tr<|Rm Y<|bE h fun x h_x h=>Rq Y (Zx (ov Y) (ov Y) Zds h_x)<|Rq Y (Zi (ov Y) ZiP Y Y)<|Rx Y (Zr (row := [_, _, _]) 0 Y Zk6 Y tZ_62)<|Ra Y<|Rx Y (Zo (ov Y) (ov Y) (Zm ZiP Y) Y Y Y (Nat.le_of_ble_eq_true Y) (Zd Y) Y)<|Za<|Zf<|K6 1 4 5 15 16 17 Y<|Tr<|Rq Y (Zk (ov Y) Y Y Zic)<|Rq Y (Zn (ov Y) Y Y Y tS3 Y)<|bE h fun y2 h_y2 h=>Rq Y (Zl (ZG h_y2)<|.cons (ov Y) (.b Y)<|.cons (ov Y) (.b Y)<|.cons (ov Y) (.b Y) .nil)<|R1 Qa Y<|Rm Y<|Rq Y (.guarded ((!y2) == false) Y Y Y Y fun h => Zk (ov Y) Y Y Zf0)<|Rq Y (.guarded ((!y2) == false) Y Y Y Y fun h => Zn (ow Y h) Y Y Y tS3 Y)<|bE h fun y3 h_y3 h=>Rq Y (.guarded ((!y2) == false) Y Y Y Y fun h => Zl (ZG<|gdT h_y3 h)<|.cons (ow Y h) (.b Y)<|.cons (ov Y) (.b Y)<|.cons (ov Y) (.b Y) .nil)<|Rq Y (.guarded ((!y2) == false) Y Y Y Y fun h => Qa<|ow Y h)<|Rq Y (Qi (ov Y) fun hp=>ow Y<|gF hp)<|Rm Y<|Rq Y (.guarded (((!y2) || (!y3)) == false) Y Y Y Y fun h => Zk (ov Y) Y Y ZcY)<|Rq Y (.guarded (((!y2) || (!y3)) == false) Y Y Y Y fun h => Zn (ow Y h) Y Y Y tS3 Y)<|bE h fun y4 h_y4 h=>Rq Y (.guarded (((!y2) || (!y3)) == false) Y Y Y Y fun h => Zl (ZG<|gdT h_y4 h)<|.cons (ow Y h) (.b Y)<|.cons (ov Y) (.b Y)<|.cons (ov Y) (.b Y) .nil)<|Rq Y (.guarded (((!y2) || (!y3)) == false) Y Y Y Y fun h => Qa<|ow Y h)<|Rq Y (Qi (ov Y) fun hp=>ow Y<|gF hp)<|Ra Y<|Za<|K7 1 4 5 15 16 17 22 Y<|If h Y (fun h=>?_) fun h=>?_
     ·
      refine K1 4 Y<|Tr<|Rm Y<|Ra Y<|Ra Y<|Za<|?_
      replace h := lx h ▸ ho1
      obtain rfl := rt h
      exact Zg (Zp Y (.two (rb Y)<|rb Y))
     ·
      refine K6 1 4 5 15 16 17 Y<|Tr<|Rq Y (Zk (ov Y) Y Y Zf0)<|Rq Y (Zn (ov Y) Y Y Y tS3 Y)<|R2 Z4 Y<|Rm Y<|Rq Y (.guarded ((!decide (x.N = 0)) == true) Y Y Y Y fun h => Zk (ov Y) Y Y ZcY)<|Rq Y (.guarded ((!decide (x.N = 0)) == true) Y Y Y Y fun h => Zn (ow Y h) Y Y Y tS3 Y)<|Rq Y (.guarded ((!decide (x.N = 0)) == true) Y Y Y Y fun h => ZbO (ow Y h)<|ov Y)<|Rq Y (QC (ov Y) fun hp=>ow Y<|gT hp)<|Ra Y<|Za<|K7 1 4 5 15 16 17 40 Y<|If h Y (fun h=>?_) fun h=>?_
      ·
       refine K1 4 Y<|Tr<|Rm Y<|Ra Y<|Ra Y<|Za<|?_
       replace h := lx h ▸ ho1
       obtain rfl := rt h
       exact Zg (Zp Y (.two (rb Y)<|rb Y))
      ·
       refine K6 1 4 5 15 16 17 Y<|Td md0<|D1 0 Zh Y<|D2 1 Qq Y<|D1 2 Zh Y<|Dq 3 Y (.guarded ((decide (0 < i)) == true) Y Y Y Y fun h => Zk (ov Y) Y Y Zic)<|Dq 4 Y (.guarded ((decide (0 < i)) == true) Y Y Y Y fun h => Zn (ow Y h) Y Y Y tS3 Y)<|Dq 5 Y (.guarded ((decide (0 < i)) == true) Y Y Y Y fun h => Zc (ov Y) Zbb)<|Dq 6 Y (.guarded ((decide (0 < i)) == true) Y Y Y Y fun h => Zb (ow Y h) ZfN Y)<|Dq 7 Y (.guarded ((decide (0 < i)) == true) Y Y Y Y fun h => Zh<|ov Y)<|Dq 8 Y (.guarded ((decide (0 < i)) == true) Y Y Y Y fun h => ZfB (ow Y h) (ov Y) Y)<|bE h fun x2 h_x2 h=>Dq 9 Y (.guarded ((decide (0 < i)) == true) Y Y Y Y fun h => Zx (ow Y h) (ow Y h) Zds<|gdT h_x2 h)<|Dq 10 Y (.guarded ((decide (0 < i)) == true) Y Y Y Y fun h => Zc (ow Y h) Zic)<|Dq 11 Y (.guarded ((decide (0 < i)) == true) Y Y Y Y fun h => Zb (ow Y h) tS3 Y)<|Dq 12 Y (.guarded ((decide (0 < i)) == true) Y Y Y Y fun h => ZbO (ow Y h)<|ow Y h)<|Dq 13 Y (QC (ov Y) fun hp=>ow Y<|gT hp)<|D1 14 Zy Y<|Dd<|K6 1 4 15 16 17 50 Y<|If h Y (fun h=>?_) fun h=>?_
       ·
        refine K1 4 Y<|Tr<|Rm Y<|Ra Y<|Ra Y<|Za<|?_
        replace h := lx h ▸ ho1
        obtain rfl := rt h
        exact Zg (Zp Y (.two (rb Y)<|rb Y))
       ·
        exact Ze<|K4 1 15 16 17 Y<|Zs<|R2 ZT Y<|Rm Y<|Za<|⟨_, h, ES []⟩
    ·
     refine Zu<|?_
     replace h := lx h ▸ ho1
     exact ⟨(), h, ES []⟩
   ·
    replace h := elr h
    replace h := t0i h
    refine Tr<|Ra Y<|Ra Y<|Za<|?_
    obtain rfl := rt h
    exact Zg (Zp Y (.two (rb Y)<|rb Y))
theorem ZhE {s : api_Series} {r : Int} (h : ZbA s = some r) :
 CSpec Tryz.prog gl0 37 [.agg [.int .i64 s.Den, .sl 62 (List.map R62 s.Samples)]] (.int .i64 r) := by
 unfold ZbA at h
 replace h := ZS h
 refine So Tryz.func37 Y fun w0 A=>Tr<|Rq Y (ZD (cva<|ov Y) Y tZ_55 Y)<|Ra Y<|Za<|K1 1 Y<|Tr<|Rq Y (Zi (ov Y) ZaG Y Y)<|bE h fun y h_y h=>Rq Y (Zl (ZhD h_y)<|.cons (ov Y) (.aggB Y) .nil)<|Rm Y<|Rq Y (Zq (ov Y) Y)<|Rq Y (Zq (ov Y) Y)<|Ra Y<|Ra Y<|Za<|K1 4 Y<|Tr<|Rm Y<|Ra Y<|Za<|?_
 obtain rfl := rt h
 exact Zg (Zp Y (.one<|rb Y))
theorem Zf8 {xs r : List api_Sample} (h : Zl6 xs = some r) :
 GSpec Tryz.prog gl0 38 [.sl 62 (List.map R62 xs)] [] (.own 0 r.length) [some ⟨62, List.map R62 r⟩] := by
 have h2 : app [] xs = some r := h
 refine Zdx (by kernel_rfl) Tryz.func38 Y Y<|?_
 intro w0 A W φ0
 refine Tr<|Ra Y<|Za<|Zj<|Zj<|Zs<|Rm Y<|ZpU (ov Y) Zqm Y fun b hb=>?_
 refine Za<|Zod Y (fun hb2=>?_) fun hb2=>?_
 ·
  obtain rfl : xs = [] := by simpa using hb hb2
  obtain rfl : r = [] := by simpa [app] using h2.symm
  exact Tr<|Ra Y<|Za<|Zg<|ZlB [none] Y (.cons (.tmp Y) .nil) (.row 62 .nil) Y Y<|.row Y
 ·
  exact Ze<|Tr<|Rx Y (ZqE (r := 0) (xs := []) (f := R62) Y Zds .nil Y Y Y)<|Rm Y<|Rx Y (Zhb (ov Y) (Xe (ov Y) tZ_62) Zds Y Y (fun _=>Zd Y) Y h2)<|Ra Y<|Za<|Zg<|ZlB [some 0] Y (.cons (.tmp Y) .nil) (.cons Y (roM D62) .nil) Y Y<|.own _ Y
theorem Zcn {c_ : api_Calibration} {v : Int} {r : Int × Bool} (h : ZaJ c_ v = some r) :
 CSpec Tryz.prog gl0 39 [.agg [.int .i64 c_.Den, .sl 72 (List.map R72 c_.Lines), .int .i64 c_.Low, .int .i64 c_.High], .int .i64 v] (.tuple [.int .i64 r.1, .bool r.2]) := by
 unfold ZaJ at h
 replace h := ZS h
 refine So Tryz.func39 Y fun w0 A=>Tr<|Rq Y (ZD (cva<|ov Y) Y tZ_27 Y)<|Ra Y<|Ra Y<|Za<|J0 (fun j => (.inr j)) ⟨[], []⟩ h (fun h=>?_) fun h=>?_
 ·
  refine K2 1 2 Y<|Tr<|Rq Y (Zc (ov Y) ZbB)<|Rq Y (Zb (ov Y) ZgG Y)<|Rl tZ_72 Zej Y<|Rm Y<|Za<|Zf<|?_
  obtain ⟨r1, hl1, ho1⟩ := Qg h
  refine L1 (fun i=>⟨[(1, .int .i64 v), (2, .rp [.int .i64 c_.Den, .sl 72 (List.map R72 c_.Lines), .int .i64 c_.Low, .int .i64 c_.High] 0), (10, .sl 72 (List.map R72 c_.Lines)), (11, .int .i64 (c_.Lines.length : Int)), (12, .int .i64 i)], []⟩) hl1 (ES []) fun n1 i h=>?_
  unfold JP at h
  refine Tr<|R2 ZA Y<|Za<|Zj<|If h Y (fun h=>?_) fun h=>?_
  ·
   refine Ze<|Zj<|Zf<|K5 1 2 10 11 12 Y<|Tr<|bE h fun x h_x h=>Rq Y (Zx (ov Y) (ov Y) Zej h_x)<|Rq Y (Zi (ov Y) Ze2 Y Y)<|Rx Y (Zr (row := [_, _, _, _]) 0 Y ZmM Y tZ_72)<|Rx Y (Zo (ov Y) (ov Y) (Zm Ze2 Y) Y Y Y (Nat.le_of_ble_eq_true Y) (Zd Y) Y)<|Za<|K6 1 2 7 10 11 12 Y<|Tr<|Rm Y<|Rq Y (Zk (ov Y) Y Y Zdh)<|Rq Y (Zn (ov Y) Y Y Y tS3 Y)<|Rq Y (Zk (ov Y) Y Y Zde)<|Rq Y (Zn (ov Y) Y Y Y tS3 Y)<|bE h fun y h_y h=>Rq Y (Zl (ZG h_y)<|.cons (ov Y) (.b Y)<|.cons (ov Y) (.b Y)<|.cons (ov Y) (.b Y) .nil)<|Za<|K7 1 2 7 10 11 12 21 Y<|If h Y (fun h=>?_) fun h=>?_
   ·
    refine K6 1 2 7 10 11 12 Y<|Tr<|Rq Y (ZK (ov Y) Y Y Y Ze2 Y Y)<|Rm Y<|bE h fun y2 h_y2 h=>Rq Y (Zl (ZaF h_y2)<|.cons (ov Y) (.aggB Y)<|.cons (ov Y) (.b Y) .nil)<|Ra Y<|Za<|K6 1 2 8 10 11 12 Y<|Tr<|Rm Y<|Rq Y (Zc (ov Y) Zez)<|Rq Y (Zb (ov Y) tS3 Y)<|Rq Y (Zc (ov Y) ZeA)<|Rq Y (Zb (ov Y) tS3 Y)<|bE h fun y3 h_y3 h=>Rq Y (Zl (ZG h_y3)<|.cons (ov Y) (.b Y)<|.cons (ov Y) (.b Y)<|.cons (ov Y) (.b Y) .nil)<|Za<|K7 1 2 8 10 11 12 30 Y<|If h Y (fun h=>?_) fun h=>?_
    ·
     refine K1 8 Y<|Tr<|Rm Y<|Ra Y<|Ra Y<|Za<|?_
     replace h := lx h ▸ ho1
     obtain rfl := rt h
     exact Zg (Zp Y (.two (rb Y)<|rb Y))
    ·
     exact Ze<|K5 1 2 10 11 12 Y<|Zs<|R2 ZT Y<|Rm Y<|Za<|⟨_, h, ES []⟩
   ·
    exact Ze<|K5 1 2 10 11 12 Y<|Zs<|R2 ZT Y<|Rm Y<|Za<|⟨_, h, ES []⟩
  ·
   refine Zu<|?_
   replace h := lx h ▸ ho1
   exact ⟨(), h, ES []⟩
 ·
  replace h := elr h
  replace h := t0i h
  refine Tr<|Ra Y<|Ra Y<|Za<|?_
  obtain rfl := rt h
  exact Zg (Zp Y (.two (rb Y)<|rb Y))
theorem Zfj {s : api_Series} {c_ : api_Calibration} {r : api_Series × Int} (h : Jr s c_ = some r) :
 CSpec Tryz.prog gl0 14 [.agg [.int .i64 s.Den, .sl 62 (List.map R62 s.Samples)], .agg [.int .i64 c_.Den, .sl 72 (List.map R72 c_.Lines), .int .i64 c_.Low, .int .i64 c_.High]] (.tuple [.agg [.int .i64 r.1.Den, .sl 62 (List.map R62 r.1.Samples)], .int .i64 r.2]) := by
 unfold Jr at h
 replace h := ZS h
 refine So Tryz.func14 Y fun w0 A=>Tr<|Rq Y (ZD (cva<|ov Y) Y tZ_55 Y)<|Rq Y (ZD (cva<|ov Y) Y tZ_27 Y)<|Rx Y (Zr (row := [_, _]) 0 Y Zem Y tZ_55)<|Ra Y<|Za<|Zj<|K3 2 3 4 Y<|Tr<|Rq Y (Zi (ov Y) ZaG Y Y)<|bE h fun y h_y h=>Rq Y (Zl (ZhE h_y)<|.cons (ov Y) (.aggB Y) .nil)<|Ra Y<|Za<|K4 2 3 4 6 Y<|Tr<|Rm Y<|R2 Z4 Y<|Za<|K5 2 3 4 6 16 Y<|If h Y (fun h=>?_) fun h=>?_
 ·
  refine K2 4 6 Y<|Tr<|Rq Y (Qz (ys := [_, _]) ZfC Zfv Zem .nil Y)<|Rm Y<|Rx Y (Zo (ov Y) (ov Y) (Zm ZaG Y) Y Y Y (Nat.le_of_ble_eq_true Y) (Zd Y) Y)<|Ra Y<|Za<|?_
  obtain rfl := rt h
  exact Zg (Zp Y (.two (.agg Y Y Y Y ZaG Y Y<|.cons (Dat.view<|.b Y)<|.cons (View.nils 62) .nil)<|rb Y))
 ·
  refine Ze<|Zj<|K3 2 3 4 Y<|Tr<|Rq Y (Zi (ov Y) ZgH Y Y)<|bE h fun y2 h_y2 h=>Rq Y (Zl (XL h_y2)<|.cons (ov Y) (.aggB Y) .nil)<|Ra Y<|Za<|K4 2 3 4 7 Y<|Tr<|Rm Y<|R2 Z4 Y<|Za<|K5 2 3 4 7 22 Y<|If h Y (fun h=>?_) fun h=>?_
  ·
   refine K2 4 7 Y<|Tr<|Rq Y (Qz (ys := [_, _]) ZfC Zfv Zem .nil Y)<|Rm Y<|Rx Y (Zo (ov Y) (ov Y) (Zm ZaG Y) Y Y Y (Nat.le_of_ble_eq_true Y) (Zd Y) Y)<|Ra Y<|Za<|?_
   obtain rfl := rt h
   exact Zg (Zp Y (.two (.agg Y Y Y Y ZaG Y Y<|.cons (Dat.view<|.b Y)<|.cons (View.nils 62) .nil)<|rb Y))
  ·
   refine Ze<|Zj<|K3 2 3 4 Y<|Tr<|Rq Y (Zc (ov Y) Zn2)<|Rq Y (Zb (ov Y) tS3 Y)<|R2 Z4 Y<|Za<|K4 2 3 4 27 Y<|If h Y (fun h=>?_) fun h=>?_
   ·
    refine K1 4 Y<|Tr<|Rq Y (Qz (ys := [_, _]) ZfC Zfv Zem .nil Y)<|Rx Y (Zo (ov Y) (ov Y) (Zm ZaG Y) Y Y Y (Nat.le_of_ble_eq_true Y) (Zd Y) Y)<|Ra Y<|Za<|?_
    obtain rfl := rt h
    exact Zg (Zp Y (.two (.agg Y Y Y Y ZaG Y Y<|.cons (Dat.view<|.b Y)<|.cons (View.nils 62) .nil)<|rb Y))
   ·
    refine Ze<|K3 2 3 4 Y<|Td ⟨true, false, [], [29, 30, 31, 32], []⟩<|Zbc 0 _ Y (by kernel_rfl) Y Y (fun hp'=>Zc (ov Y) Zlg)<|Zbc 1 _ Y (by kernel_rfl) Y Y (fun hp'=>Zb (ov Y) tS3 Y)<|Zbc 2 _ Y (by kernel_rfl) Y Y (fun hp'=>Zc (ov Y) Zbb)<|Zbc 3 _ Y (by kernel_rfl) Y Y (fun hp'=>Zb (ov Y) ZfN Y)<|bE h fun y3 h_y3 h=>ZlV 4 6 Y Y (by kernel_rfl) Y Y Y Y (fun h=>by cases h) (fun _=>Ext.app) (fun h=>by cases h) (fun h=>by cases h) (ZcA [] (Zf8 h_y3) (.cons (ov Y) (.dat Y) .nil) .nil Y (.keep Y Y<|.lent 0 (.inr ⟨Nat.le_of_ble_eq_true Y, Y⟩) Y (roM D62) .nil) Y Y<|.own _<|.inr ⟨Nat.le_of_ble_eq_true Y, Y⟩) (Zr (row := [_, _]) 1 Y Zem Y tZ_55) ?_ ?_
    ·
     refine Zbc 5 _ Y (by kernel_rfl) Y Y (fun hp'=>Qz (ys := [_, _]) ZfC Zfv Zem (.cons (cvs (ov Y)<|Zt Y)<|.cons (cvs (ov Y)<|Zt Y) .nil) Y)<|ZlM 6 _ _ Y (by kernel_rfl) Y Y (fun _=>Ext.app) (fun h=>by cases h) (Zr (row := [_, _]) 2 Y Zem Y tZ_55)<|Do 7 Y (Zo (ov Y) (ov Y) (Zm ZaG Y) Y Y Y (Nat.le_of_ble_eq_true Y) (Zd Y) Y)<|Dd<|I1 (fun Samples=>⟨[(4, .ptr 0 1 0 0), (8, .ptr 1 1 0 0)], [some ⟨55, [[.int .i64 0, .nils]]⟩, some ⟨55, [[.int .i64 c_.Den, .own 2 Samples.length]]⟩, some ⟨62, List.map R62 Samples⟩]⟩) h (fun h=>?_) fun Samples h=>?_
     ·
      refine K3 3 4 8 Y<|Tr<|Rq Y (Zk (ov Y) Y Y Zbb)<|Rq Y (Zn (ov Y) Y Y Y ZfN Y)<|Rq Y (ZeR (ov Y) Y Y Zds)<|Rm Y<|Za<|Zf<|?_
      obtain ⟨r1, hl1, ho1⟩ := Qg h
      refine L2 (fun Samples2 i=>⟨[(3, .rp [.int .i64 c_.Den, .sl 72 (List.map R72 c_.Lines), .int .i64 c_.Low, .int .i64 c_.High] 0), (4, .ptr 0 1 0 0), (8, .ptr 1 1 0 0), (36, .own 2 Samples2.length), (37, .int .i64 (y3.length : Int)), (38, .int .i64 i)], [some ⟨55, [[.int .i64 0, .nils]]⟩, some ⟨55, [[.int .i64 c_.Den, .own 2 Samples2.length]]⟩, some ⟨62, List.map R62 Samples2⟩]⟩) hl1 (ES [some 0, some 2, some 1]) fun n1 Samples2 i h=>?_
      unfold Qt at h
      refine Tr<|R2 ZA Y<|Za<|Zj<|If h Y (fun h=>?_) fun h=>?_
      ·
       refine Ze<|Zj<|Zf<|K6 3 4 8 36 37 38 Y<|Tr<|Rm Y<|bE h fun x h_x h=>Rq Y (Zdq (ov Y) (ov Y) Zds Y Y h_x)<|Rq Y (Zkp (ov Y) Y Y h_x ZiP Y Y)<|Rx Y (Zr (row := [_, _, _]) 3 Y Zk6 Y tZ_62)<|Ra Y<|Rx Y (Zo (ov Y) (ov Y) (Zm ZiP Y) Y Y Y (Nat.le_of_ble_eq_true Y) (Zd Y) Y)<|Za<|Zj<|K8 3 4 8 9 10 36 37 38 Y<|Tr<|Rq Y (Zk (ov Y) Y Y ZcY)<|Rq Y (Zn (ov Y) Y Y Y tS3 Y)<|R2 ZA Y<|Za<|K9 3 4 8 9 10 36 37 38 45 Y<|If h Y (fun h=>?_) fun h=>?_
       ·
        exact Zu<|K6 3 4 8 36 37 38 Y<|Zs<|R2 ZT Y<|Rm Y<|Za<|⟨_, h, ES [some 0, some 1, some 2]⟩
       ·
        refine Ze<|K8 3 4 8 9 10 36 37 38 Y<|Tr<|Rq Y (Zi (ov Y) ZgH Y Y)<|Rq Y (Zk (ov Y) Y Y Zf0)<|Rq Y (Zn (ov Y) Y Y Y tS3 Y)<|bE h fun y4 h_y4 h=>Rq Y (Zl (Zcn h_y4)<|.cons (ov Y) (.aggB Y)<|.cons (ov Y) (.b Y) .nil)<|Rm Y<|Rq Y (Zq (ov Y) Y)<|Rq Y (Zq (ov Y) Y)<|Ra Y<|Ra Y<|Za<|I2 (fun Mark n=>⟨[(3, .rp [.int .i64 c_.Den, .sl 72 (List.map R72 c_.Lines), .int .i64 c_.Low, .int .i64 c_.High] 0), (4, .ptr 0 1 0 0), (8, .ptr 1 1 0 0), (9, .int .i64 i), (10, .ptr 3 1 0 0), (11, .int .i64 n), (36, .own 2 Samples2.length), (37, .int .i64 (y3.length : Int)), (38, .int .i64 i)], [some ⟨55, [[.int .i64 0, .nils]]⟩, some ⟨55, [[.int .i64 c_.Den, .own 2 Samples2.length]]⟩, some ⟨62, List.map R62 Samples2⟩, some ⟨62, [[.int .i64 x.At, .int .i64 x.N, .int .i64 Mark]]⟩]⟩) h (fun h=>?_) fun Mark n h=>?_
        ·
         refine K10 3 4 8 9 10 11 12 36 37 38 Y<|Tr<|Rm Y<|R1 Qa Y<|Za<|K10 3 4 8 9 10 11 36 37 38 54 Y<|If h Y (fun h=>?_) fun h=>?_
         ·
          exact K9 3 4 8 9 10 11 36 37 38 Y<|Zs<|Ra Y<|Rq Y (Zk (ov Y) Y Y ZcY)<|Rx Y (Zo (ov Y) (ov Y) (ZL tS3) Y Y Y (Nat.le_of_ble_eq_true Y) (Zd Y) Y)<|Za<|⟨_, h, ES [some 0, some 1, some 2, some 3]⟩
         ·
          exact Ze<|⟨_, h, ES [some 0, some 1, some 2, some 3]⟩
        ·
         exact Zs<|Rq Y (Zk (ov Y) Y Y Zbb)<|Rq Y (Zn (ov Y) Y Y Y ZfN Y)<|Rm Y<|Rq Y (Zk (ov Y) Y Y Zic)<|Rq Y (Zn (ov Y) Y Y Y tS3 Y)<|Rm Y<|Rq Y (Zk (ov Y) Y Y ZcY)<|Rq Y (Zn (ov Y) Y Y Y tS3 Y)<|Rq Y (Qz (ys := [_, _, _]) ZlJ Zmb Zk6 (.cons (cvs (ov Y)<|Zt Y)<|.cons (cvs (ov Y)<|Zt Y)<|.cons (cvs (ov Y)<|Zt Y) .nil) Y)<|bE h fun x2 h_x2 h=>Rq Y (Zdq (ov Y) (ov Y) Zds Y Y h_x2)<|Rx Y (Zen (u' := (api_Sample.mk x.At n Mark)) (ov Y) (ov Y) (Zm ZiP Y) Y Y h_x2 Y (Zd Y) Y)<|Za<|K6 3 4 8 36 37 38 Y<|Zs<|R2 ZT Y<|Rm Y<|Za<|⟨_, h, Ent.sel [some 0, some 1, some 2] (sd 3 Y Y<|sr 4 Y (.ptr _ _ _ Y)<|sr 8 Y (.ptr _ _ _ Y)<|sr 36 Y (ZpI (Eq.symm<|(List.length_set ..).trans Y) Y)<|sd 37 Y Y<|sd 38 Y Y sn) (.cons Y (ro1 (by exact tZ_55.symm)<|rld Y)<|.cons Y (ro1 (by exact tZ_55.symm)<|rlc (.dat Y)<|rlc (ZpI (Eq.symm<|(List.length_set ..).trans Y) Y) rln)<|.cons Y (roM D62) .nil) Y Y⟩
      ·
       refine Zu<|?_
       replace h := lx h ▸ ho1
       exact ⟨_, h, ES [some 0, some 1, some 2]⟩
     ·
      refine Tr<|Rq Y (ZK (ov Y) Y Y Y ZaG Y Y)<|Rx Y (Zo (ov Y) (ov Y) (Zm ZaG Y) Y Y Y (Nat.le_of_ble_eq_true Y) (Zd Y) Y)<|Ra Y<|Za<|?_
      obtain rfl := rt h
      exact Zg (Zp Y (.two (.agg Y Y Y Y ZaG Y Y<|.cons (Dat.view<|.b Y)<|.cons (View.ownM Y Y D62) .nil)<|rb Y))
    ·
     refine Do 4 Y (ZcA [] (Zf8 h_y3) (.cons (ov Y) (.dat Y) .nil) .nil Y (.keep Y Y<|.keep Y Y<|.lent 0 (.inr ⟨Nat.le_of_ble_eq_true Y, Y⟩) Y (roM D62) .nil) Y Y<|.own _<|.inr ⟨Nat.le_of_ble_eq_true Y, Y⟩)<|Dq 5 Y (Qz (ys := [_, _]) ZfC Zfv Zem (.cons (cvs (ov Y)<|Zt Y)<|.cons (cvs (ov Y)<|Zt Y) .nil) Y)<|Do 7 Y (Zo (ov Y) (ov Y) (Zm ZaG Y) Y Y Y (Nat.le_of_ble_eq_true Y) (Zd Y) Y)<|Dd<|I1 (fun Samples=>⟨[(4, .ptr 0 1 0 0), (8, .ptr 1 1 0 0)], [some ⟨55, [[.int .i64 0, .nils]]⟩, some ⟨55, [[.int .i64 c_.Den, .own 2 Samples.length]]⟩, some ⟨62, List.map R62 Samples⟩]⟩) h (fun h=>?_) fun Samples h=>?_
     ·
      refine K3 3 4 8 Y<|Tr<|Rq Y (Zk (ov Y) Y Y Zbb)<|Rq Y (Zn (ov Y) Y Y Y ZfN Y)<|Rq Y (ZeR (ov Y) Y Y Zds)<|Rm Y<|Za<|Zf<|?_
      obtain ⟨r1, hl1, ho1⟩ := Qg h
      refine L2 (fun Samples2 i=>⟨[(3, .rp [.int .i64 c_.Den, .sl 72 (List.map R72 c_.Lines), .int .i64 c_.Low, .int .i64 c_.High] 0), (4, .ptr 0 1 0 0), (8, .ptr 1 1 0 0), (36, .own 2 Samples2.length), (37, .int .i64 (y3.length : Int)), (38, .int .i64 i)], [some ⟨55, [[.int .i64 0, .nils]]⟩, some ⟨55, [[.int .i64 c_.Den, .own 2 Samples2.length]]⟩, some ⟨62, List.map R62 Samples2⟩]⟩) hl1 (ES [some 0, some 1, some 2]) fun n1 Samples2 i h=>?_
      unfold Qt at h
      refine Tr<|R2 ZA Y<|Za<|Zj<|If h Y (fun h=>?_) fun h=>?_
      ·
       refine Ze<|Zj<|Zf<|K6 3 4 8 36 37 38 Y<|Tr<|Rm Y<|bE h fun x h_x h=>Rq Y (Zdq (ov Y) (ov Y) Zds Y Y h_x)<|Rq Y (Zkp (ov Y) Y Y h_x ZiP Y Y)<|Rx Y (Zr (row := [_, _, _]) 3 Y Zk6 Y tZ_62)<|Ra Y<|Rx Y (Zo (ov Y) (ov Y) (Zm ZiP Y) Y Y Y (Nat.le_of_ble_eq_true Y) (Zd Y) Y)<|Za<|Zj<|K8 3 4 8 9 10 36 37 38 Y<|Tr<|Rq Y (Zk (ov Y) Y Y ZcY)<|Rq Y (Zn (ov Y) Y Y Y tS3 Y)<|R2 ZA Y<|Za<|K9 3 4 8 9 10 36 37 38 45 Y<|If h Y (fun h=>?_) fun h=>?_
       ·
        exact Zu<|K6 3 4 8 36 37 38 Y<|Zs<|R2 ZT Y<|Rm Y<|Za<|⟨_, h, ES [some 0, some 1, some 2]⟩
       ·
        refine Ze<|K8 3 4 8 9 10 36 37 38 Y<|Tr<|Rq Y (Zi (ov Y) ZgH Y Y)<|Rq Y (Zk (ov Y) Y Y Zf0)<|Rq Y (Zn (ov Y) Y Y Y tS3 Y)<|bE h fun y4 h_y4 h=>Rq Y (Zl (Zcn h_y4)<|.cons (ov Y) (.aggB Y)<|.cons (ov Y) (.b Y) .nil)<|Rm Y<|Rq Y (Zq (ov Y) Y)<|Rq Y (Zq (ov Y) Y)<|Ra Y<|Ra Y<|Za<|I2 (fun Mark n=>⟨[(3, .rp [.int .i64 c_.Den, .sl 72 (List.map R72 c_.Lines), .int .i64 c_.Low, .int .i64 c_.High] 0), (4, .ptr 0 1 0 0), (8, .ptr 1 1 0 0), (9, .int .i64 i), (10, .ptr 3 1 0 0), (11, .int .i64 n), (36, .own 2 Samples2.length), (37, .int .i64 (y3.length : Int)), (38, .int .i64 i)], [some ⟨55, [[.int .i64 0, .nils]]⟩, some ⟨55, [[.int .i64 c_.Den, .own 2 Samples2.length]]⟩, some ⟨62, List.map R62 Samples2⟩, some ⟨62, [[.int .i64 x.At, .int .i64 x.N, .int .i64 Mark]]⟩]⟩) h (fun h=>?_) fun Mark n h=>?_
        ·
         refine K10 3 4 8 9 10 11 12 36 37 38 Y<|Tr<|Rm Y<|R1 Qa Y<|Za<|K10 3 4 8 9 10 11 36 37 38 54 Y<|If h Y (fun h=>?_) fun h=>?_
         ·
          exact K9 3 4 8 9 10 11 36 37 38 Y<|Zs<|Ra Y<|Rq Y (Zk (ov Y) Y Y ZcY)<|Rx Y (Zo (ov Y) (ov Y) (ZL tS3) Y Y Y (Nat.le_of_ble_eq_true Y) (Zd Y) Y)<|Za<|⟨_, h, ES [some 0, some 1, some 2, some 3]⟩
         ·
          exact Ze<|⟨_, h, ES [some 0, some 1, some 2, some 3]⟩
        ·
         exact Zs<|Rq Y (Zk (ov Y) Y Y Zbb)<|Rq Y (Zn (ov Y) Y Y Y ZfN Y)<|Rm Y<|Rq Y (Zk (ov Y) Y Y Zic)<|Rq Y (Zn (ov Y) Y Y Y tS3 Y)<|Rm Y<|Rq Y (Zk (ov Y) Y Y ZcY)<|Rq Y (Zn (ov Y) Y Y Y tS3 Y)<|Rq Y (Qz (ys := [_, _, _]) ZlJ Zmb Zk6 (.cons (cvs (ov Y)<|Zt Y)<|.cons (cvs (ov Y)<|Zt Y)<|.cons (cvs (ov Y)<|Zt Y) .nil) Y)<|bE h fun x2 h_x2 h=>Rq Y (Zdq (ov Y) (ov Y) Zds Y Y h_x2)<|Rx Y (Zen (u' := (api_Sample.mk x.At n Mark)) (ov Y) (ov Y) (Zm ZiP Y) Y Y h_x2 Y (Zd Y) Y)<|Za<|K6 3 4 8 36 37 38 Y<|Zs<|R2 ZT Y<|Rm Y<|Za<|⟨_, h, Ent.sel [some 0, some 1, some 2] (sd 3 Y Y<|sr 4 Y (.ptr _ _ _ Y)<|sr 8 Y (.ptr _ _ _ Y)<|sr 36 Y (ZpI (Eq.symm<|(List.length_set ..).trans Y) Y)<|sd 37 Y Y<|sd 38 Y Y sn) (.cons Y (ro1 (by exact tZ_55.symm)<|rld Y)<|.cons Y (ro1 (by exact tZ_55.symm)<|rlc (.dat Y)<|rlc (ZpI (Eq.symm<|(List.length_set ..).trans Y) Y) rln)<|.cons Y (roM D62) .nil) Y Y⟩
      ·
       refine Zu<|?_
       replace h := lx h ▸ ho1
       exact ⟨_, h, ES [some 0, some 1, some 2]⟩
     ·
      refine Tr<|Rq Y (ZK (ov Y) Y Y Y ZaG Y Y)<|Rx Y (Zo (ov Y) (ov Y) (Zm ZaG Y) Y Y Y (Nat.le_of_ble_eq_true Y) (Zd Y) Y)<|Ra Y<|Za<|?_
      obtain rfl := rt h
      exact Zg (Zp Y (.two (.agg Y Y Y Y ZaG Y Y<|.cons (Dat.view<|.b Y)<|.cons (View.ownM Y Y D62) .nil)<|rb Y))
theorem Zck {c_ : api_Calibration} {v : Int} {r : Int × Bool × Int} (h : JJ c_ v = some r) :
 CSpec Tryz.prog gl0 15 [.agg [.int .i64 c_.Den, .sl 72 (List.map R72 c_.Lines), .int .i64 c_.Low, .int .i64 c_.High], .int .i64 v] (.tuple [.int .i64 r.1, .bool r.2.1, .int .i64 r.2.2]) := by
 unfold JJ at h
 replace h := ZS h
 refine So Tryz.func15 Y fun w0 A=>Tr<|Rq Y (ZD (cva<|ov Y) Y tZ_27 Y)<|Ra Y<|Ra Y<|Ra Y<|Za<|Zj<|K2 1 2 Y<|Tr<|Rq Y (Zi (ov Y) ZgH Y Y)<|bE h fun y h_y h=>Rq Y (Zl (XL h_y)<|.cons (ov Y) (.aggB Y) .nil)<|Ra Y<|Za<|K3 1 2 7 Y<|Tr<|Rm Y<|R2 Z4 Y<|Za<|K4 1 2 7 13 Y<|If h Y (fun h=>?_) fun h=>?_
 ·
  refine K1 7 Y<|Tr<|Rm Y<|Ra Y<|Ra Y<|Ra Y<|Za<|?_
  obtain rfl := rt h
  exact Zg (Zp Y (.three (rb Y) (rb Y)<|rb Y))
 ·
  refine Ze<|K2 1 2 Y<|Tr<|Rq Y (Zi (ov Y) ZgH Y Y)<|Rm Y<|bE h fun y2 h_y2 h=>Rq Y (Zl (Zcn h_y2)<|.cons (ov Y) (.aggB Y)<|.cons (ov Y) (.b Y) .nil)<|Rm Y<|Rq Y (Zq (ov Y) Y)<|Rq Y (Zq (ov Y) Y)<|Ra Y<|Ra Y<|Za<|K2 8 9 Y<|Tr<|Rm Y<|Rm Y<|Ra Y<|Ra Y<|Ra Y<|Za<|?_
  obtain rfl := rt h
  exact Zg (Zp Y (.three (rb Y) (rb Y)<|rb Y))
theorem ZbQ {m : api_Map} {name : Str} {c_ : api_Calibration} {first : Int} {given : List Int} {without : List Int} {r : Bool} (h : QA m name c_ first given without = some r) :
 CSpec Tryz.prog gl0 3 [.agg [.int .i64 m.Version, .sl 41 (List.map R41 m.Params)], .str name, .agg [.int .i64 c_.Den, .sl 72 (List.map R72 c_.Lines), .int .i64 c_.Low, .int .i64 c_.High], .int .i64 first, .sl 3 (List.map R3 given), .sl 3 (List.map R3 without)] (.bool r) := by
 unfold QA at h
 replace h := ZS h
 refine So Tryz.func3 Y fun w0 A=>Tr<|Rq Y (ZD (cva<|ov Y) Y tZ_24 Y)<|Rq Y (ZD (cva<|ov Y) Y tZ_27 Y)<|Ra Y<|Za<|Zj<|K6 1 3 4 5 6 8 Y<|Tr<|bE h fun y h_y h=>Rq Y (Zl (ZjU h_y) .nil)<|R1 Qa Y<|Za<|K7 1 3 4 5 6 8 48 Y<|If h Y (fun h=>?_) fun h=>?_
 ·
  refine K0<|Tr<|Ra Y<|Za<|?_
  obtain rfl := rt h
  exact Zg (Zp Y (.one<|rb Y))
 ·
  refine Ze<|K6 1 3 4 5 6 8 Y<|Tr<|Rq Y (Zi (ov Y) Zfk Y Y)<|bE h fun y2 h_y2 h=>Rq Y (Zl (Zeb h_y2)<|.cons (ov Y) (.aggB Y) .nil)<|Rm Y<|Rq Y (Zq (ov Y) Y)<|Rq Y (Zq (ov Y) Y)<|Ra Y<|Ra Y<|Za<|K8 1 3 4 5 6 8 13 14 Y<|Tr<|Rq Y (Zi (ov Y) Zfk Y Y)<|Rm Y<|bE h fun y3 h_y3 h=>Rq Y (Zl (ZiT h_y3)<|.cons (ov Y) (.aggB Y)<|.cons (ov Y) (.b Y) .nil)<|Ra Y<|Za<|Zj<|K9 1 3 4 5 6 8 13 14 15 Y<|Tr<|Rm Y<|R2 Z4 Y<|Rm Y<|Rq Y (.guarded ((!decide (y2.2 = 0)) == false) Y Y Y Y fun h => Zh<|ov Y)<|Rq Y (.guarded ((!decide (y2.2 = 0)) == false) Y Y Y Y fun h => ZA (ow Y h)<|ov Y)<|Rq Y (Qi (ov Y) fun hp=>ow Y<|gF hp)<|Rm Y<|Rq Y (.guarded (((!decide (y2.2 = 0)) || (decide (y3 < 0))) == false) Y Y Y Y fun h => Zh<|ov Y)<|Rq Y (.guarded (((!decide (y2.2 = 0)) || (decide (y3 < 0))) == false) Y Y Y Y fun h => ZeE (Xe (ow Y h) tZ_44) Za7<|ZbE _ _)<|Rq Y (.guarded (((!decide (y2.2 = 0)) || (decide (y3 < 0))) == false) Y Y Y Y fun h => Qq (ow Y h)<|ov Y)<|Rq Y (Qi (ov Y) fun hp=>ow Y<|gF hp)<|Rm Y<|Rq Y (.guarded ((((!decide (y2.2 = 0)) || (decide (y3 < 0))) || (decide (400 < (y2.1.length : Int)))) == false) Y Y Y Y fun h => Zh<|ov Y)<|Rq Y (.guarded ((((!decide (y2.2 = 0)) || (decide (y3 < 0))) || (decide (400 < (y2.1.length : Int)))) == false) Y Y Y Y fun h => ZA (ow Y h)<|ov Y)<|Rq Y (Qi (ov Y) fun hp=>ow Y<|gF hp)<|Rm Y<|Rq Y (.guarded (((((!decide (y2.2 = 0)) || (decide (y3 < 0))) || (decide (400 < (y2.1.length : Int)))) || (decide (first < 0))) == false) Y Y Y Y fun h => Zh<|ov Y)<|Rq Y (.guarded (((((!decide (y2.2 = 0)) || (decide (y3 < 0))) || (decide (400 < (y2.1.length : Int)))) || (decide (first < 0))) == false) Y Y Y Y fun h => Qq (ow Y h)<|ov Y)<|Rq Y (Qi (ov Y) fun hp=>ow Y<|gF hp)<|Rm Y<|Rq Y (.guarded ((((((!decide (y2.2 = 0)) || (decide (y3 < 0))) || (decide (400 < (y2.1.length : Int)))) || (decide (first < 0))) || (decide (4194288 < first))) == false) Y Y Y Y fun h => Zh<|ov Y)<|bE h fun q h_q h=>Rq Y (.guarded ((((((!decide (y2.2 = 0)) || (decide (y3 < 0))) || (decide (400 < (y2.1.length : Int)))) || (decide (first < 0))) || (decide (4194288 < first))) == false) Y Y Y Y fun h => ZcH (ow Y h) (ov Y)<|gdT h_q h)<|Rq Y (.guarded ((((((!decide (y2.2 = 0)) || (decide (y3 < 0))) || (decide (400 < (y2.1.length : Int)))) || (decide (first < 0))) || (decide (4194288 < first))) == false) Y Y Y Y fun h => Z4 (ow Y h)<|ov Y)<|Rq Y (Qi (ov Y) fun hp=>ow Y<|gF hp)<|Rm Y<|Rq Y (.guarded (((((((!decide (y2.2 = 0)) || (decide (y3 < 0))) || (decide (400 < (y2.1.length : Int)))) || (decide (first < 0))) || (decide (4194288 < first))) || (!decide (q = 0))) == false) Y Y Y Y fun h => Zi (ov Y) ZgH Y Y)<|bE h fun y4 h_y4 h=>Rq Y (.guarded (((((((!decide (y2.2 = 0)) || (decide (y3 < 0))) || (decide (400 < (y2.1.length : Int)))) || (decide (first < 0))) || (decide (4194288 < first))) || (!decide (q = 0))) == false) Y Y Y Y fun h => Zl (Zdf<|gdT h_y4 h)<|.cons (ow Y h) (.aggB Y) .nil)<|Rq Y (.guarded (((((((!decide (y2.2 = 0)) || (decide (y3 < 0))) || (decide (400 < (y2.1.length : Int)))) || (decide (first < 0))) || (decide (4194288 < first))) || (!decide (q = 0))) == false) Y Y Y Y fun h => Z4 (ow Y h)<|ov Y)<|Rq Y (Qi (ov Y) fun hp=>ow Y<|gF hp)<|Za<|K9 1 3 4 5 6 8 13 15 85 Y<|If h Y (fun h=>?_) fun h=>?_
  ·
   refine K0<|Tr<|Ra Y<|Za<|?_
   obtain rfl := rt h
   exact Zg (Zp Y (.one<|rb Y))
  ·
   refine Ze<|Zj<|K8 1 3 4 5 6 8 13 15 Y<|Tr<|Rq Y (Zi (ov Y) Zfk Y Y)<|bE h fun y5 h_y5 h=>Rq Y (Zl (ZiX h_y5)<|.cons (ov Y) (.aggB Y) .nil)<|Rm Y<|Rq Y (Zq (ov Y) Y)<|Rq Y (Zq (ov Y) Y)<|Ra Y<|Ra Y<|Za<|K10 1 3 4 5 6 8 13 15 16 17 Y<|Tr<|Rm Y<|R2 Z4 Y<|Rm Y<|Rq Y (.guarded ((!decide (y5.2 = 0)) == false) Y Y Y Y fun h => Zh<|ov Y)<|Rq Y (.guarded ((!decide (y5.2 = 0)) == false) Y Y Y Y fun h => ZeE (Xe (ow Y h) tZ_44) Za7<|ZbE _ _)<|Rq Y (.guarded ((!decide (y5.2 = 0)) == false) Y Y Y Y fun h => Zh<|ov Y)<|Rq Y (.guarded ((!decide (y5.2 = 0)) == false) Y Y Y Y fun h => ZeE (Xe (ow Y h) tZ_44) Za7<|ZbE _ _)<|Rq Y (.guarded ((!decide (y5.2 = 0)) == false) Y Y Y Y fun h => Z4 (ow Y h)<|ow Y h)<|Rq Y (Qi (ov Y) fun hp=>ow Y<|gF hp)<|Za<|K9 1 3 4 5 6 8 13 15 99 Y<|If h Y (fun h=>?_) fun h=>?_
   ·
    refine K0<|Tr<|Ra Y<|Za<|?_
    obtain rfl := rt h
    exact Zg (Zp Y (.one<|rb Y))
   ·
    refine Ze<|K8 1 3 4 5 6 8 13 15 Y<|Tr<|Rq Y (Zc (ov Y) Jp)<|Rq Y (Zb (ov Y) ZdK Y)<|Rm Y<|bE h fun x h_x h=>Rq Y (Zx (ov Y) (ov Y) ZaT h_x)<|Rq Y (Zi (ov Y) QW Y Y)<|bE h fun y6 h_y6 h=>Rq Y (Zl (Zd9 h_y6)<|.cons (ov Y) (.aggB Y) .nil)<|Rm Y<|Rq Y (Zq (ov Y) Y)<|Rq Y (Zq (ov Y) Y)<|Rq Y (Zq (ov Y) Y)<|Ra Y<|Ra Y<|Ra Y<|Za<|Zj<|K11 1 3 4 5 6 8 13 14 15 18 19 Y<|Tr<|Rm Y<|R2 Z4 Y<|Za<|K11 1 3 4 5 6 8 13 15 18 19 111 Y<|If h Y (fun h=>?_) fun h=>?_
    ·
     refine K0<|Tr<|Ra Y<|Za<|?_
     obtain rfl := rt h
     exact Zg (Zp Y (.one<|rb Y))
    ·
     refine Ze<|K10 1 3 4 5 6 8 13 15 18 19 Y<|Tr<|Ra Y<|Ra Y<|Za<|J2 (fun j => (.inr j)) (fun values want=>⟨[(1, .str name), (3, .int .i64 first), (4, .sl 3 (List.map R3 given)), (5, .sl 3 (List.map R3 without)), (6, .rp [.int .i64 m.Version, .sl 41 (List.map R41 m.Params)] 0), (8, .rp [.int .i64 c_.Den, .sl 72 (List.map R72 c_.Lines), .int .i64 c_.Low, .int .i64 c_.High] 0), (18, .int .i64 y6.1), (19, .int .i64 y6.2.1), (20, .own 0 values.length), (21, .own 1 want.length)], [some ⟨3, List.map R3 values⟩, some ⟨3, List.map R3 want⟩]⟩) h (fun h=>?_) fun values want h=>?_
     ·
      refine Tr<|Ra Y<|Za<|Zf<|?_
      obtain ⟨r1, hl1, ho1⟩ := Qg h
      refine L3 (fun values2 want2 i=>⟨[(1, .str name), (3, .int .i64 first), (4, .sl 3 (List.map R3 given)), (5, .sl 3 (List.map R3 without)), (6, .rp [.int .i64 m.Version, .sl 41 (List.map R41 m.Params)] 0), (8, .rp [.int .i64 c_.Den, .sl 72 (List.map R72 c_.Lines), .int .i64 c_.Low, .int .i64 c_.High] 0), (13, .sl 44 (List.map R44 y2.1)), (15, .int .i64 y3), (18, .int .i64 y6.1), (19, .int .i64 y6.2.1), (20, .own 0 values2.length), (21, .own 1 want2.length), (22, .int .i64 i)], [some ⟨3, List.map R3 values2⟩, some ⟨3, List.map R3 want2⟩]⟩) hl1 (ES [none, none]) fun n1 values2 want2 i h=>?_
      unfold ZJ at h
      refine Zj<|Tr<|Rm Y<|Rm Y<|Rl tZ_44 Za7 Y<|R2 ZA Y<|Za<|Qf (kc 1 Y<|kc 3 Y<|kc 4 Y<|kc 5 Y<|kc 6 Y<|kc 8 Y<|kc 13 Y<|kc 15 Y<|kc 18 Y<|kc 19 Y<|kc 20 Y<|kc 21 Y<|kc 22 Y<|kc 115 Y kn) Y<|If h Y (fun h=>?_) fun h=>?_
      ·
       refine Ze<|Zj<|Zf<|Qf (kc 1 Y<|kc 3 Y<|kc 4 Y<|kc 5 Y<|kc 6 Y<|kc 8 Y<|kc 13 Y<|kc 15 Y<|kc 18 Y<|kc 19 Y<|kc 20 Y<|kc 21 Y<|kc 22 Y kn) Y<|Tr<|Ra Y<|Za<|J2 (fun j => (.inr j)) (fun want3 v=>⟨[(1, .str name), (3, .int .i64 first), (4, .sl 3 (List.map R3 given)), (5, .sl 3 (List.map R3 without)), (6, .rp [.int .i64 m.Version, .sl 41 (List.map R41 m.Params)] 0), (8, .rp [.int .i64 c_.Den, .sl 72 (List.map R72 c_.Lines), .int .i64 c_.Low, .int .i64 c_.High] 0), (13, .sl 44 (List.map R44 y2.1)), (15, .int .i64 y3), (18, .int .i64 y6.1), (19, .int .i64 y6.2.1), (20, .own 0 values2.length), (21, .own 1 want3.length), (22, .int .i64 i), (23, .int .i64 v)], [some ⟨3, List.map R3 values2⟩, some ⟨3, List.map R3 want3⟩]⟩) h (fun h=>?_) fun want3 v h=>?_
       ·
        refine Tr<|Rm Y<|Rm Y<|bE h fun x2 h_x2 h=>Rq Y (Zx (ov Y) (ov Y) Za7 h_x2)<|Rq Y (Zc (ov Y) Zjy)<|Rq Y (Zb (ov Y) tS3 Y)<|Rm Y<|R2 Qb Y<|Za<|Qf (kc 1 Y<|kc 3 Y<|kc 4 Y<|kc 5 Y<|kc 6 Y<|kc 8 Y<|kc 13 Y<|kc 15 Y<|kc 18 Y<|kc 19 Y<|kc 20 Y<|kc 21 Y<|kc 22 Y<|kc 23 Y<|kc 124 Y kn) Y<|If h Y (fun h=>?_) fun h=>?_
        ·
         refine Zj<|Qf (kc 1 Y<|kc 3 Y<|kc 4 Y<|kc 5 Y<|kc 6 Y<|kc 8 Y<|kc 13 Y<|kc 15 Y<|kc 18 Y<|kc 19 Y<|kc 20 Y<|kc 21 Y<|kc 22 Y kn) Y<|Tr<|Rm Y<|Rq Y (ZeR (ov Y) Y Y XX)<|Rm Y<|Rl tZ_3 XX Y<|R2 ZaX Y<|Za<|Qf (kc 1 Y<|kc 3 Y<|kc 4 Y<|kc 5 Y<|kc 6 Y<|kc 8 Y<|kc 13 Y<|kc 15 Y<|kc 18 Y<|kc 19 Y<|kc 20 Y<|kc 21 Y<|kc 22 Y<|kc 129 Y kn) Y<|If h Y (fun h=>?_) fun h=>?_
         ·
          refine K0<|Tr<|Ra Y<|Za<|?_
          replace h := lx h ▸ ho1
          obtain rfl := rt h
          exact Zg (Zp Y (.one<|rb Y))
         ·
          refine Ze<|Qf (kc 1 Y<|kc 3 Y<|kc 4 Y<|kc 5 Y<|kc 6 Y<|kc 8 Y<|kc 13 Y<|kc 15 Y<|kc 18 Y<|kc 19 Y<|kc 20 Y<|kc 21 Y<|kc 22 Y kn) Y<|Tr<|Rm Y<|Rm Y<|Rq Y (ZeR (ov Y) Y Y XX)<|bE h fun x3 h_x3 h=>Rq Y (Zx (ov Y) (ov Y) XX h_x3)<|Rq Y (Zb (ov Y) tS3 Y)<|Ra Y<|Za<|Qf (kc 1 Y<|kc 3 Y<|kc 4 Y<|kc 5 Y<|kc 6 Y<|kc 8 Y<|kc 13 Y<|kc 15 Y<|kc 18 Y<|kc 19 Y<|kc 20 Y<|kc 21 Y<|kc 22 Y<|kc 24 Y kn) Y<|Tr<|Rq Y (Zi (ov Y) ZgH Y Y)<|Rm Y<|bE h fun y7 h_y7 h=>Rq Y (Zl (Zc5 h_y7)<|.cons (ov Y) (.aggB Y)<|.cons (ov Y) (.b Y) .nil)<|Rm Y<|Rq Y (Zq (ov Y) Y)<|Rq Y (Zq (ov Y) Y)<|Ra Y<|Ra Y<|Za<|Zj<|Qf (kc 1 Y<|kc 3 Y<|kc 4 Y<|kc 5 Y<|kc 6 Y<|kc 8 Y<|kc 13 Y<|kc 15 Y<|kc 18 Y<|kc 19 Y<|kc 20 Y<|kc 21 Y<|kc 22 Y<|kc 25 Y<|kc 26 Y kn) Y<|Tr<|Rm Y<|R2 Z4 Y<|Za<|Qf (kc 1 Y<|kc 3 Y<|kc 4 Y<|kc 5 Y<|kc 6 Y<|kc 8 Y<|kc 13 Y<|kc 15 Y<|kc 18 Y<|kc 19 Y<|kc 20 Y<|kc 21 Y<|kc 22 Y<|kc 25 Y<|kc 142 Y kn) Y<|If h Y (fun h=>?_) fun h=>?_
          ·
           refine K0<|Tr<|Ra Y<|Za<|?_
           replace h := lx h ▸ ho1
           obtain rfl := rt h
           exact Zg (Zp Y (.one<|rb Y))
          ·
           exact Ze<|Qf (kc 1 Y<|kc 3 Y<|kc 4 Y<|kc 5 Y<|kc 6 Y<|kc 8 Y<|kc 13 Y<|kc 15 Y<|kc 18 Y<|kc 19 Y<|kc 20 Y<|kc 21 Y<|kc 22 Y<|kc 25 Y kn) Y<|Tr<|Rm Y<|Rm Y<|Rq Y (Zgh (ov Y) (ov Y) Y)<|Rm Y<|Rq Y (Zkm (ov Y) (ov Y) Y)<|Ra Y<|Za<|Qf (kc 1 Y<|kc 3 Y<|kc 4 Y<|kc 5 Y<|kc 6 Y<|kc 8 Y<|kc 13 Y<|kc 15 Y<|kc 18 Y<|kc 19 Y<|kc 20 Y<|kc 21 Y<|kc 22 Y<|kc 23 Y kn) Y<|Zs<|Rm Y<|Rm Y<|R_q (.sl 3<|List.map R3 ([(min (max y7.1 y6.1) y6.2.1)] : List Int)) Y (Zc2 XX (.cons (cvs (ov Y)<|Zt Y) Y (.cons (.b Y) .nil) .nil) Y Y)<|bE h fun l h_l h=>Rx Y (XH (ov Y) (Xe (ov Y) tZ_3) XX Y Y Y (fun _=>Zd Y) Y h_l)<|Ra Y<|Za<|⟨_, h, ES [some 0, some 1]⟩
        ·
         refine Qf (kc 1 Y<|kc 3 Y<|kc 4 Y<|kc 5 Y<|kc 6 Y<|kc 8 Y<|kc 13 Y<|kc 15 Y<|kc 18 Y<|kc 19 Y<|kc 20 Y<|kc 21 Y<|kc 22 Y<|kc 23 Y kn) Y<|Td md0<|Dq 0 Y (Zc (ov Y) Jp)<|Dq 1 Y (Zb (ov Y) ZdK Y)<|D1 2 Zh Y<|D1 3 Zh Y<|bE h fun x4 h_x4 h=>Dq 4 Y (Zx (ov Y) (ov Y) Za7 h_x4)<|Dq 5 Y (Zc (ov Y) Zjy)<|Dq 6 Y (Zb (ov Y) tS3 Y)<|bE h fun x5 h_x5 h=>Dq 7 Y (Zx (ov Y) (ov Y) ZaT h_x5)<|Dq 8 Y (Zi (ov Y) QW Y Y)<|bE h fun y8 h_y8 h=>Dq 9 Y (Zl (Zd9 h_y8)<|.cons (ov Y) (.aggB Y) .nil)<|D1 10 Zh Y<|Dq 11 Y (Zq (ov Y) Y)<|Dq 12 Y (Zq (ov Y) Y)<|Dq 13 Y (Zq (ov Y) Y)<|D1 14 Zy Y<|D1 15 Zy Y<|D1 16 Zy Y<|Dd<|Qf (kc 1 Y<|kc 3 Y<|kc 4 Y<|kc 5 Y<|kc 6 Y<|kc 8 Y<|kc 13 Y<|kc 15 Y<|kc 18 Y<|kc 19 Y<|kc 20 Y<|kc 21 Y<|kc 22 Y<|kc 23 Y<|kc 27 Y<|kc 29 Y kn) Y<|Tr<|Rm Y<|R2 Qb Y<|Za<|Qf (kc 1 Y<|kc 3 Y<|kc 4 Y<|kc 5 Y<|kc 6 Y<|kc 8 Y<|kc 13 Y<|kc 15 Y<|kc 18 Y<|kc 19 Y<|kc 20 Y<|kc 21 Y<|kc 22 Y<|kc 23 Y<|kc 27 Y<|kc 167 Y kn) Y<|If h Y (fun h=>?_) fun h=>?_
         ·
          exact Qf (kc 1 Y<|kc 3 Y<|kc 4 Y<|kc 5 Y<|kc 6 Y<|kc 8 Y<|kc 13 Y<|kc 15 Y<|kc 18 Y<|kc 19 Y<|kc 20 Y<|kc 21 Y<|kc 22 Y<|kc 23 Y<|kc 27 Y kn) Y<|Zs<|Rm Y<|Ra Y<|Za<|⟨_, h, ES [some 0, some 1]⟩
         ·
          exact Ze<|⟨_, h, ES [some 0, some 1]⟩
       ·
        replace h := elr h
        replace h := t2i h
        exact Zs<|Rm Y<|Rm Y<|R_q (.sl 3<|List.map R3 ([v] : List Int)) Y (Zc2 XX (.cons (cvs (ov Y)<|Zt Y) Y (.cons (.b Y) .nil) .nil) Y Y)<|bE h fun l2 h_l2 h=>Rx Y (XH (ov Y) (Xe (ov Y) tZ_3) XX Y Y Y (fun _=>Zd Y) Y h_l2)<|Ra Y<|Za<|Qf (kc 1 Y<|kc 3 Y<|kc 4 Y<|kc 5 Y<|kc 6 Y<|kc 8 Y<|kc 13 Y<|kc 15 Y<|kc 18 Y<|kc 19 Y<|kc 20 Y<|kc 21 Y<|kc 22 Y kn) Y<|Zs<|Rm Y<|R2 ZT Y<|Ra Y<|Za<|⟨_, h, ES [some 0, some 1]⟩
      ·
       refine Zu<|?_
       replace h := lx h ▸ ho1
       exact ⟨_, h, ES [some 0, some 1]⟩
     ·
      replace h := elr h
      replace h := t2i h
      refine Tr<|Rq Y (Zi (ov Y) Zfk Y Y)<|Rm Y<|Rm Y<|bE h fun y9 h_y9 h=>Rq Y (Zf6 (ZhB h_y9) (.tuple<|by simp only [List.mem_cons, List.not_mem_nil, or_false, forall_eq_or_imp, forall_eq]; exact ⟨(.agg (Zsk fun x => (faV fun _ => .int))), .int⟩)<|.cons (ov Y) (Dat.view<|.aggB Y)<|.cons (ov Y) (Dat.view<|.b Y)<|.cons (ov Y) (View.ownM Y Y D3) .nil)<|Rm Y<|Rq Y (Zq (ov Y) Y)<|Rq Y (Zq (ov Y) Y)<|Rx Y (Zr (row := ((Vector.replicate 16 (Vector.replicate 64 0)).toList.flatMap R49)) 2 Y ZqC (by kernel_rfl)<|by exact Eq.symm (Eq.trans (b := 1024) (Qs (fun x => (D49 x).1.trans tZ_49) rfl) tZ_50.symm))<|Rx Y (Zo (ov Y) (ov Y) (Zm Zgb<|Qs (fun x=>(D49 x).1.trans tZ_49) Y) Y Y Y (JD (ZC<|Qs (fun x=>(D49 x).1.trans tZ_49) Y)<|Qs (fun x=>(D49 x).1.trans tZ_49) Y) (Zd<|Znp E49)<|Jl<|Eq.trans (Qs (fun x=>(D49 x).1.trans tZ_49) Y)<|Eq.symm<|Qs (fun x=>(D49 x).1.trans tZ_49) Y)<|Ra Y<|Za<|Zj<|K11 1 3 4 5 6 8 14 18 19 21 30 Y<|Tr<|Rm Y<|R2 Z4 Y<|Za<|K11 1 3 4 5 6 8 18 19 21 30 181 Y<|If h Y (fun h=>?_) fun h=>?_
      ·
       refine K0<|Tr<|Ra Y<|Za<|?_
       obtain rfl := rt h
       exact Zg (Zp Y (.one<|rb Y))
      ·
       refine Ze<|K10 1 3 4 5 6 8 18 19 21 30 Y<|Td md0<|ZjT 0 _ Y (by kernel_rfl) Y Y Y ExtW.refl (fun hp' hx=>Zi (ov Y) Zfk Y Y)<|Zbc 1 _ Y (by kernel_rfl) Y Y (fun hp'=>Zh<|ov Y)<|ZjT 2 _ Y (by kernel_rfl) Y Y Y ExtW.refl (fun hp' hx=>ZK (ov Y) (hx.get Y Y) Y Y Zgb (QD<|ZC<|Qs (fun x=>(D49 x).1.trans tZ_49) Y) (Qs (fun x=>(D49 x).1.trans tZ_49) Y) (hns := (Zbs (JR fun x => (D49 x).2))))<|Zbc 3 _ Y (by kernel_rfl) Y Y (fun hp'=>Zh<|ov Y)<|Zbc 4 _ Y (by kernel_rfl) Y Y (fun hp'=>Zh<|ov Y)<|bE h fun y10 h_y10 h=>ZjT 5 _ Y (by kernel_rfl) Y Y Y ExtW.refl (fun hp' hx=>Zl (ZiM h_y10)<|.cons (ov Y) (.aggB<|JR fun x => (D49 x).2)<|.cons (ov Y) (.b Y)<|.cons (ov Y) (.b Y) .nil)<|bE h fun y11 h_y11 h=>ZjT 6 _ Y (by kernel_rfl) Y Y Y ExtW.refl (fun hp' hx=>Zl (Zfl h_y11)<|.cons (ov Y) (.aggB Y)<|.cons (ov Y) (.b Y)<|.cons (ov Y) (.b Y) .nil)<|Zbc 7 _ Y (by kernel_rfl) Y Y (fun hp'=>Zh<|ov Y)<|Zbc 8 _ Y (by kernel_rfl) Y Y (fun hp'=>Zq (ov Y) Y)<|Zbc 9 _ Y (by kernel_rfl) Y Y (fun hp'=>Zq (ov Y) Y)<|ZlM 10 _ _ Y (by kernel_rfl) Y Y (fun _=>Ext.app) (fun h=>by cases h) (Zr (row := [_, _]) 3 Y Zem Y tZ_55)<|Do 11 Y (Zo (ov Y) (ov Y) (Zm ZaG Y) Y Y Y (Nat.le_of_ble_eq_true Y) (Zd Y) Y)<|D1 12 Zy Y<|Dd<|Zj<|K8 4 5 8 14 18 19 21 31 Y<|Tr<|Rm Y<|R2 Z4 Y<|Za<|K8 4 5 8 18 19 21 31 193 Y<|If h Y (fun h=>?_) fun h=>?_
       ·
        refine K0<|Tr<|Ra Y<|Za<|?_
        obtain rfl := rt h
        exact Zg (Zp Y (.one<|rb Y))
       ·
        refine Ze<|K7 4 5 8 18 19 21 31 Y<|Tr<|Rq Y (ZK (ov Y) Y Y Y ZaG Y Y)<|Rq Y (Zi (ov Y) ZgH Y Y)<|bE h fun y12 h_y12 h=>Rq Y (Zl (Zfj h_y12)<|.cons (ov Y) (.aggB Y)<|.cons (ov Y) (.aggB Y) .nil)<|Rm Y<|Rq Y (Zq (ov Y) Y)<|Rq Y (Zq (ov Y) Y)<|Rx Y (Zr (row := [_, _]) 4 Y Zem Y tZ_55)<|Rx Y (Zo (ov Y) (ov Y) (Zm ZaG Y) Y Y Y (Nat.le_of_ble_eq_true Y) (Zd Y) Y)<|Ra Y<|Za<|Zj<|K8 4 5 8 14 18 19 21 32 Y<|Tr<|Rq Y (Zk (ov Y) Y Y Zbb)<|Rq Y (Zn (ov Y) Y Y Y ZfN Y)<|Rl tZ_62 Zds Y<|Ra Y<|Za<|K9 4 5 8 14 18 19 21 32 33 Y<|Tr<|Rm Y<|R2 Z4 Y<|Rm Y<|Rq Y (.guarded ((!decide (y12.2 = 0)) == false) Y Y Y Y fun h => Zh<|ov Y)<|Rq Y (.guarded ((!decide (y12.2 = 0)) == false) Y Y Y Y fun h => ZeE (Xe (ow Y h) tZ_3) XX<|ZbE _ _)<|Rq Y (.guarded ((!decide (y12.2 = 0)) == false) Y Y Y Y fun h => Qb (ow Y h)<|ov Y)<|Rq Y (.guarded ((!decide (y12.2 = 0)) == false) Y Y Y Y fun h => Zh<|ow Y h)<|Rq Y (.guarded2 (((!decide (y12.2 = 0)) == false) && ((decide ((without.length : Int) = 0)) == true)) Y Y Y Y fun h => Zh<|ov Y)<|Rq Y (.guarded2 (((!decide (y12.2 = 0)) == false) && ((decide ((without.length : Int) = 0)) == true)) Y Y Y Y fun h => Zh<|ov Y)<|Rq Y (.guarded2 (((!decide (y12.2 = 0)) == false) && ((decide ((without.length : Int) = 0)) == true)) Y Y Y Y fun h => ZeR (ow Y h) Y Y XX)<|Rq Y (.guarded2 (((!decide (y12.2 = 0)) == false) && ((decide ((without.length : Int) = 0)) == true)) Y Y Y Y fun h => Zid (ow Y h) (ov Y) Y)<|Rq Y (.guarded2 (((!decide (y12.2 = 0)) == false) && ((decide ((without.length : Int) = 0)) == true)) Y Y Y Y fun h => Z4 (ow Y h)<|ow Y h)<|Rq Y (.guarded ((!decide (y12.2 = 0)) == false) Y Y Y Y fun h => QC (ow Y h) fun hp=>ow Y<|gA h<|gT hp)<|Rq Y (Qi (ov Y) fun hp=>ow Y<|gF hp)<|Rm Y<|Rq Y (.guarded (((!decide (y12.2 = 0)) || ((decide ((without.length : Int) = 0)) && (!decide ((y12.1.Samples.length : Int) = (i64 ((want.length : Int) + 1)))))) == false) Y Y Y Y fun h => Zh<|ov Y)<|Rq Y (.guarded (((!decide (y12.2 = 0)) || ((decide ((without.length : Int) = 0)) && (!decide ((y12.1.Samples.length : Int) = (i64 ((want.length : Int) + 1)))))) == false) Y Y Y Y fun h => Z4 (ow Y h)<|ov Y)<|Rq Y (.guarded (((!decide (y12.2 = 0)) || ((decide ((without.length : Int) = 0)) && (!decide ((y12.1.Samples.length : Int) = (i64 ((want.length : Int) + 1)))))) == false) Y Y Y Y fun h => Zh<|ow Y h)<|Rq Y (.guarded2 ((((!decide (y12.2 = 0)) || ((decide ((without.length : Int) = 0)) && (!decide ((y12.1.Samples.length : Int) = (i64 ((want.length : Int) + 1)))))) == false) && ((!decide ((y12.1.Samples.length : Int) = 0)) == true)) Y Y Y Y fun h => Zh<|ov Y)<|Rq Y (.guarded2 ((((!decide (y12.2 = 0)) || ((decide ((without.length : Int) = 0)) && (!decide ((y12.1.Samples.length : Int) = (i64 ((want.length : Int) + 1)))))) == false) && ((!decide ((y12.1.Samples.length : Int) = 0)) == true)) Y Y Y Y fun h => Zh<|ov Y)<|Rq Y (.guarded2 ((((!decide (y12.2 = 0)) || ((decide ((without.length : Int) = 0)) && (!decide ((y12.1.Samples.length : Int) = (i64 ((want.length : Int) + 1)))))) == false) && ((!decide ((y12.1.Samples.length : Int) = 0)) == true)) Y Y Y Y fun h => ZeR (ow Y h) Y Y XX)<|Rq Y (.guarded2 ((((!decide (y12.2 = 0)) || ((decide ((without.length : Int) = 0)) && (!decide ((y12.1.Samples.length : Int) = (i64 ((want.length : Int) + 1)))))) == false) && ((!decide ((y12.1.Samples.length : Int) = 0)) == true)) Y Y Y Y fun h => Zid (ow Y h) (ov Y) Y)<|Rq Y (.guarded2 ((((!decide (y12.2 = 0)) || ((decide ((without.length : Int) = 0)) && (!decide ((y12.1.Samples.length : Int) = (i64 ((want.length : Int) + 1)))))) == false) && ((!decide ((y12.1.Samples.length : Int) = 0)) == true)) Y Y Y Y fun h => Z4 (ow Y h)<|ow Y h)<|Rq Y (.guarded2 ((((!decide (y12.2 = 0)) || ((decide ((without.length : Int) = 0)) && (!decide ((y12.1.Samples.length : Int) = (i64 ((want.length : Int) + 1)))))) == false) && ((!decide ((y12.1.Samples.length : Int) = 0)) == true)) Y Y Y Y fun h => Zh<|ow Y h)<|Rq Y (.guarded2 (((((!decide (y12.2 = 0)) || ((decide ((without.length : Int) = 0)) && (!decide ((y12.1.Samples.length : Int) = (i64 ((want.length : Int) + 1)))))) == false) && ((!decide ((y12.1.Samples.length : Int) = 0)) == true)) && ((!decide ((y12.1.Samples.length : Int) = (i64 ((want.length : Int) + 1)))) == false)) Y Y Y Y fun h => Zk (ov Y) Y Y Zbb)<|Rq Y (.guarded2 (((((!decide (y12.2 = 0)) || ((decide ((without.length : Int) = 0)) && (!decide ((y12.1.Samples.length : Int) = (i64 ((want.length : Int) + 1)))))) == false) && ((!decide ((y12.1.Samples.length : Int) = 0)) == true)) && ((!decide ((y12.1.Samples.length : Int) = (i64 ((want.length : Int) + 1)))) == false)) Y Y Y Y fun h => Zn (ow Y h) Y Y Y ZfN Y)<|Rq Y (.guarded2 (((((!decide (y12.2 = 0)) || ((decide ((without.length : Int) = 0)) && (!decide ((y12.1.Samples.length : Int) = (i64 ((want.length : Int) + 1)))))) == false) && ((!decide ((y12.1.Samples.length : Int) = 0)) == true)) && ((!decide ((y12.1.Samples.length : Int) = (i64 ((want.length : Int) + 1)))) == false)) Y Y Y Y fun h => Zh<|ov Y)<|Rq Y (.guarded2 (((((!decide (y12.2 = 0)) || ((decide ((without.length : Int) = 0)) && (!decide ((y12.1.Samples.length : Int) = (i64 ((want.length : Int) + 1)))))) == false) && ((!decide ((y12.1.Samples.length : Int) = 0)) == true)) && ((!decide ((y12.1.Samples.length : Int) = (i64 ((want.length : Int) + 1)))) == false)) Y Y Y Y fun h => ZfB (ow Y h) (ov Y) Y)<|bE h fun x6 h_x6 h=>Rq Y (.guarded2 (((((!decide (y12.2 = 0)) || ((decide ((without.length : Int) = 0)) && (!decide ((y12.1.Samples.length : Int) = (i64 ((want.length : Int) + 1)))))) == false) && ((!decide ((y12.1.Samples.length : Int) = 0)) == true)) && ((!decide ((y12.1.Samples.length : Int) = (i64 ((want.length : Int) + 1)))) == false)) Y Y Y Y fun h => Zx (ow Y h) (ow Y h) Zds<|gdT h_x6 h)<|Rq Y (.guarded2 (((((!decide (y12.2 = 0)) || ((decide ((without.length : Int) = 0)) && (!decide ((y12.1.Samples.length : Int) = (i64 ((want.length : Int) + 1)))))) == false) && ((!decide ((y12.1.Samples.length : Int) = 0)) == true)) && ((!decide ((y12.1.Samples.length : Int) = (i64 ((want.length : Int) + 1)))) == false)) Y Y Y Y fun h => Zc (ow Y h) ZcY)<|Rq Y (.guarded2 (((((!decide (y12.2 = 0)) || ((decide ((without.length : Int) = 0)) && (!decide ((y12.1.Samples.length : Int) = (i64 ((want.length : Int) + 1)))))) == false) && ((!decide ((y12.1.Samples.length : Int) = 0)) == true)) && ((!decide ((y12.1.Samples.length : Int) = (i64 ((want.length : Int) + 1)))) == false)) Y Y Y Y fun h => Zb (ow Y h) tS3 Y)<|Rq Y (.guarded2 (((((!decide (y12.2 = 0)) || ((decide ((without.length : Int) = 0)) && (!decide ((y12.1.Samples.length : Int) = (i64 ((want.length : Int) + 1)))))) == false) && ((!decide ((y12.1.Samples.length : Int) = 0)) == true)) && ((!decide ((y12.1.Samples.length : Int) = (i64 ((want.length : Int) + 1)))) == false)) Y Y Y Y fun h => Z4 (ow Y h)<|ov Y)<|Rq Y (.guarded2 ((((!decide (y12.2 = 0)) || ((decide ((without.length : Int) = 0)) && (!decide ((y12.1.Samples.length : Int) = (i64 ((want.length : Int) + 1)))))) == false) && ((!decide ((y12.1.Samples.length : Int) = 0)) == true)) Y Y Y Y fun h => Qi (ow Y h) fun hp=>ow Y<|gA h<|gF hp)<|Rq Y (.guarded (((!decide (y12.2 = 0)) || ((decide ((without.length : Int) = 0)) && (!decide ((y12.1.Samples.length : Int) = (i64 ((want.length : Int) + 1)))))) == false) Y Y Y Y fun h => QC (ow Y h) fun hp=>ow Y<|gA h<|gT hp)<|Rq Y (Qi (ov Y) fun hp=>ow Y<|gF hp)<|Za<|K8 4 5 8 18 19 21 32 237 Y<|If h Y (fun h=>?_) fun h=>?_
        ·
         refine K0<|Tr<|Ra Y<|Za<|?_
         obtain rfl := rt h
         exact Zg (Zp Y (.one<|rb Y))
        ·
         refine Ze<|J0 (fun j => (.inr j)) ⟨[], []⟩ h (fun h=>?_) fun h=>?_
         ·
          refine K7 4 5 8 18 19 21 32 Y<|Tr<|Ra Y<|Za<|Zf<|?_
          obtain ⟨r2, hl2, ho2⟩ := Qg h
          refine L1 (fun i2=>⟨[(4, .sl 3 (List.map R3 given)), (5, .sl 3 (List.map R3 without)), (8, .rp [.int .i64 c_.Den, .sl 72 (List.map R72 c_.Lines), .int .i64 c_.Low, .int .i64 c_.High] 0), (18, .int .i64 y6.1), (19, .int .i64 y6.2.1), (21, .own 0 want.length), (32, .ptr 1 1 0 0), (34, .int .i64 i2)], [some ⟨3, List.map R3 want⟩, some ⟨55, [[.int .i64 y12.1.Den, .sl 62 (List.map R62 y12.1.Samples)]]⟩]⟩) hl2 (ES [some 1, some 4]) fun n2 i2 h=>?_
          unfold Zz at h
          refine Zj<|Tr<|Rm Y<|Rq Y (Zk (ov Y) Y Y Zbb)<|Rq Y (Zn (ov Y) Y Y Y ZfN Y)<|Rl tZ_62 Zds Y<|R2 ZaI Y<|R2 ZA Y<|Za<|K9 4 5 8 18 19 21 32 34 243 Y<|If h Y (fun h=>?_) fun h=>?_
          ·
           refine Ze<|J0 (fun j => (.inr j)) ⟨[(4, .sl 3 (List.map R3 given)), (5, .sl 3 (List.map R3 without)), (8, .rp [.int .i64 c_.Den, .sl 72 (List.map R72 c_.Lines), .int .i64 c_.Low, .int .i64 c_.High] 0), (18, .int .i64 y6.1), (19, .int .i64 y6.2.1), (21, .own 0 want.length), (32, .ptr 1 1 0 0), (34, .int .i64 i2)], [some ⟨3, List.map R3 want⟩, some ⟨55, [[.int .i64 y12.1.Den, .sl 62 (List.map R62 y12.1.Samples)]]⟩]⟩ h (fun h=>?_) fun h=>?_
           ·
            refine Zf<|K8 4 5 8 18 19 21 32 34 Y<|Tr<|Rq Y (Zk (ov Y) Y Y Zbb)<|Rq Y (Zn (ov Y) Y Y Y ZfN Y)<|Rm Y<|bE h fun x7 h_x7 h=>Rq Y (Zx (ov Y) (ov Y) Zds h_x7)<|Rq Y (Zi (ov Y) ZiP Y Y)<|Rx Y (Zr (row := [_, _, _]) 2 Y Zk6 Y tZ_62)<|Rx Y (Zo (ov Y) (ov Y) (Zm ZiP Y) Y Y Y (Nat.le_of_ble_eq_true Y) (Zd Y) Y)<|Za<|Zj<|K9 4 5 8 18 19 21 32 34 35 Y<|Tr<|Rq Y (Zk (ov Y) Y Y ZcY)<|Rq Y (Zn (ov Y) Y Y Y tS3 Y)<|R2 Qb Y<|Za<|K10 4 5 8 18 19 21 32 34 35 253 Y<|If h Y (fun h=>?_) fun h=>?_
            ·
             refine K9 4 5 8 18 19 21 32 34 35 Y<|Td md0<|Dq 0 Y (Zi (ov Y) ZgH Y Y)<|D1 1 Zh Y<|D1 2 Zh Y<|bE h fun x8 h_x8 h=>Dq 3 Y (Zdq (ov Y) (ov Y) XX Y Y h_x8)<|Dq 4 Y (Ziz (ov Y) Y Y h_x8 tS3 Y)<|bE h fun y13 h_y13 h=>Dq 5 Y (Zl (Zck h_y13)<|.cons (ov Y) (.aggB Y)<|.cons (ov Y) (.b Y) .nil)<|D1 6 Zh Y<|Dq 7 Y (Zq (ov Y) Y)<|Dq 8 Y (Zq (ov Y) Y)<|Dq 9 Y (Zq (ov Y) Y)<|D1 10 Zy Y<|D1 11 Zy Y<|D1 12 Zy Y<|Dd<|Zj<|K12 4 5 8 18 19 21 32 34 35 36 37 38 Y<|Tr<|Rm Y<|R2 Z4 Y<|Rm Y<|Rq Y (.guarded ((!decide (y13.2.2 = 0)) == false) Y Y Y Y fun h => Zh<|ov Y)<|Rq Y (.guarded ((!decide (y13.2.2 = 0)) == false) Y Y Y Y fun h => Qa<|ow Y h)<|Rq Y (Qi (ov Y) fun hp=>ow Y<|gF hp)<|Rm Y<|Rq Y (.guarded (((!decide (y13.2.2 = 0)) || (!y13.2.1)) == false) Y Y Y Y fun h => Zh<|ov Y)<|Rq Y (.guarded (((!decide (y13.2.2 = 0)) || (!y13.2.1)) == false) Y Y Y Y fun h => Zk (ov Y) Y Y Zf0)<|Rq Y (.guarded (((!decide (y13.2.2 = 0)) || (!y13.2.1)) == false) Y Y Y Y fun h => Zn (ow Y h) Y Y Y tS3 Y)<|Rq Y (.guarded (((!decide (y13.2.2 = 0)) || (!y13.2.1)) == false) Y Y Y Y fun h => Z4 (ow Y h)<|ow Y h)<|Rq Y (Qi (ov Y) fun hp=>ow Y<|gF hp)<|Za<|K10 4 5 8 18 19 21 32 34 35 275 Y<|If h Y (fun h=>?_) fun h=>?_
             ·
              refine K0<|Tr<|Ra Y<|Za<|?_
              replace h := lx h ▸ ho2
              obtain rfl := rt h
              exact Zg (Zp Y (.one<|rb Y))
             ·
              refine Ze<|K9 4 5 8 18 19 21 32 34 35 Y<|Td md0<|Dq 0 Y (Zi (ov Y) ZgH Y Y)<|D1 1 Zh Y<|D1 2 Zh Y<|bE h fun x9 h_x9 h=>Dq 3 Y (Zx (ov Y) (ov Y) XX h_x9)<|Dq 4 Y (Zb (ov Y) tS3 Y)<|bE h fun y14 h_y14 h=>Dq 5 Y (Zl (Zc5 h_y14)<|.cons (ov Y) (.aggB Y)<|.cons (ov Y) (.b Y) .nil)<|D1 6 Zh Y<|Dq 7 Y (Zq (ov Y) Y)<|Dq 8 Y (Zq (ov Y) Y)<|D1 9 Zy Y<|D1 10 Zy Y<|Dd<|Zj<|K11 4 5 8 18 19 21 32 34 35 38 39 Y<|Tr<|Rm Y<|R2 Z4 Y<|Za<|K11 4 5 8 18 19 21 32 34 35 39 286 Y<|If h Y (fun h=>?_) fun h=>?_
              ·
               refine K0<|Tr<|Ra Y<|Za<|?_
               replace h := lx h ▸ ho2
               obtain rfl := rt h
               exact Zg (Zp Y (.one<|rb Y))
              ·
               refine Ze<|K10 4 5 8 18 19 21 32 34 35 39 Y<|Tr<|Rq Y (Zi (ov Y) ZgH Y Y)<|Rm Y<|bE h fun y15 h_y15 h=>Rq Y (Zl (Zck h_y15)<|.cons (ov Y) (.aggB Y)<|.cons (ov Y) (.b Y) .nil)<|Rm Y<|Rq Y (Zq (ov Y) Y)<|Rq Y (Zq (ov Y) Y)<|Rq Y (Zq (ov Y) Y)<|Ra Y<|Ra Y<|Ra Y<|Za<|K12 4 5 8 18 19 21 32 34 35 38 39 40 Y<|Td md0<|Dq 0 Y (Zk (ov Y) Y Y Zf0)<|Dq 1 Y (Zn (ov Y) Y Y Y tS3 Y)<|D1 2 Zh Y<|D1 3 Zh Y<|bE h fun x10 h_x10 h=>Dq 4 Y (Zx (ov Y) (ov Y) XX h_x10)<|Dq 5 Y (Zb (ov Y) tS3 Y)<|D2 6 ZaI Y<|D1 7 Zh Y<|D1 8 Zh Y<|bE h fun x11 h_x11 h=>Dq 9 Y (Zx (ov Y) (ov Y) XX h_x11)<|Dq 10 Y (Zb (ov Y) tS3 Y)<|Dq 11 Y (Zk (ov Y) Y Y Zf0)<|Dq 12 Y (Zn (ov Y) Y Y Y tS3 Y)<|D2 13 ZaI Y<|Dq 14 Y (Zgh (ov Y) (ov Y) Y)<|D1 15 Zh Y<|D1 16 Zh Y<|D1 17 Zh Y<|bE h fun x12 h_x12 h=>Dq 18 Y (Zx (ov Y) (ov Y) XX h_x12)<|Dq 19 Y (Zb (ov Y) tS3 Y)<|D2 20 ZaI Y<|D1 21 Zh Y<|D1 22 Zh Y<|bE h fun x13 h_x13 h=>Dq 23 Y (Zx (ov Y) (ov Y) XX h_x13)<|Dq 24 Y (Zb (ov Y) tS3 Y)<|D1 25 Zh Y<|D2 26 ZaI Y<|Dq 27 Y (Zgh (ov Y) (ov Y) Y)<|D1 28 Zy Y<|D1 29 Zy Y<|Dd<|Zj<|K12 4 5 8 18 19 21 32 34 38 39 42 43 Y<|Tr<|Rm Y<|R2 Z4 Y<|Rm Y<|Rq Y (.guarded ((!decide (y15.2.2 = 0)) == false) Y Y Y Y fun h => Zh<|ov Y)<|Rq Y (.guarded ((!decide (y15.2.2 = 0)) == false) Y Y Y Y fun h => Zh<|ov Y)<|Rq Y (.guarded ((!decide (y15.2.2 = 0)) == false) Y Y Y Y fun h => ZaX (ow Y h)<|ow Y h)<|Rq Y (.guarded ((!decide (y15.2.2 = 0)) == false) Y Y Y Y fun h => Zh<|ow Y h)<|Rq Y (.guarded2 (((!decide (y15.2.2 = 0)) == false) && ((decide (y6.1 ≤ y14.1)) == true)) Y Y Y Y fun h => Zh<|ov Y)<|Rq Y (.guarded2 (((!decide (y15.2.2 = 0)) == false) && ((decide (y6.1 ≤ y14.1)) == true)) Y Y Y Y fun h => Zh<|ov Y)<|Rq Y (.guarded2 (((!decide (y15.2.2 = 0)) == false) && ((decide (y6.1 ≤ y14.1)) == true)) Y Y Y Y fun h => ZbO (ow Y h)<|ow Y h)<|Rq Y (.guarded ((!decide (y15.2.2 = 0)) == false) Y Y Y Y fun h => QC (ow Y h) fun hp=>ow Y<|gA h<|gT hp)<|Rq Y (.guarded ((!decide (y15.2.2 = 0)) == false) Y Y Y Y fun h => Zh<|ow Y h)<|Rq Y (.guarded2 (((!decide (y15.2.2 = 0)) == false) && (((decide (y6.1 ≤ y14.1)) && (decide (y14.1 ≤ y6.2.1))) == true)) Y Y Y Y fun h => Zh<|ov Y)<|Rq Y (.guarded2 (((!decide (y15.2.2 = 0)) == false) && (((decide (y6.1 ≤ y14.1)) && (decide (y14.1 ≤ y6.2.1))) == true)) Y Y Y Y fun h => Zh<|ov Y)<|Rq Y (.guarded2 (((!decide (y15.2.2 = 0)) == false) && (((decide (y6.1 ≤ y14.1)) && (decide (y14.1 ≤ y6.2.1))) == true)) Y Y Y Y fun h => Z4 (ow Y h)<|ow Y h)<|Rq Y (.guarded ((!decide (y15.2.2 = 0)) == false) Y Y Y Y fun h => QC (ow Y h) fun hp=>ow Y<|gA h<|gT hp)<|Rq Y (Qi (ov Y) fun hp=>ow Y<|gF hp)<|Za<|K9 4 5 8 18 19 21 32 34 338 Y<|If h Y (fun h=>?_) fun h=>?_
               ·
                refine K0<|Tr<|Ra Y<|Za<|?_
                replace h := lx h ▸ ho2
                obtain rfl := rt h
                exact Zg (Zp Y (.one<|rb Y))
               ·
                exact Ze<|Zu<|⟨(), h, ES [some 0, some 1]⟩
            ·
             refine Ze<|Zj<|K9 4 5 8 18 19 21 32 34 35 Y<|Tr<|Rq Y (Zk (ov Y) Y Y ZcY)<|Rq Y (Zn (ov Y) Y Y Y tS3 Y)<|R2 Qb Y<|Za<|K9 4 5 8 18 19 21 32 34 341 Y<|If h Y (fun h=>?_) fun h=>?_
             ·
              refine Zj<|K8 4 5 8 18 19 21 32 34 Y<|Td md0<|Dq 0 Y (Zi (ov Y) ZgH Y Y)<|D1 1 Zh Y<|D1 2 Zh Y<|bE h fun x14 h_x14 h=>Dq 3 Y (Zdq (ov Y) (ov Y) XX Y Y h_x14)<|Dq 4 Y (Ziz (ov Y) Y Y h_x14 tS3 Y)<|bE h fun y16 h_y16 h=>Dq 5 Y (Zl (Zck h_y16)<|.cons (ov Y) (.aggB Y)<|.cons (ov Y) (.b Y) .nil)<|D1 6 Zh Y<|Dq 7 Y (Zq (ov Y) Y)<|Dq 8 Y (Zq (ov Y) Y)<|Dq 9 Y (Zq (ov Y) Y)<|D1 10 Zy Y<|D1 11 Zy Y<|D1 12 Zy Y<|Dd<|K10 4 5 8 18 19 21 32 34 45 46 Y<|Tr<|Rm Y<|R2 Z4 Y<|Rm Y<|Rq Y (.guarded ((!decide (y16.2.2 = 0)) == false) Y Y Y Y fun h => Zh<|ov Y)<|Rq Y (Qi (ov Y) fun hp=>ow Y<|gF hp)<|Za<|K9 4 5 8 18 19 21 32 34 356 Y<|If h Y (fun h=>?_) fun h=>?_
              ·
               refine K0<|Tr<|Ra Y<|Za<|?_
               replace h := lx h ▸ ho2
               obtain rfl := rt h
               exact Zg (Zp Y (.one<|rb Y))
              ·
               exact Ze<|Zu<|⟨(), h, ES [some 0, some 1]⟩
             ·
              refine Ze<|K8 4 5 8 18 19 21 32 34 Y<|Tr<|Rm Y<|Rl tZ_3 XX Y<|R2 Qb Y<|Za<|K9 4 5 8 18 19 21 32 34 359 Y<|If h Y (fun h=>?_) fun h=>?_
              ·
               refine K0<|Tr<|Ra Y<|Za<|?_
               replace h := lx h ▸ ho2
               obtain rfl := rt h
               exact Zg (Zp Y (.one<|rb Y))
              ·
               exact Ze<|⟨(), h, ES [some 0, some 1]⟩
           ·
            replace h := elr h
            replace h := t0i h
            exact Zs<|Rm Y<|R2 ZT Y<|Ra Y<|Za<|⟨_, h, ES [some 0, some 1]⟩
          ·
           refine Zu<|?_
           replace h := lx h ▸ ho2
           exact ⟨(), h, ES []⟩
         ·
          replace h := elr h
          replace h := t0i h
          refine Tr<|Ra Y<|Za<|?_
          obtain rfl := rt h
          exact Zg (Zp Y (.one<|rb Y))
end Go.Proofs.YtdacciininlfmaaGreatDoor
