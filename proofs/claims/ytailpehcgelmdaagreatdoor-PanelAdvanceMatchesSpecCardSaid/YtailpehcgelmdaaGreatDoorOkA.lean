/- A text of the proof: a verified executor of the program form, or the contracts of the functions that the law reaches. -/
import Derived.Test.YtailpehcgelmdaaGreatDoorOkAc
set_option linter.all false
namespace Go.Proofs.YtailpehcgelmdaaGreatDoor
open Go Go.Vx
set_option maxRecDepth 10000
set_option maxHeartbeats 1000000
set_option linter.unusedVariables false
theorem ZjE {p : api_Panel} {l : List api_Track} {s : api_PanelState} {r : (List api_Face)} (h : ZdB p l s = some r) :
 CSpec Tryz.prog gl0 58 [.agg [.sl 49 (List.map R49 p.Instruments)], .sl 54 (List.map R54 l), .agg [.int .i64 s.Frame, .sl 99 (List.map R99 s.Memos)]] (.sl 39 (List.map R39 r)) := by
 unfold ZdB at h
 replace h := ZP h
 refine So Tryz.func58 Y fun w0 A=>Tr<|Rq Y (ZB (cva<|ov Y) Y tZ_24 Y)<|Rq Y (ZB (cva<|ov Y) Y tZ_44 Y)<|Ra Y<|Za<|K3 1 3 5 Y<|Tr<|Ra Y<|Za<|I1 (fun out=>⟨[(7, .own 0 out.length)], [some ⟨39, List.map R39 out⟩]⟩) h (fun h=>?_) fun out h=>?_
 ·
  refine Tr<|Rq Y (Zc (ov Y) XO)<|Rq Y (Zb (ov Y) ZcQ Y)<|Rl tZ_49 Zar Y<|Rm Y<|Za<|Zm<|?_
  obtain ⟨r1, hl1, ho1⟩ := Xt h
  refine L2 (fun out2 i=>⟨[(1, .sl 54 (List.map R54 l)), (5, .rp [.int .i64 s.Frame, .sl 99 (List.map R99 s.Memos)] 0), (7, .own 0 out2.length), (15, .sl 49 (List.map R49 p.Instruments)), (16, .int .i64 (p.Instruments.length : Int)), (17, .int .i64 i)], [some ⟨39, List.map R39 out2⟩]⟩) hl1 (ES [none]) fun n1 out2 i h=>?_
  unfold ZaP at h
  refine Tr<|R2 Z8 Y<|Za<|Zl<|If h Y (fun h=>?_) fun h=>?_
  ·
   refine Ze<|Zl<|Zm<|K6 1 5 7 15 16 17 Y<|Tr<|Rm Y<|bE h fun x h_x h=>Rq Y (ZJ (ov Y) (ov Y) Zar h_x)<|Rq Y (Zi (ov Y) Zaf Y Y)<|Rx Y (ZC (row := [_, _, _, _, _, _, _, _, _, _, _, _]) 1 Y Zjy Y tZ_49)<|Ra Y<|Rx Y (Zk (ov Y) (ov Y) (Zn Zaf Y) Y Y Y (Nat.le_of_ble_eq_true Y) (Zd Y) Y)<|Za<|K8 1 5 7 8 9 15 16 17 Y<|Tr<|Rm Y<|Rq Y (Zf (ov Y) Y Y ZgB)<|Rq Y (Zt (ov Y) Y Y Y tS9 Y)<|bE h fun y h_y h=>Rq Y (Zj (Zd6 h_y)<|.cons (ov Y) (.b Y)<|.cons (ov Y) (.b Y) .nil)<|Rm Y<|Rq Y (Zu (ov Y) Y)<|Rq Y (Zu (ov Y) Y)<|Rx Y (ZC (row := [_, _, _, _]) 2 Y Zkr Y tZ_54)<|Rx Y (Zk (ov Y) (ov Y) (Zn ZeQ Y) Y Y Y (Nat.le_of_ble_eq_true Y) (Zd Y) Y)<|Ra Y<|Za<|K9 1 5 7 8 9 10 15 16 17 Y<|Tr<|Rq Y (QM (ys := [_, _, _]) ZiT ZiJ ZdU .nil Y)<|Rx Y (ZC (row := [_, _, _]) 3 Y ZdU Y tZ_56)<|Rx Y (Zk (ov Y) (ov Y) (Zn Jq Y) Y Y Y (Nat.le_of_ble_eq_true Y) (Zd Y) Y)<|Ra Y<|Za<|I2 (fun x2 known=>⟨[(1, .sl 54 (List.map R54 l)), (5, .rp [.int .i64 s.Frame, .sl 99 (List.map R99 s.Memos)] 0), (7, .own 0 out2.length), (8, .int .i64 i), (9, .ptr 1 1 0 0), (10, .ptr 2 1 0 0), (12, .ptr 3 1 0 0), (13, .bool known), (15, .sl 49 (List.map R49 p.Instruments)), (16, .int .i64 (p.Instruments.length : Int)), (17, .int .i64 i)], [some ⟨39, List.map R39 out2⟩, some ⟨49, [[.int .i64 x.Kind, .str x.Name, .str x.Track, .int .i64 x.Places, .int .i64 x.Low, .int .i64 x.High, .int .i64 x.Steps, .sl 136 (List.map R136 x.Zones), .int .i64 x.Op, .int .i64 x.N, .bool x.Latch, .int .i64 x.Size]]⟩, some ⟨54, [[.str y.1.Name, .int .i64 y.1.Series.Den, .sl 56 (List.map R56 y.1.Series.Samples), .int .i64 y.1.Long]]⟩, some ⟨56, [[.int .i64 x2.At, .int .i64 x2.N, .int .i64 x2.Mark]]⟩]⟩) h (fun h=>?_) fun x2 known h=>?_
   ·
    refine K11 1 5 7 8 9 10 12 13 15 16 17 Y<|Tr<|Rq Y (Zc (ov Y) J8)<|Rq Y (Zb (ov Y) tS3 Y)<|R2 JT Y<|Za<|K12 1 5 7 8 9 10 12 13 15 16 17 32 Y<|If h Y (fun h=>?_) fun h=>?_
    ·
     exact K11 1 5 7 8 9 10 12 13 15 16 17 Y<|Zx<|Rq Y (ZW (ov Y) Y Y Y ZeQ Y Y)<|Rq Y (Zc (ov Y) J8)<|Rq Y (Zb (ov Y) tS3 Y)<|bE h fun y2 h_y2 h=>Rq Y (Zj (Zfd h_y2)<|.cons (ov Y) (.aggB Y)<|.cons (ov Y) (.b Y) .nil)<|Rm Y<|Rq Y (Zu (ov Y) Y)<|Rq Y (Zu (ov Y) Y)<|Rx Y (Zk (ov Y) (ov Y) (Zn Jq Y) Y Y Y (Nat.le_of_ble_eq_true Y) (Zd Y) Y)<|Ra Y<|Za<|⟨_, h, ES [some 0, some 1, some 2, some 3]⟩
    ·
     exact Ze<|⟨_, h, ES [some 0, some 1, some 2, some 3]⟩
   ·
    exact Zcf (cw := md0) (by kernel_rfl)<|D1 0 Zh Y<|Dq 1 Y (ZW (ov Y) Y Y Y Zaf Y Y)<|Dq 2 Y (Zf (ov Y) Y Y ZfE)<|Dq 3 Y (Zf (ov Y) Y Y Zkh)<|Dq 4 Y (Zt (ov Y) Y Y Y tS3 Y)<|Dq 5 Y (Zc (ov Y) Jt)<|Dq 6 Y (Zb (ov Y) ZdV Y)<|D1 7 Zh Y<|bE h fun x3 h_x3 h=>Dq 8 Y (ZJ (ov Y) (ov Y) Zcl h_x3)<|Dq 9 Y (Zi (ov Y) Zcc Y Y)<|Dq 10 Y (ZW (ov Y) Y Y Y Jq Y Y)<|D1 11 Zh Y<|bE h fun y3 h_y3 h=>Dq 12 Y (Zj (Zku h_y3)<|.cons (ov Y) (.aggB Y)<|.cons (ov Y) (.b Y)<|.cons (ov Y) (.aggB Y)<|.cons (ov Y) (.aggB Y)<|.cons (ov Y) (.b Y) .nil)<|ZkD 13 (.sl 39<|List.map R39 ([y3] : List api_Face)) Y (by kernel_rfl) Y Y (Jm ZfY (.cons (cva<|ov Y) Y (pwD Y) .nil) Y Y)<|bE h fun l2 h_l2 h=>Do 14 Y (Zbo (ov Y) (Jg (ov Y) tZ_39) ZfY Y Y Y (fun _=>Zd Y) Y h_l2)<|D1 15 QN Y<|Dd<|K6 1 5 7 15 16 17 Y<|Zx<|R2 QG Y<|Rm Y<|Za<|⟨_, h, ES [some 0]⟩
  ·
   refine ZM<|?_
   replace h := lx h ▸ ho1
   exact ⟨_, h, ES [some 0]⟩
 ·
  refine Tr<|Rm Y<|Ra Y<|Za<|?_
  obtain rfl := rt h
  exact Zg (Zo Y (.one<|.tmp Y<|View.ownM Y Y D39))
theorem ZjF {p : api_Panel} {l : List api_Track} {s : api_PanelState} {r : (List api_Face) × Int} (h : ZdC p l s = some r) :
 CSpec Tryz.prog gl0 24 [.agg [.sl 49 (List.map R49 p.Instruments)], .sl 54 (List.map R54 l), .agg [.int .i64 s.Frame, .sl 99 (List.map R99 s.Memos)]] (.tuple [.sl 39 (List.map R39 r.1), .int .i64 r.2]) := by
 unfold ZdC at h
 replace h := ZP h
 refine So Tryz.func24 Y fun w0 A=>Tr<|Rq Y (ZB (cva<|ov Y) Y tZ_24 Y)<|Rq Y (ZB (cva<|ov Y) Y tZ_44 Y)<|Ra Y<|Ra Y<|Za<|Zl<|K3 1 3 5 Y<|Tr<|Rq Y (Zi (ov Y) ZaH Y Y)<|Rm Y<|bE h fun y h_y h=>Rq Y (Zj (Zgh h_y)<|.cons (ov Y) (.aggB Y)<|.cons (ov Y) (.b Y) .nil)<|Ra Y<|Za<|K4 1 3 5 8 Y<|Tr<|Rm Y<|R2 Z0 Y<|Za<|K5 1 3 5 8 14 Y<|If h Y (fun h=>?_) fun h=>?_
 ·
  refine K1 8 Y<|Tr<|Rm Y<|Ra Y<|Ra Y<|Za<|?_
  obtain rfl := rt h
  exact Zg (Zo Y (.two (.tmp Y<|View.nils 39)<|rb Y))
 ·
  refine Ze<|Zl<|K3 1 3 5 Y<|Tr<|Rq Y (Zi (ov Y) ZaH Y Y)<|Rq Y (Zi (ov Y) Xe Y Y)<|bE h fun y2 h_y2 h=>Rq Y (Zj (ZbH h_y2)<|.cons (ov Y) (.aggB Y)<|.cons (ov Y) (.aggB Y) .nil)<|Ra Y<|Za<|K4 1 3 5 9 Y<|Tr<|Rm Y<|R2 Z0 Y<|Za<|K5 1 3 5 9 20 Y<|If h Y (fun h=>?_) fun h=>?_
  ·
   refine K1 9 Y<|Tr<|Rm Y<|Ra Y<|Ra Y<|Za<|?_
   obtain rfl := rt h
   exact Zg (Zo Y (.two (.tmp Y<|View.nils 39)<|rb Y))
  ·
   refine Ze<|K3 1 3 5 Y<|Tr<|Rq Y (Zi (ov Y) ZaH Y Y)<|Rm Y<|Rq Y (Zi (ov Y) Xe Y Y)<|bE h fun y3 h_y3 h=>Rq Y (Zj (ZjE h_y3)<|.cons (ov Y) (.aggB Y)<|.cons (ov Y) (.b Y)<|.cons (ov Y) (.aggB Y) .nil)<|Ra Y<|Ra Y<|Za<|?_
   obtain rfl := rt h
   exact Zg (Zo Y (.two (rb Y)<|rb Y))
theorem ZbV {s1 : List api_Face} {s2 : List api_Face} {r : Bool} (h : Qq s1 s2 = some r) :
 CSpec Tryz.prog gl0 12 [.sl 39 (List.map R39 s1), .sl 39 (List.map R39 s2)] (.bool r) := by
 unfold Qq at h
 replace h := ZP h
 refine So Tryz.func12 Y fun w0 A=>Tr<|Ra Y<|Za<|Zl<|K2 0 1 Y<|Tr<|Rm Y<|Rl tZ_39 ZfY Y<|Rm Y<|Rl tZ_39 ZfY Y<|R2 Z0 Y<|Za<|K3 0 1 10 Y<|If h Y (fun h=>?_) fun h=>?_
 ·
  refine K0<|Tr<|Ra Y<|Za<|?_
  obtain rfl := rt h
  exact Zg (Zo Y (.one<|rb Y))
 ·
  refine Ze<|J0 (fun j => (.inr j)) ⟨[], []⟩ h (fun h=>?_) fun h=>?_
  ·
   refine K2 0 1 Y<|Tr<|Rm Y<|Rl tZ_39 ZfY Y<|Rm Y<|Za<|Zm<|?_
   obtain ⟨r1, hl1, ho1⟩ := Xt h
   refine L1 (fun i=>⟨[(0, .sl 39 (List.map R39 s1)), (1, .sl 39 (List.map R39 s2)), (12, .int .i64 (s1.length : Int)), (13, .int .i64 i)], []⟩) hl1 (ES []) fun n1 i h=>?_
   unfold Z2 at h
   refine Tr<|R2 Z8 Y<|Za<|Zl<|If h Y (fun h=>?_) fun h=>?_
   ·
    refine Ze<|Zl<|Zm<|K4 0 1 12 13 Y<|Tr<|Rm Y<|Ra Y<|Za<|K5 0 1 5 12 13 Y<|Td md0<|D1 0 Zh Y<|D1 1 Zh Y<|bE h fun x h_x h=>Dq 2 Y (ZJ (ov Y) (ov Y) ZfY h_x)<|Dq 3 Y (Zi (ov Y) ZgN Y Y)<|D1 4 Zh Y<|D1 5 Zh Y<|bE h fun x2 h_x2 h=>Dq 6 Y (ZJ (ov Y) (ov Y) ZfY h_x2)<|Dq 7 Y (Zi (ov Y) ZgN Y Y)<|Dq 8 Y (Zoq ZnT (ov Y) (ov Y) (.aggB Y) (.aggB Y) Y Y)<|Dd<|K5 0 1 12 13 24 Y<|If h Y (fun h=>?_) fun h=>?_
    ·
     refine K0<|Tr<|Ra Y<|Za<|?_
     replace h := lx h ▸ ho1
     obtain rfl := rt h
     exact Zg (Zo Y (.one<|rb Y))
    ·
     exact Ze<|K4 0 1 12 13 Y<|Zx<|R2 QG Y<|Rm Y<|Za<|⟨_, h, ES []⟩
   ·
    refine ZM<|?_
    replace h := lx h ▸ ho1
    exact ⟨(), h, ES []⟩
  ·
   replace h := elr h
   replace h := t0i h
   refine Tr<|Ra Y<|Za<|?_
   obtain rfl := rt h
   exact Zg (Zo Y (.one<|rb Y))
theorem Zet : Zk9 Tryz.prog 59 110 108 9 108 := Znj { Tryz.lays156 with } Tryz.Builder_Extra_156
theorem ZfX : ∃ i, Tryz.prog.info? 5 = some i ∧ i.zero = some (.int .u8 0) ∧ i.size = 1 ∧ i.bytes = 1 := ZoH Tryz.Builder_Extra_156
theorem Znf : ZoT Tryz.prog 60 110 5 := fun B b l w h hw => Any.Builder_String_any { Tryz.lays156 with } Tryz.Builder_Extra_156 B b l w h hw
theorem Zjk {p : api_Panel} {faces : List api_Face} {r : Str × Int} (h : ZcN p faces = some r) :
 CSpec Tryz.prog gl0 25 [.agg [.sl 49 (List.map R49 p.Instruments)], .sl 39 (List.map R39 faces)] (.tuple [.str r.1, .int .i64 r.2]) := by
 unfold ZcN at h
 replace h := ZP h
 refine So Tryz.func25 Y fun w0 A=>Tr<|Rq Y (ZB (cva<|ov Y) Y tZ_24 Y)<|Ra Y<|Ra Y<|Za<|Zl<|K2 1 2 Y<|Tr<|Rq Y (Zi (ov Y) ZaH Y Y)<|bE h fun y h_y h=>Rq Y (Zj (Zdx h_y)<|.cons (ov Y) (.aggB Y) .nil)<|Ra Y<|Za<|K3 1 2 6 Y<|Tr<|Rm Y<|R2 Z0 Y<|Za<|K4 1 2 6 13 Y<|If h Y (fun h=>?_) fun h=>?_
 ·
  refine K1 6 Y<|Tr<|Rm Y<|Ra Y<|Ra Y<|Za<|?_
  obtain rfl := rt h
  exact Zg (Zo Y (.two (rb Y)<|rb Y))
 ·
  refine Ze<|Zl<|K2 1 2 Y<|Tr<|Rm Y<|Rl tZ_39 ZfY Y<|Rq Y (Zc (ov Y) XO)<|Rq Y (Zb (ov Y) ZcQ Y)<|Rl tZ_49 Zar Y<|R2 Z0 Y<|Za<|K3 1 2 20 Y<|If h Y (fun h=>?_) fun h=>?_
  ·
   refine K0<|Tr<|Ra Y<|Ra Y<|Za<|?_
   obtain rfl := rt h
   exact Zg (Zo Y (.two (rb Y)<|rb Y))
  ·
   refine Ze<|K2 1 2 Y<|Tr<|Rx Y (ZmN (r := 0) Y ZoV tZ_110)<|ZkS (Ent.sel [some 0, none] (sd 1 Y Y<|sd 2 Y Y<|sr 7 Y (.ptr (r' := 0) _ _ _ Y) sn) (.cons Y (ro1 (by exact tZ_110.symm)<|rlc (.bptr (r' := 0) _ Y)<|rlc (.row (r' := 1) Y) rln)<|.row 5 .nil) Y Y)<|Za<|I1 (fun buf=>⟨[(7, .ptr 0 1 0 0)], [some ⟨110, [[.bptr 0 1, .own 1 buf.length]]⟩, some ⟨5, List.map R5 buf⟩]⟩) h (fun h=>?_) fun buf h=>?_
   ·
    refine Tr<|Rm Y<|Rl tZ_39 ZfY Y<|Rm Y<|Za<|Zm<|?_
    obtain ⟨r1, hl1, ho1⟩ := Xt h
    refine L2 (fun buf2 i=>⟨[(2, .rp [.sl 49 (List.map R49 p.Instruments)] 0), (7, .ptr 0 1 0 0), (21, .sl 39 (List.map R39 faces)), (22, .int .i64 (faces.length : Int)), (23, .int .i64 i)], [some ⟨110, [[.bptr 0 1, .own 1 buf2.length]]⟩, some ⟨5, List.map R5 buf2⟩]⟩) hl1 (ES [some 0, some 1] (hhp := .cons Y (ro1 (by exact tZ_110.symm)<|rlc (.bptr _ Y)<|rlc (.own _ Y) rln)<|.cons Y (roM D5) .nil)) fun n1 buf2 i h=>?_
    unfold J3 at h
    refine Tr<|R2 Z8 Y<|Za<|Zl<|If h Y (fun h=>?_) fun h=>?_
    ·
     refine Ze<|Zl<|Zm<|K5 2 7 21 22 23 Y<|Tr<|Rm Y<|bE h fun x h_x h=>Rq Y (ZJ (ov Y) (ov Y) ZfY h_x)<|Rq Y (Zi (ov Y) ZgN Y Y)<|Rx Y (ZC (row := [_, _, _, _]) 2 Y Zkk Y tZ_39)<|Ra Y<|Rx Y (Zk (ov Y) (ov Y) (Zn ZgN Y) Y Y Y (Nat.le_of_ble_eq_true Y) (Zd Y) Y)<|Za<|K7 2 7 8 9 21 22 23 Y<|Td ⟨true, false, [], [], []⟩<|Dq 0 Y (Zc (ov Y) XO)<|Dq 1 Y (Zb (ov Y) ZcQ Y)<|D1 2 Zh Y<|bE h fun x2 h_x2 h=>Dq 3 Y (ZJ (ov Y) (ov Y) Zar h_x2)<|Dq 4 Y (Zc (ov Y) ZfS)<|Dq 5 Y (Zb (ov Y) tS9 Y)<|bE h fun s h_s h=>Dq 6 Y (Zbe (ov Y) (ov Y) h_s)<|Dq 7 Y (Zf (ov Y) Y Y ZaY)<|Dq 8 Y (Zt (ov Y) Y Y Y tS9 Y)<|bE h fun s2 h_s2 h=>Dq 9 Y (Zbe (ov Y) (ov Y) h_s2)<|bE h fun l h_l h=>Do 10 Y (ZfI (R := R5) Zet (by kernel_rfl) (ov Y) (ov Y) Qf ZkR ZfX Y Y Y (fun _=>Y) Y Y h_l)<|Dd<|I1 (fun buf3=>⟨[(2, .rp [.sl 49 (List.map R49 p.Instruments)] 0), (7, .ptr 0 1 0 0), (9, .ptr 2 1 0 0), (21, .sl 39 (List.map R39 faces)), (22, .int .i64 (faces.length : Int)), (23, .int .i64 i)], [some ⟨110, [[.bptr 0 1, .own 1 buf3.length]]⟩, some ⟨5, List.map R5 buf3⟩, some ⟨39, [[.str x.Text, .int .i64 x.Needle, .bool x.Lit, .int .i64 x.Mark]]⟩]⟩) h (fun h=>?_) fun buf3 h=>?_
     ·
      refine K6 2 7 9 21 22 23 Y<|Tr<|Rq Y (Zf (ov Y) Y Y Zkb)<|Rq Y (Zt (ov Y) Y Y Y tS4 Y)<|Za<|K7 2 7 9 21 22 23 40 Y<|If h Y (fun h=>?_) fun h=>?_
      ·
       exact K6 2 7 9 21 22 23 Y<|Zx<|bE h fun l2 h_l2 h=>Rx Y (ZfI (R := R5) Zet (by kernel_rfl) (ov Y) (ov Y) Qf ZkR ZfX Y Y Y (fun _=>Y) Y Y h_l2)<|Za<|⟨_, h, ES [some 0, some 1, some 2] (hhp := .cons Y (ro1 (by exact tZ_110.symm)<|rlc (.bptr _ Y)<|rlc (.own _ Y) rln)<|.cons Y (roM D5)<|.cons Y (ro1 (by exact tZ_39.symm)<|rld Y) .nil)⟩
      ·
       exact Ze<|⟨_, h, ES [some 0, some 1, some 2] (hhp := .cons Y (ro1 (by exact tZ_110.symm)<|rlc (.bptr _ Y)<|rlc (.own _ Y) rln)<|.cons Y (roM D5)<|.cons Y (ro1 (by exact tZ_39.symm)<|rld Y) .nil)⟩
     ·
      refine Zl<|Tr<|Rq Y (Zf (ov Y) Y Y Zlr)<|Rq Y (Zt (ov Y) Y Y Y tS3 Y)<|R2 Z0 Y<|Za<|K6 2 7 21 22 23 44 Y<|If h Y (fun h=>?_) fun h=>?_
      ·
       exact K5 2 7 21 22 23 Y<|Zx<|bE h fun l3 h_l3 h=>Rx Y (ZfI (R := R5) Zet (by kernel_rfl) (ov Y) (ov Y) Qf ZkR ZfX Y Y Y (fun _=>Y) Y Y h_l3)<|Za<|K5 2 7 21 22 23 Y<|Zx<|bE h fun l4 h_l4 h=>Rx Y (ZfI (R := R5) Zet (by kernel_rfl) (ov Y) (ov Y) Qf ZkR ZfX Y Y Y (fun _=>Y) Y Y h_l4)<|Za<|K5 2 7 21 22 23 Y<|Zx<|R2 QG Y<|Rm Y<|Za<|⟨_, h, ES [some 0, some 1] (hhp := .cons Y (ro1 (by exact tZ_110.symm)<|rlc (.bptr _ Y)<|rlc (.own _ Y) rln)<|.cons Y (roM D5) .nil)⟩
      ·
       exact Ze<|K5 2 7 21 22 23 Y<|Zx<|bE h fun l5 h_l5 h=>Rx Y (ZfI (R := R5) Zet (by kernel_rfl) (ov Y) (ov Y) Qf ZkR ZfX Y Y Y (fun _=>Y) Y Y h_l5)<|Za<|K5 2 7 21 22 23 Y<|Zx<|R2 QG Y<|Rm Y<|Za<|⟨_, h, ES [some 0, some 1] (hhp := .cons Y (ro1 (by exact tZ_110.symm)<|rlc (.bptr _ Y)<|rlc (.own _ Y) rln)<|.cons Y (roM D5) .nil)⟩
    ·
     refine ZM<|?_
     replace h := lx h ▸ ho1
     exact ⟨_, h, ES [some 0, some 1] (hhp := .cons Y (ro1 (by exact tZ_110.symm)<|rlc (.bptr _ Y)<|rlc (.own _ Y) rln)<|.cons Y (roM D5) .nil)⟩
   ·
    refine Tr<|bE h fun z h_z h=>Zol (Rw := R5) Znf (by kernel_rfl) (ov Y) Y Y Y (fun _=>Y) tZ_5 Y Y Y Y h_z [] Y<|Ra Y<|Ra Y<|Za<|?_
    obtain rfl := rt h
    exact Zg (Zo Y (.two (rb Y)<|rb Y))
theorem ZjD {p : api_Panel} {l : List api_Face} {r : Str × Int} (h : ZdD p l = some r) :
 CSpec Tryz.prog gl0 26 [.agg [.sl 49 (List.map R49 p.Instruments)], .sl 39 (List.map R39 l)] (.tuple [.str r.1, .int .i64 r.2]) := by
 unfold ZdD at h
 replace h := ZP h
 refine So Tryz.func26 Y fun w0 A=>Tr<|Rq Y (ZB (cva<|ov Y) Y tZ_24 Y)<|Ra Y<|Ra Y<|Za<|Zl<|K2 1 2 Y<|Tr<|Rq Y (Zi (ov Y) ZaH Y Y)<|bE h fun y h_y h=>Rq Y (Zj (Zej h_y)<|.cons (ov Y) (.aggB Y) .nil)<|Ra Y<|Za<|K3 1 2 6 Y<|Tr<|Rm Y<|R2 Z0 Y<|Za<|K4 1 2 6 13 Y<|If h Y (fun h=>?_) fun h=>?_
 ·
  refine K1 6 Y<|Tr<|Rm Y<|Ra Y<|Ra Y<|Za<|?_
  obtain rfl := rt h
  exact Zg (Zo Y (.two (rb Y)<|rb Y))
 ·
  refine Ze<|Zl<|K2 1 2 Y<|Tr<|Rm Y<|Rl tZ_39 ZfY Y<|Rq Y (Zc (ov Y) XO)<|Rq Y (Zb (ov Y) ZcQ Y)<|Rl tZ_49 Zar Y<|R2 Z0 Y<|Za<|K3 1 2 20 Y<|If h Y (fun h=>?_) fun h=>?_
  ·
   refine K0<|Tr<|Ra Y<|Ra Y<|Za<|?_
   obtain rfl := rt h
   exact Zg (Zo Y (.two (rb Y)<|rb Y))
  ·
   refine Ze<|K2 1 2 Y<|Tr<|Ra Y<|Za<|I1 (fun out=>⟨[(7, .str out)], []⟩) h (fun h=>?_) fun out h=>?_
   ·
    refine Tr<|Rm Y<|Rl tZ_39 ZfY Y<|Rm Y<|Za<|Zm<|?_
    obtain ⟨r1, hl1, ho1⟩ := Xt h
    refine L2 (fun out2 i=>⟨[(2, .rp [.sl 49 (List.map R49 p.Instruments)] 0), (7, .str out2), (21, .sl 39 (List.map R39 l)), (22, .int .i64 (l.length : Int)), (23, .int .i64 i)], []⟩) hl1 (ES []) fun n1 out2 i h=>?_
    unfold ZaS at h
    refine Tr<|R2 Z8 Y<|Za<|Zl<|If h Y (fun h=>?_) fun h=>?_
    ·
     refine Ze<|Zl<|Zm<|K5 2 7 21 22 23 Y<|Tr<|Rm Y<|bE h fun x h_x h=>Rq Y (ZJ (ov Y) (ov Y) ZfY h_x)<|Rq Y (Zi (ov Y) ZgN Y Y)<|Rx Y (ZC (row := [_, _, _, _]) 0 Y Zkk Y tZ_39)<|Ra Y<|Rx Y (Zk (ov Y) (ov Y) (Zn ZgN Y) Y Y Y (Nat.le_of_ble_eq_true Y) (Zd Y) Y)<|Za<|K7 2 7 8 9 21 22 23 Y<|Td md0<|D1 0 Zh Y<|Dq 1 Y (Zc (ov Y) XO)<|Dq 2 Y (Zb (ov Y) ZcQ Y)<|D1 3 Zh Y<|bE h fun x2 h_x2 h=>Dq 4 Y (ZJ (ov Y) (ov Y) Zar h_x2)<|Dq 5 Y (Zc (ov Y) ZfS)<|Dq 6 Y (Zb (ov Y) tS9 Y)<|bE h fun s h_s h=>Dq 7 Y (Zbe (ov Y) (ov Y) h_s)<|Dq 8 Y (Zf (ov Y) Y Y ZaY)<|Dq 9 Y (Zt (ov Y) Y Y Y tS9 Y)<|bE h fun s2 h_s2 h=>Dq 10 Y (Zbe (ov Y) (ov Y) h_s2)<|bE h fun s3 h_s3 h=>Dq 11 Y (Zbe (ov Y) (ov Y) h_s3)<|D1 12 QN Y<|Dd<|I1 (fun out3=>⟨[(2, .rp [.sl 49 (List.map R49 p.Instruments)] 0), (7, .str out3), (9, .ptr 0 1 0 0), (21, .sl 39 (List.map R39 l)), (22, .int .i64 (l.length : Int)), (23, .int .i64 i)], [some ⟨39, [[.str x.Text, .int .i64 x.Needle, .bool x.Lit, .int .i64 x.Mark]]⟩]⟩) h (fun h=>?_) fun out3 h=>?_
     ·
      refine K6 2 7 9 21 22 23 Y<|Tr<|Rq Y (Zf (ov Y) Y Y Zkb)<|Rq Y (Zt (ov Y) Y Y Y tS4 Y)<|Za<|K7 2 7 9 21 22 23 41 Y<|If h Y (fun h=>?_) fun h=>?_
      ·
       exact K6 2 7 9 21 22 23 Y<|Zx<|Rm Y<|bE h fun s4 h_s4 h=>Rq Y (Zbe (ov Y) (ov Y) h_s4)<|Ra Y<|Za<|⟨_, h, ES [some 0]⟩
      ·
       exact Ze<|⟨_, h, ES [some 0]⟩
     ·
      refine Zl<|Tr<|Rq Y (Zf (ov Y) Y Y Zlr)<|Rq Y (Zt (ov Y) Y Y Y tS3 Y)<|R2 Z0 Y<|Za<|K6 2 7 21 22 23 46 Y<|If h Y (fun h=>?_) fun h=>?_
      ·
       exact K5 2 7 21 22 23 Y<|Zx<|Rm Y<|bE h fun s5 h_s5 h=>Rq Y (Zbe (ov Y) (ov Y) h_s5)<|Ra Y<|Za<|K5 2 7 21 22 23 Y<|Zx<|Rm Y<|bE h fun s6 h_s6 h=>Rq Y (Zbe (ov Y) (ov Y) h_s6)<|Ra Y<|Za<|K5 2 7 21 22 23 Y<|Zx<|R2 QG Y<|Rm Y<|Za<|⟨_, h, ES []⟩
      ·
       exact Ze<|K5 2 7 21 22 23 Y<|Zx<|Rm Y<|bE h fun s7 h_s7 h=>Rq Y (Zbe (ov Y) (ov Y) h_s7)<|Ra Y<|Za<|K5 2 7 21 22 23 Y<|Zx<|R2 QG Y<|Rm Y<|Za<|⟨_, h, ES []⟩
    ·
     refine ZM<|?_
     replace h := lx h ▸ ho1
     exact ⟨_, h, ES []⟩
   ·
    refine Tr<|Rm Y<|Ra Y<|Ra Y<|Za<|?_
    obtain rfl := rt h
    exact Zg (Zo Y (.two (rb Y)<|rb Y))
theorem Zkt {xs r : List api_Instrument} (h : ZaG xs = some r) :
 GSpec Tryz.prog gl0 79 [.sl 49 (List.map R49 xs)] [] (.own 0 r.length) [some ⟨49, List.map R49 r⟩] := by
 have h2 : app [] xs = some r := h
 refine Zbf (by kernel_rfl) Tryz.func79 Y Y<|?_
 intro w0 A W φ0
 refine Tr<|Ra Y<|Za<|Zl<|Zl<|Zx<|Rm Y<|Ze3 (ov Y) Zoe Y fun b hb=>?_
 refine Za<|ZfT Y (fun hb2=>?_) fun hb2=>?_
 ·
  obtain rfl : xs = [] := by simpa using hb hb2
  obtain rfl : r = [] := by simpa [app, apz] using h2.symm
  exact Tr<|Ra Y<|Za<|Zg<|Zfn [none] Y (.cons (.tmp Y) .nil) (.row 49 .nil) Y Y<|.row Y
 ·
  exact Ze<|Tr<|Rx Y (ZfB (r := 0) (xs := []) (f := R49) Y Zar .nil Y Y Y)<|Rm Y<|Rx Y (Zbs (ov Y) (Jg (ov Y) tZ_49) Zar Y Y (fun _=>Zd Y) Y h2)<|Ra Y<|Za<|Zg<|Zfn [some 0] Y (.cons (.tmp Y) .nil) (.cons Y (roM D49) .nil) Y Y<|.own _ Y
theorem ZkN {xs r : List api_Zone} (h : ZaG xs = some r) :
 CSpec Tryz.prog gl0 80 [.sl 136 (List.map R136 xs)] (.sl 136 (List.map R136 r)) := by
 have h2 : app [] xs = some r := h
 refine So Tryz.func80 Y fun w0 A=>Tr<|Ra Y<|Za<|Zl<|Zl<|Zx<|Rm Y<|Ze3 (ov Y) Zot Y fun b hb=>?_
 refine Za<|ZfT Y (fun hb2=>?_) fun hb2=>?_
 ·
  obtain rfl : xs = [] := by simpa using hb hb2
  obtain rfl : r = [] := by simpa [app, apz] using h2.symm
  refine Tr<|Ra Y<|Za<|Zg<|Zo Y<|.one<|.tmp Y<|View.nils _
 ·
  refine Ze<|Tr<|Rx Y (ZfB (r := 0) (xs := []) (f := R136) Y Zgf .nil Y Y Y)<|Rm Y<|Rx Y (Zbs (ov Y) (Jg (ov Y) tZ_136) Zgf Y Y (fun _=>Zd Y) Y h2)<|Ra Y<|Za<|Zg<|Zo Y<|.one<|.tmp Y<|View.ownM Y Y D136
theorem ZgH {p : api_Panel} {r : api_Panel} (h : ZaI p = some r) :
 CSpec Tryz.prog gl0 38 [.agg [.sl 49 (List.map R49 p.Instruments)]] (.agg [.sl 49 (List.map R49 r.Instruments)]) := by
 unfold ZaI at h
 replace h := ZP h
 refine So Tryz.func38 Y fun w0 A=>Tr<|Rq Y (ZB (cva<|ov Y) Y tZ_24 Y)<|Rx Y (ZC (row := [_]) 0 Y Zms Y tZ_24)<|Za<|K2 1 2 Y<|Tr<|Rq Y (Zc (ov Y) XO)<|Rq Y (Zb (ov Y) ZcQ Y)<|bE h fun y h_y h=>Rx Y (Xp [] (Zkt h_y) (.cons (ov Y) (.dat Y) .nil) .nil Y (.keep Y Y<|.lent 0 (.inr ⟨Nat.le_of_ble_eq_true Y, Y⟩) Y (roM D49) .nil) Y Y<|.own _<|.inr ⟨Nat.le_of_ble_eq_true Y, Y⟩)<|Rq Y (QM (ys := [_]) Zn5 Zn2 Zms (.cons (cvs (ov Y)<|ZF Y) .nil) Y)<|Rx Y (ZC (row := [_]) 2 Y Zms Y tZ_24)<|Rx Y (Zk (ov Y) (ov Y) (Zn ZaH Y) Y Y Y (Nat.le_of_ble_eq_true Y) (Zd Y) Y)<|Za<|I1 (fun Instruments=>⟨[(2, .ptr 0 1 0 0), (3, .ptr 1 1 0 0)], [some ⟨24, [[.nils]]⟩, some ⟨24, [[.own 2 Instruments.length]]⟩, some ⟨49, List.map R49 Instruments⟩]⟩) h (fun h=>?_) fun Instruments h=>?_
 ·
  refine K2 2 3 Y<|Tr<|Rq Y (Zf (ov Y) Y Y XO)<|Rq Y (Zt (ov Y) Y Y Y ZcQ Y)<|Rq Y (Zfa (ov Y) Y Y Zar)<|Rm Y<|Za<|Zm<|?_
  obtain ⟨r1, hl1, ho1⟩ := Xt h
  refine L2 (fun Instruments2 i=>⟨[(2, .ptr 0 1 0 0), (3, .ptr 1 1 0 0), (11, .int .i64 (y.length : Int)), (12, .int .i64 i)], [some ⟨24, [[.nils]]⟩, some ⟨24, [[.own 2 Instruments2.length]]⟩, some ⟨49, List.map R49 Instruments2⟩]⟩) hl1 (ES [some 0, some 2, some 1]) fun n1 Instruments2 i h=>?_
  unfold ZaA at h
  refine Tr<|R2 Z8 Y<|Za<|Zl<|If h Y (fun h=>?_) fun h=>?_
  ·
   exact Ze<|Zl<|Zm<|K4 2 3 11 12 Y<|Tr<|Rm Y<|Ra Y<|Za<|K5 2 3 4 11 12 Y<|Zcf (cw := md0) (by kernel_rfl)<|Dq 0 Y (Zf (ov Y) Y Y XO)<|Dq 1 Y (Zt (ov Y) Y Y Y ZcQ Y)<|D1 2 Zh Y<|Dq 3 Y (Zf (ov Y) Y Y XO)<|Dq 4 Y (Zt (ov Y) Y Y Y ZcQ Y)<|D1 5 Zh Y<|bE h fun x h_x h=>Dq 6 Y (Zhy (ov Y) (ov Y) Zar Y Y h_x)<|Dq 7 Y (ZbN (ov Y) Y Y Zc8)<|Dq 8 Y (ZgZ (ov Y) Y Y h_x Zit Y)<|bE h fun y2 h_y2 h=>Dq 9 Y (Zj (ZkN h_y2)<|.cons (ov Y) (.b Y) .nil)<|bE h fun x2 h_x2 h=>Dq 10 Y (Zhy (ov Y) (ov Y) Zar Y Y h_x2)<|Dq 11 Y (ZbN (ov Y) Y Y Zc8)<|Do 12 Y (Zhd (u' := (api_Instrument.mk x2.Kind x2.Name x2.Track x2.Places x2.Low x2.High x2.Steps y2 x2.Op x2.N x2.Latch x2.Size)) (ov Y) (ov Y) (Zr Zit) Y Y h_x2 Y (Zd Y) Y)<|Dd<|K4 2 3 11 12 Y<|Zx<|R2 QG Y<|Rm Y<|Za<|⟨_, h, ES [some 0, some 1, some 2] (hhp := .cons Y (ro1 (by exact tZ_24.symm)<|rld Y)<|.cons Y (ro1 (by exact tZ_24.symm)<|rlc (Znx (Eq.symm<|(List.length_set ..).trans Y) Y) rln)<|.cons Y (roM D49) .nil)⟩
  ·
   refine ZM<|?_
   replace h := lx h ▸ ho1
   exact ⟨_, h, ES [some 0, some 1, some 2]⟩
 ·
  refine Tr<|Rq Y (ZW (ov Y) Y Y Y ZaH Y Y)<|Rx Y (Zk (ov Y) (ov Y) (Zn ZaH Y) Y Y Y (Nat.le_of_ble_eq_true Y) (Zd Y) Y)<|Za<|?_
  obtain rfl := rt h
  exact Zg (Zo Y (.one<|.agg Y Y Y Y ZaH Y Y<|.cons (View.ownM Y Y D49) .nil))
theorem Zkm {xs r : List api_Track} (h : ZaG xs = some r) :
 GSpec Tryz.prog gl0 81 [.sl 54 (List.map R54 xs)] [] (.own 0 r.length) [some ⟨54, List.map R54 r⟩] := by
 have h2 : app [] xs = some r := h
 refine Zbf (by kernel_rfl) Tryz.func81 Y Y<|?_
 intro w0 A W φ0
 refine Tr<|Ra Y<|Za<|Zl<|Zl<|Zx<|Rm Y<|Ze3 (ov Y) ZoI Y fun b hb=>?_
 refine Za<|ZfT Y (fun hb2=>?_) fun hb2=>?_
 ·
  obtain rfl : xs = [] := by simpa using hb hb2
  obtain rfl : r = [] := by simpa [app, apz] using h2.symm
  exact Tr<|Ra Y<|Za<|Zg<|Zfn [none] Y (.cons (.tmp Y) .nil) (.row 54 .nil) Y Y<|.row Y
 ·
  exact Ze<|Tr<|Rx Y (ZfB (r := 0) (xs := []) (f := R54) Y Zdl .nil Y Y Y)<|Rm Y<|Rx Y (Zbs (ov Y) (Jg (ov Y) tZ_54) Zdl Y Y (fun _=>Zd Y) Y h2)<|Ra Y<|Za<|Zg<|Zfn [some 0] Y (.cons (.tmp Y) .nil) (.cons Y (roM D54) .nil) Y Y<|.own _ Y
theorem Zk8 {xs r : List api_Sample} (h : ZaG xs = some r) :
 CSpec Tryz.prog gl0 82 [.sl 56 (List.map R56 xs)] (.sl 56 (List.map R56 r)) := by
 have h2 : app [] xs = some r := h
 refine So Tryz.func82 Y fun w0 A=>Tr<|Ra Y<|Za<|Zl<|Zl<|Zx<|Rm Y<|Ze3 (ov Y) Zok Y fun b hb=>?_
 refine Za<|ZfT Y (fun hb2=>?_) fun hb2=>?_
 ·
  obtain rfl : xs = [] := by simpa using hb hb2
  obtain rfl : r = [] := by simpa [app, apz] using h2.symm
  refine Tr<|Ra Y<|Za<|Zg<|Zo Y<|.one<|.tmp Y<|View.nils _
 ·
  refine Ze<|Tr<|Rx Y (ZfB (r := 0) (xs := []) (f := R56) Y Zer .nil Y Y Y)<|Rm Y<|Rx Y (Zbs (ov Y) (Jg (ov Y) tZ_56) Zer Y Y (fun _=>Zd Y) Y h2)<|Ra Y<|Za<|Zg<|Zo Y<|.one<|.tmp Y<|View.ownM Y Y D56
theorem Zga {l : List api_Track} {r : (List api_Track)} (h : J2 l = some r) :
 CSpec Tryz.prog gl0 39 [.sl 54 (List.map R54 l)] (.sl 54 (List.map R54 r)) := by
 unfold J2 at h
 replace h := ZP h
 refine So Tryz.func39 Y fun w0 A=>Tr<|Ra Y<|Za<|K1 0 Y<|Tr<|Rm Y<|bE h fun y h_y h=>Rx Y (Xp [] (Zkm h_y) (.cons (ov Y) (.dat Y) .nil) .nil Y (.lent 0 (.inr ⟨Nat.le_of_ble_eq_true Y, Y⟩) Y (roM D54) .nil) Y Y<|.own _<|.inr ⟨Nat.le_of_ble_eq_true Y, Y⟩)<|Ra Y<|Za<|I1 (fun out=>⟨[(3, .own 0 out.length)], [some ⟨54, List.map R54 out⟩]⟩) h (fun h=>?_) fun out h=>?_
 ·
  refine K1 3 Y<|Tr<|Rm Y<|Rq Y (Zfa (ov Y) Y Y Zdl)<|Rm Y<|Za<|Zm<|?_
  obtain ⟨r1, hl1, ho1⟩ := Xt h
  refine L2 (fun out2 i=>⟨[(3, .own 0 out2.length), (8, .int .i64 (y.length : Int)), (9, .int .i64 i)], [some ⟨54, List.map R54 out2⟩]⟩) hl1 (ES [some 0]) fun n1 out2 i h=>?_
  unfold JW at h
  refine Tr<|R2 Z8 Y<|Za<|Zl<|If h Y (fun h=>?_) fun h=>?_
  ·
   exact Ze<|Zl<|Zm<|K3 3 8 9 Y<|Tr<|Rm Y<|Ra Y<|Za<|K4 3 4 8 9 Y<|Zx<|Rm Y<|Rm Y<|Rm Y<|Rm Y<|bE h fun x h_x h=>Rq Y (Zhy (ov Y) (ov Y) Zdl Y Y h_x)<|Rq Y (ZbN (ov Y) Y Y ZfE)<|Rq Y (ZbN (ov Y) Y Y Za8)<|Rq Y (ZgZ (ov Y) Y Y h_x Zfx Y)<|bE h fun y2 h_y2 h=>Rq Y (Zj (Zk8 h_y2)<|.cons (ov Y) (.b Y) .nil)<|bE h fun x2 h_x2 h=>Rq Y (Zhy (ov Y) (ov Y) Zdl Y Y h_x2)<|Rq Y (ZbN (ov Y) Y Y ZfE)<|Rq Y (ZbN (ov Y) Y Y Za8)<|Rx Y (Zhd (u' := (api_Track.mk x2.Name (api_Series.mk x2.Series.Den y2) x2.Long)) (ov Y) (ov Y) (Zr Zfx) Y Y h_x2 Y (Zd Y) Y)<|Za<|K3 3 8 9 Y<|Zx<|R2 QG Y<|Rm Y<|Za<|⟨_, h, ES [some 0]<|sr 3 Y (Znx (Eq.symm<|(List.length_set ..).trans Y) Y)<|sd 8 Y Y<|sd 9 Y Y sn⟩
  ·
   refine ZM<|?_
   replace h := lx h ▸ ho1
   exact ⟨_, h, ES [some 0]⟩
 ·
  refine Tr<|Rm Y<|Ra Y<|Za<|?_
  obtain rfl := rt h
  exact Zg (Zo Y (.one<|.tmp Y<|View.ownM Y Y D54))
theorem Zjo {p : api_Panel} {r : api_PanelState} (h : ZcW p = some r) :
 CSpec Tryz.prog gl0 40 [.agg [.sl 49 (List.map R49 p.Instruments)]] (.agg [.int .i64 r.Frame, .sl 99 (List.map R99 r.Memos)]) := by
 unfold ZcW at h
 replace h := ZP h
 refine So Tryz.func40 Y fun w0 A=>Tr<|Rq Y (ZB (cva<|ov Y) Y tZ_24 Y)<|Rx Y (ZC (row := [_, _]) 0 Y ZdY Y tZ_44)<|Za<|K2 1 2 Y<|Tr<|Rq Y (Zc (ov Y) XO)<|Rq Y (Zb (ov Y) ZcQ Y)<|Rl tZ_49 Zar Y<|bE h fun l h_l h=>Rx Y (ZnE [none, none, none, none, some 3] (r := 1) (f := R99) (z0 := (api_Memo.mk false false 0 0 [])) Y (ov Y) (ov Y) Zcl Y Zki Y Y h_l)<|Rq Y (QM (ys := [_, _]) Zgn Zgp ZdY (.cons (cvs (ov Y)<|ZF Y)<|.cons (cvs (ov Y)<|ZF Y) .nil) Y)<|Rx Y (Zk (ov Y) (ov Y) (Zn Xe Y) Y Y Y (Nat.le_of_ble_eq_true Y) (Zd Y) Y)<|Za<|?_
 obtain rfl := rt h
 exact Zg (Zo Y (.one<|.agg Y Y Y Y Xe Y Y<|.cons (Dat.view<|.b Y)<|.cons (View.ownM Y Y D99) .nil))
theorem ZfW {p : api_Panel} {l : List api_Track} {keep : Int} {r : (Int) ⊕ (panel_Replay × Int)} (h : ZcC p l keep = some r) :
 GSpec Tryz.prog gl0 8 [.agg [.sl 49 (List.map R49 p.Instruments)], .sl 54 (List.map R54 l), .int .i64 keep] [] (Sum.elim (fun r => .tuple [.lit (.pointer none), .int .i64 r]) (fun r => .tuple [.ptr 0 1 0 0, .int .i64 r.2]) r) (Sum.elim (fun r => []) (fun r => [some ⟨91, [[.sl 49 (List.map R49 r.1.p.Instruments), .sl 54 (List.map R54 r.1.l), .int .i64 r.1.keep, .int .i64 r.1.state.Frame, .sl 99 (List.map R99 r.1.state.Memos), .own 1 r.1.kept.length, .own 2 r.1.marks.length]]⟩, some ⟨44, List.map R44 r.1.kept⟩, some ⟨120, List.map R120 r.1.marks⟩]) r) := by
 unfold ZcC at h
 replace h := ZP h
 refine Zbf (by kernel_rfl) Tryz.func8 Y Y<|?_
 intro w0 A W φ0
 refine Tr<|Rq Y (ZB (cva<|ov Y) Y tZ_24 Y)<|Ra Y<|Ra Y<|Za<|Zl<|K3 1 2 3 Y<|Tr<|Rq Y (Zi (ov Y) ZaH Y Y)<|Rm Y<|bE h fun y h_y h=>Rq Y (Zj (ZbG h_y)<|.cons (ov Y) (.aggB Y)<|.cons (ov Y) (.b Y) .nil)<|Ra Y<|Za<|K4 1 2 3 8 Y<|Tr<|Rm Y<|R2 Z0 Y<|Za<|K5 1 2 3 8 13 Y<|If h Y (fun h=>?_) fun h=>?_
 ·
  refine K1 8 Y<|Tr<|Rm Y<|Ra Y<|Ra Y<|Za<|?_
  obtain rfl := rt h
  exact Zg<|Zfn [] Y (.cons (.tmp Y)<|.cons (.tmp Y) .nil) .nil Y Y<|Zjt<|rlc (.dat Y)<|rlc (.dat Y) rln
 ·
  refine Ze<|Zl<|K3 1 2 3 Y<|Tr<|Rm Y<|bE h fun y2 h_y2 h=>Rq Y (Zj (Qm h_y2)<|.cons (ov Y) (.b Y)<|.cons (ov Y) (.b Y)<|.cons (ov Y) (.b Y) .nil)<|R1 Qe Y<|Za<|K4 1 2 3 17 Y<|If h Y (fun h=>?_) fun h=>?_
  ·
   refine K0<|Tr<|Ra Y<|Ra Y<|Za<|?_
   obtain rfl := rt h
   exact Zg<|Zfn [] Y (.cons (.tmp Y)<|.cons (.tmp Y) .nil) .nil Y Y<|Zjt<|rlc (.dat Y)<|rlc (.dat Y) rln
  ·
   refine Ze<|K3 1 2 3 Y<|Td md0<|Dq 0 Y (Zi (ov Y) ZaH Y Y)<|bE h fun y3 h_y3 h=>Dq 1 Y (Zj (ZgH h_y3)<|.cons (ov Y) (.aggB Y) .nil)<|D1 2 Zh Y<|bE h fun y4 h_y4 h=>Dq 3 Y (Zj (Zga h_y4)<|.cons (ov Y) (.b Y) .nil)<|D1 4 Zh Y<|Dq 5 Y (Zi (ov Y) ZaH Y Y)<|bE h fun y5 h_y5 h=>Dq 6 Y (Zj (Zjo h_y5)<|.cons (ov Y) (.aggB Y) .nil)<|Dq 7 Y (QM (ys := [_, _, _, _, _, _, _]) ZoW Zo5 Zpg (.cons (cva<|ov Y)<|.cons (cvs (ov Y)<|ZF Y)<|.cons (cvs (ov Y)<|ZF Y)<|.cons (cva<|ov Y) .nil) Y)<|Zib 8 _ _ Y (by kernel_rfl) Y Y (fun _=>Ext.app) (fun h=>by cases h) (ZlA 0 Y (ov Y) Zpn Y)<|D1 9 QN Y<|D1 10 QN Y<|Dd<|?_
   obtain rfl := rt h
   exact Zg<|Zfn [some 0, none, none] Y (.cons (.tmp Y)<|.cons (.tmp Y) .nil) (.cons Y (ro1 (by exact tZ_91.symm)<|rlc (.dat Y)<|rlc (.dat Y)<|rlc (.dat Y)<|rlc (.dat Y)<|rlc (.dat Y)<|rlc (.row Y)<|rlc (.row Y) rln)<|.row 44<|.row 120 .nil) Y Y<|Zjt<|rlc (.ptr _ _ _ Y)<|rlc (.dat Y) rln
theorem Zgx {p : api_Panel} {l : List api_Track} {keep : Int} {r : Int} (h : ZcC p l keep = some (.inl r)) :
    GSpec Tryz.prog gl0 8 [.agg [.sl 49 (List.map R49 p.Instruments)], .sl 54 (List.map R54 l), .int .i64 keep] [] (.tuple [.lit (.pointer none), .int .i64 r]) [] := ZfW h
theorem Zgw {p : api_Panel} {l : List api_Track} {keep : Int} {r : panel_Replay × Int} (h : ZcC p l keep = some (.inr r)) :
    GSpec Tryz.prog gl0 8 [.agg [.sl 49 (List.map R49 p.Instruments)], .sl 54 (List.map R54 l), .int .i64 keep] [] (.tuple [.ptr 0 1 0 0, .int .i64 r.2]) [some ⟨91, [[.sl 49 (List.map R49 r.1.p.Instruments), .sl 54 (List.map R54 r.1.l), .int .i64 r.1.keep, .int .i64 r.1.state.Frame, .sl 99 (List.map R99 r.1.state.Memos), .own 1 r.1.kept.length, .own 2 r.1.marks.length]]⟩, some ⟨44, List.map R44 r.1.kept⟩, some ⟨120, List.map R120 r.1.marks⟩] := ZfW h
theorem ZgV {p : api_Panel} {l : List api_Track} {s : api_PanelState} {r : api_PanelState} (h : Q8 p l s = some r) :
 GSpec Tryz.prog gl0 50 [.agg [.sl 49 (List.map R49 p.Instruments)], .sl 54 (List.map R54 l), .agg [.int .i64 s.Frame, .sl 99 (List.map R99 s.Memos)]] [] (.agg [.int .i64 r.Frame, .own 0 r.Memos.length]) [some ⟨99, List.map R99 r.Memos⟩] := by
 unfold Q8 at h
 replace h := ZP h
 refine Zbf (by kernel_rfl) Tryz.func50 Y Y<|?_
 intro w0 A W φ0
 refine Tr<|Rq Y (ZB (cva<|ov Y) Y tZ_24 Y)<|Rq Y (ZB (cva<|ov Y) Y tZ_44 Y)<|Rx Y (ZC (row := [_, _]) 0 Y ZdY Y tZ_44)<|Za<|K4 1 3 5 6 Y<|Tr<|Rq Y (Zc (ov Y) J8)<|Rq Y (Zb (ov Y) tS3 Y)<|R2 QG Y<|Rq Y (QM (ys := [_, _]) Zgn Zgp ZdY (.cons (cvs (ov Y)<|ZF Y) .nil) Y)<|Rx Y (ZC (row := [_, _]) 1 Y ZdY Y tZ_44)<|Rx Y (Zk (ov Y) (ov Y) (Zn Xe Y) Y Y Y (Nat.le_of_ble_eq_true Y) (Zd Y) Y)<|Za<|I1 (fun Memos=>⟨[(6, .ptr 0 1 0 0), (7, .ptr 1 1 0 0)], [some ⟨44, [[.int .i64 0, .nils]]⟩, some ⟨44, [[.int .i64 (i64 (s.Frame + 1)), .own 2 Memos.length]]⟩, some ⟨99, List.map R99 Memos⟩]⟩) h (fun h=>?_) fun Memos h=>?_
 ·
  refine K5 1 3 5 6 7 Y<|Tr<|Rq Y (Zc (ov Y) XO)<|Rq Y (Zb (ov Y) ZcQ Y)<|Rl tZ_49 Zar Y<|Rm Y<|Za<|Zm<|?_
  obtain ⟨r1, hl1, ho1⟩ := Xt h
  refine L2 (fun Memos2 i=>⟨[(1, .sl 54 (List.map R54 l)), (5, .rp [.int .i64 s.Frame, .sl 99 (List.map R99 s.Memos)] 0), (6, .ptr 0 1 0 0), (7, .ptr 1 1 0 0), (18, .sl 49 (List.map R49 p.Instruments)), (19, .int .i64 (p.Instruments.length : Int)), (20, .int .i64 i)], [some ⟨44, [[.int .i64 0, .nils]]⟩, some ⟨44, [[.int .i64 (i64 (s.Frame + 1)), .own 2 Memos2.length]]⟩, some ⟨99, List.map R99 Memos2⟩]⟩) hl1 (ES [some 0, some 1, none]) fun n1 Memos2 i h=>?_
  unfold QK at h
  refine Tr<|R2 Z8 Y<|Za<|Zl<|If h Y (fun h=>?_) fun h=>?_
  ·
   exact Ze<|Zl<|Zm<|K7 1 5 6 7 18 19 20 Y<|Tr<|Rm Y<|bE h fun x h_x h=>Rq Y (ZJ (ov Y) (ov Y) Zar h_x)<|Rq Y (Zi (ov Y) Zaf Y Y)<|Rx Y (ZC (row := [_, _, _, _, _, _, _, _, _, _, _, _]) 3 Y Zjy Y tZ_49)<|Ra Y<|Rx Y (Zk (ov Y) (ov Y) (Zn Zaf Y) Y Y Y (Nat.le_of_ble_eq_true Y) (Zd Y) Y)<|Za<|K9 1 5 6 7 8 9 18 19 20 Y<|Td md0<|Zb6 0 _ Y (by kernel_rfl) Y Y (fun hp'=>Zh<|ov Y)<|Zb6 1 _ Y (by kernel_rfl) Y Y (fun hp'=>Zh<|ov Y)<|Zb9 2 _ Y (by kernel_rfl) Y Y Y ExtW.refl (fun hp' hx=>ZW (ov Y) (hx.get Y Y) Y Y Zaf Y Y)<|bE h fun y h_y h=>Zb9 3 _ Y (by kernel_rfl) Y Y Y ExtW.refl (fun hp' hx=>Zj (Zbr h_y)<|.cons (ov Y) (.b Y)<|.cons (ov Y) (.aggB Y) .nil)<|bE h fun x2 h_x2 h=>Zb9 4 _ Y (by kernel_rfl) Y Y Y ExtW.refl (fun hp' hx=>ZJ (ov Y) (ov Y) Zdl h_x2)<|Zb9 5 _ Y (by kernel_rfl) Y Y Y ExtW.refl (fun hp' hx=>Zi (ov Y) ZeQ Y Y)<|Zb9 6 _ Y (by kernel_rfl) Y Y Y ExtW.refl (fun hp' hx=>Zf (ov Y) (hx.get Y Y) Y J8)<|Zb9 7 _ Y (by kernel_rfl) Y Y Y ExtW.refl (fun hp' hx=>Zt (ov Y) (hx.get Y Y) Y Y tS3 Y)<|bE h fun y2 h_y2 h=>Zb9 8 _ Y (by kernel_rfl) Y Y Y ExtW.refl (fun hp' hx=>Zj (Zdp h_y2)<|.cons (ov Y) (.aggB Y)<|.cons (ov Y) (.b Y) .nil)<|Zb6 9 _ Y (by kernel_rfl) Y Y (fun hp'=>Zh<|ov Y)<|Zb6 10 _ Y (by kernel_rfl) Y Y (fun hp'=>Zu (ov Y) Y)<|Zb6 11 _ Y (by kernel_rfl) Y Y (fun hp'=>Zu (ov Y) Y)<|Zib 12 _ _ Y (by kernel_rfl) Y Y (fun _=>Ext.app) (fun h=>by cases h) (ZC (row := [_, _, _]) 4 Y ZdU Y tZ_56)<|Do 13 Y (Zk (ov Y) (ov Y) (Zn Jq Y) Y Y Y (Nat.le_of_ble_eq_true Y) (Zd Y) Y)<|D1 14 QN Y<|Dd<|K11 1 5 6 7 8 9 10 11 18 19 20 Y<|Tr<|Rq Y (Zc (ov Y) Jt)<|Rq Y (Zb (ov Y) ZdV Y)<|Rm Y<|bE h fun x3 h_x3 h=>Rq Y (ZJ (ov Y) (ov Y) Zcl h_x3)<|Rq Y (Zi (ov Y) Zcc Y Y)<|Rx Y (ZC (row := [_, _, _, _, _]) 5 Y Zki Y tZ_99)<|Rx Y (Zk (ov Y) (ov Y) (Zn Zcc Y) Y Y Y (Nat.le_of_ble_eq_true Y) (Zd Y) Y)<|Za<|K11 1 5 6 7 9 10 11 12 18 19 20 Y<|Tr<|Rq Y (Zf (ov Y) Y Y X0)<|Rq Y (Zt (ov Y) Y Y Y Zdd Y)<|bE h fun y3 h_y3 h=>Rx Y (Xp [] (Zh3 h_y3) (.cons (ov Y) (.dat Y) .nil) .nil Y (.keep Y Y<|.keep Y Y<|.keep Y Y<|.keep Y Y<|.keep Y Y<|.keep Y Y<|.lent 0 (.inr ⟨Nat.le_of_ble_eq_true Y, Y⟩) Y (roM D3) .nil) Y Y<|.own _<|.inr ⟨Nat.le_of_ble_eq_true Y, Y⟩)<|Rq Y (Zf (ov Y) Y Y X0)<|Rx Y (Zk (ov Y) (ov Y) (Zr Zdd) Y Y Y (Nat.le_of_ble_eq_true Y) (Zd Y) Y)<|Za<|K11 1 5 6 7 9 10 11 12 18 19 20 Y<|Zh7 (Ent.sel [some 0, some 1, some 2, some 3, some 4, some 5, none] (sd 1 Y Y<|sd 5 Y Y<|sr 6 Y (.ptr (r' := 0) _ _ _ Y)<|sr 7 Y (.ptr (r' := 1) _ _ _ Y)<|sr 9 Y (.ptr (r' := 3) _ _ _ Y)<|sr 10 Y (.ptr (r' := 4) _ _ _ Y)<|sd 11 Y Y<|sr 12 Y (.ptr (r' := 5) _ _ _ Y)<|sd 18 Y Y<|sd 19 Y Y<|sd 20 Y Y sn) (.cons Y (ro1 (by exact tZ_44.symm)<|rlc (.dat Y)<|rlc (.dat Y) rln)<|.cons Y (ro1 (by exact tZ_44.symm)<|rlc (.dat Y)<|rlc (.own (r' := 2) _ Y) rln)<|.cons Y (roM D99)<|.cons Y (ro1 (by exact tZ_49.symm)<|rld Y)<|.cons Y (ro1 (by exact tZ_56.symm)<|rld Y)<|.cons Y (ro1 (by exact tZ_99.symm)<|rlc (.dat Y)<|rlc (.dat Y)<|rlc (.dat Y)<|rlc (.dat Y)<|rlc (Zfk Y Y Y D3) rln)<|.row 3 .nil) Y Y)<|Zcf (cw := md0) (by kernel_rfl)<|Dq 0 Y (Zf (ov Y) Y Y Jt)<|Dq 1 Y (Zt (ov Y) Y Y Y ZdV Y)<|Dq 2 Y (ZW (ov Y) Y Y Y Zaf Y Y)<|Dq 3 Y (ZW (ov Y) Y Y Y Zcc Y Y)<|Dq 4 Y (Zf (ov Y) Y Y Zbj)<|Dq 5 Y (Zt (ov Y) Y Y Y tS3 Y)<|D1 6 Zh Y<|bE h fun y4 h_y4 h=>Dq 7 Y (Zj (Zco h_y4)<|.cons (ov Y) (.aggB Y)<|.cons (ov Y) (.aggB Y)<|.cons (ov Y) (.b Y)<|.cons (ov Y) (.b Y) .nil)<|ZkD 8 (.sl 99<|List.map R99 ([y4] : List api_Memo)) Y (by kernel_rfl) Y Y (Jm Zcl (.cons (cva<|ov Y) Y (pwD Y) .nil) Y Y)<|bE h fun l2 h_l2 h=>Do 9 Y (Zbo (ov Y) (Jg (ov Y) tZ_99) Zcl Y Y Y (fun _=>Zd Y) Y h_l2)<|Dq 10 Y (Zf (ov Y) Y Y Jt)<|Do 11 Y (Zk (ov Y) (ov Y) (Zr ZdV) Y Y Y (Nat.le_of_ble_eq_true Y) (Zd Y) Y)<|Dd<|K7 1 5 6 7 18 19 20 Y<|Zx<|R2 QG Y<|Rm Y<|Za<|⟨_, h, ES [some 0, some 1, some 2]⟩
  ·
   refine ZM<|?_
   replace h := lx h ▸ ho1
   exact ⟨_, h, ES [some 0, some 1, some 2]⟩
 ·
  refine Tr<|Rq Y (ZW (ov Y) Y Y Y Xe Y Y)<|Rx Y (Zk (ov Y) (ov Y) (Zn Xe Y) Y Y Y (Nat.le_of_ble_eq_true Y) (Zd Y) Y)<|Za<|?_
  obtain rfl := rt h
  exact Zg<|Zfn [some 2] Y (.cons (.agg Y Y Y Y Xe Y Y) .nil) (.cons Y (roM D99) .nil) Y Y<|Zls<|rlc (.dat Y)<|rlc (.own _ Y) rln
theorem Xn {x : List api_PanelState} {target : Int} {cmp : api_PanelState → Int → Option Int} {r : Int × Bool} {cmp_f : FuncId} {cmp_c : List AV} (cmp_d : cmp_c.all datB = true) (cmp_h : ∀ (z0 : api_PanelState) (z1 : Int) z, cmp z0 z1 = some z → CSpec Tryz.prog gl0 cmp_f ([.agg [.int .i64 z0.Frame, .sl 99 (List.map R99 z0.Memos)], .int .i64 z1] ++ cmp_c) (.int .i64 z)) (h : ZE x target cmp = some r) :
 CSpec Tryz.prog gl0 85 [.sl 44 (List.map R44 x), .int .i64 target, .fn cmp_f cmp_c] (.tuple [.int .i64 r.1, .bool r.2]) := by
 unfold ZE at h
 replace h := ZP h
 refine So Tryz.func85 Y fun w0 A=>Tr<|Ra Y<|Ra Y<|Za<|K3 0 1 2 Y<|Tr<|Rm Y<|Rl tZ_44 ZfF Y<|Ra Y<|Za<|K4 0 1 2 8 Y<|Tr<|Rm Y<|Ra Y<|Ra Y<|Za<|I1 (fun i=>⟨[(0, .sl 44 (List.map R44 x)), (1, .int .i64 target), (2, .fn cmp_f cmp_c), (8, .int .i64 (x.length : Int)), (9, .int .i64 i)], []⟩) h (fun h=>?_) fun i h=>?_
 ·
  refine Zm<|?_
  obtain ⟨r1, hl1, ho1⟩ := Xt h
  refine L2 (fun i2 j=>⟨[(0, .sl 44 (List.map R44 x)), (1, .int .i64 target), (2, .fn cmp_f cmp_c), (8, .int .i64 (x.length : Int)), (9, .int .i64 i2), (10, .int .i64 j)], []⟩) hl1 (ES []<|sd 0 Y Y<|sd 1 Y Y<|sr 2 Y (rFn<|rld cmp_d)<|sd 8 Y Y<|sd 9 Y Y<|sd 10 Y Y sn) fun n1 i2 j h=>?_
  unfold ZI at h
  refine Zl<|Tr<|Rm Y<|Rm Y<|R2 Z8 Y<|Za<|K7 0 1 2 8 9 10 17 Y<|If h Y (fun h=>?_) fun h=>?_
  ·
   refine Ze<|Zm<|K6 0 1 2 8 9 10 Y<|Tr<|Rm Y<|Rm Y<|R2 QG Y<|Rq Y (ZgM (ov Y) tI3 ZlI Y)<|bE h fun q h_q h=>Rq Y (Zmd (ov Y) (ov Y) h_q)<|Rq Y (ZgM (ov Y) ZlI tI3 Y)<|Ra Y<|Za<|K7 0 1 2 8 9 10 11 Y<|Tr<|Rm Y<|Rm Y<|Rm Y<|bE h fun x2 h_x2 h=>Rq Y (ZJ (ov Y) (ov Y) ZfF h_x2)<|Rq Y (Zi (ov Y) Xe Y Y)<|Rm Y<|bE h fun y h_y h=>Rq Y (Zbq (ov Y) cmp_d (cmp_h _ _ _ h_y)<|.cons (ov Y) (.aggB Y)<|.cons (ov Y) (.b Y) .nil)<|R2 Z8 Y<|Za<|K8 0 1 2 8 9 10 11 31 Y<|If h Y (fun h=>?_) fun h=>?_
   ·
    exact K7 0 1 2 8 9 10 11 Y<|Zx<|Rm Y<|R2 QG Y<|Ra Y<|Za<|⟨_, h, ES []<|sd 0 Y Y<|sd 1 Y Y<|sr 2 Y (rFn<|rld cmp_d)<|sd 8 Y Y<|sd 9 Y Y<|sd 10 Y Y sn⟩
   ·
    exact K7 0 1 2 8 9 10 11 Y<|Zx<|Rm Y<|Ra Y<|Za<|⟨_, h, ES []<|sd 0 Y Y<|sd 1 Y Y<|sr 2 Y (rFn<|rld cmp_d)<|sd 8 Y Y<|sd 9 Y Y<|sd 10 Y Y sn⟩
  ·
   refine ZM<|?_
   replace h := lx h ▸ ho1
   exact ⟨_, h, ES []<|sd 0 Y Y<|sd 1 Y Y<|sr 2 Y (rFn<|rld cmp_d)<|sd 8 Y Y<|sd 9 Y Y sn⟩
 ·
  refine Tr<|Rm Y<|Rm Y<|Rm Y<|R2 Z8 Y<|Rm Y<|Rq Y (.guarded ((decide (i < (x.length : Int))) == true) Y Y Y Y fun h => Zh<|ov Y)<|Rq Y (.guarded ((decide (i < (x.length : Int))) == true) Y Y Y Y fun h => Zh<|ov Y)<|Rq Y (.guarded ((decide (i < (x.length : Int))) == true) Y Y Y Y fun h => Zh<|ov Y)<|bE h fun x3 h_x3 h=>Rq Y (.guarded ((decide (i < (x.length : Int))) == true) Y Y Y Y fun h => ZJ (ow Y h) (ow Y h) ZfF<|gdT h_x3 h)<|Rq Y (.guarded ((decide (i < (x.length : Int))) == true) Y Y Y Y fun h => Zi (ow Y h) Xe Y Y)<|Rq Y (.guarded ((decide (i < (x.length : Int))) == true) Y Y Y Y fun h => Zh<|ov Y)<|bE h fun y2 h_y2 h=>Rq Y (.guarded ((decide (i < (x.length : Int))) == true) Y Y Y Y fun h => Zbq (ow Y h) cmp_d (cmp_h _ _ _<|gdT h_y2 h)<|.cons (ow Y h) (.aggB Y)<|.cons (ow Y h) (.b Y) .nil)<|Rq Y (.guarded ((decide (i < (x.length : Int))) == true) Y Y Y Y fun h => ZY (ow Y h)<|ov Y)<|Rq Y (Z3 (ov Y) fun hp=>ow Y<|gT hp)<|Ra Y<|Ra Y<|Za<|?_
  obtain rfl := rt h
  exact Zg (Zo Y (.two (rb Y)<|rb Y))
theorem Zd9 {s : api_PanelState} {frame : Int} {r : Int} (h : Xr s frame = some r) :
 CSpec Tryz.prog gl0 86 [.agg [.int .i64 s.Frame, .sl 99 (List.map R99 s.Memos)], .int .i64 frame] (.int .i64 r) := by
 unfold Xr at h
 replace h := ZP h
 refine So Tryz.func86 Y fun w0 A=>Tr<|Rq Y (ZB (cva<|ov Y) Y tZ_44 Y)<|Ra Y<|Za<|K3 1 2 4 Y<|Tr<|Rq Y (Zc (ov Y) J8)<|Rq Y (Zb (ov Y) tS3 Y)<|Rm Y<|R2 Zes Y<|Ra Y<|Za<|?_
 obtain rfl := rt h
 exact Zg (Zo Y (.one<|rb Y))
theorem ZcT {r_ : panel_Replay} {frame : Int} {r : Int × Bool} (h : X4 r_ frame = some r) :
 GSpec Tryz.prog gl0 43 [.ptr 0 1 0 0, .int .i64 frame] [some ⟨91, [[.sl 49 (List.map R49 r_.p.Instruments), .sl 54 (List.map R54 r_.l), .int .i64 r_.keep, .int .i64 r_.state.Frame, .own 1 r_.state.Memos.length, .own 2 r_.kept.length, .own 3 r_.marks.length]]⟩, some ⟨99, List.map R99 r_.state.Memos⟩, some ⟨44, List.map R44 r_.kept⟩, some ⟨120, List.map R120 r_.marks⟩] (.tuple [.int .i64 r.1, .bool r.2]) [some ⟨91, [[.sl 49 (List.map R49 r_.p.Instruments), .sl 54 (List.map R54 r_.l), .int .i64 r_.keep, .int .i64 r_.state.Frame, .own 4 r_.state.Memos.length, .own 5 r_.kept.length, .own 6 r_.marks.length]]⟩, none, none, none, some ⟨99, List.map R99 r_.state.Memos⟩, some ⟨44, List.map R44 r_.kept⟩, some ⟨120, List.map R120 r_.marks⟩] := by
 unfold X4 at h
 replace h := ZP h
 refine Zbf (by kernel_rfl) Tryz.func43 Y Y<|?_
 intro w0 A W φ0
 refine Zh7 (Ent.sel [some 0, some 1, some 2, some 3, some 1, some 2, some 3] (sr 0 Y (.ptr (r' := 0) _ _ _ Y)<|sd 1 Y Y sn) (.cons Y (ro1 (by exact tZ_91.symm)<|rlc (.dat Y)<|rlc (.dat Y)<|rlc (.dat Y)<|rlc (.dat Y)<|rlc (.own (r' := 4) _ Y)<|rlc (.own (r' := 5) _ Y)<|rlc (.own (r' := 6) _ Y) rln)<|.dead<|.dead<|.dead<|.cons Y (roM D99)<|.cons Y (roM D44)<|.cons Y (roM D120) .nil) Y Y)<|Tr<|Ra Y<|Ra Y<|Za<|Tr<|Rm Y<|Rq Y (ZK (ov Y) Y Y)<|Rq Y (Zf (ov Y) Y Y Za4)<|Rq Y (Zt (ov Y) Y Y Y Zei Y)<|Rm Y<|bE h fun y h_y h=>Rq Y (ZiC (Xn Y (fun z0 z1 _ hz=>Zd9 hz) h_y) (.tuple<|by simp only [List.mem_cons, List.not_mem_nil, or_false, forall_eq_or_imp, forall_eq]; exact ⟨.int, .bool⟩)<|.cons (ov Y) (View.ownM Y Y D44)<|.cons (ov Y) (Dat.view<|.b Y)<|.cons (ov Y) (Dat.view .fn) .nil)<|Rq Y (Zu (ov Y) Y)<|Rq Y (Zu (ov Y) Y)<|Ra Y<|Ra Y<|Za<|?_
 obtain rfl := rt h
 exact Zg<|Zfn [some 0, some 1, some 2, some 3, some 4, some 5, some 6] Y (.cons (.tmp Y)<|.cons (.tmp Y) .nil) (.cons Y (ro1 (by exact tZ_91.symm)<|rlc (.dat Y)<|rlc (.dat Y)<|rlc (.dat Y)<|rlc (.dat Y)<|rlc (.own _ Y)<|rlc (.own _ Y)<|rlc (.own _ Y) rln)<|.dead<|.dead<|.dead<|.cons Y (roM D99)<|.cons Y (roM D44)<|.cons Y (roM D120) .nil) Y Y<|Zjt<|rlc (.dat Y)<|rlc (.dat Y) rln
theorem Zkv {xs r : List api_Memo} (h : ZaG xs = some r) :
 GSpec Tryz.prog gl0 83 [.sl 99 (List.map R99 xs)] [] (.own 0 r.length) [some ⟨99, List.map R99 r⟩] := by
 have h2 : app [] xs = some r := h
 refine Zbf (by kernel_rfl) Tryz.func83 Y Y<|?_
 intro w0 A W φ0
 refine Tr<|Ra Y<|Za<|Zl<|Zl<|Zx<|Rm Y<|Ze3 (ov Y) ZoA Y fun b hb=>?_
 refine Za<|ZfT Y (fun hb2=>?_) fun hb2=>?_
 ·
  obtain rfl : xs = [] := by simpa using hb hb2
  obtain rfl : r = [] := by simpa [app, apz] using h2.symm
  exact Tr<|Ra Y<|Za<|Zg<|Zfn [none] Y (.cons (.tmp Y) .nil) (.row 99 .nil) Y Y<|.row Y
 ·
  exact Ze<|Tr<|Rx Y (ZfB (r := 0) (xs := []) (f := R99) Y Zcl .nil Y Y Y)<|Rm Y<|Rx Y (Zbs (ov Y) (Jg (ov Y) tZ_99) Zcl Y Y (fun _=>Zd Y) Y h2)<|Ra Y<|Za<|Zg<|Zfn [some 0] Y (.cons (.tmp Y) .nil) (.cons Y (roM D99) .nil) Y Y<|.own _ Y
theorem Zam {s : api_PanelState} {r : api_PanelState} (h : ZaF s = some r) :
 CSpec Tryz.prog gl0 42 [.agg [.int .i64 s.Frame, .sl 99 (List.map R99 s.Memos)]] (.agg [.int .i64 r.Frame, .sl 99 (List.map R99 r.Memos)]) := by
 unfold ZaF at h
 replace h := ZP h
 refine So Tryz.func42 Y fun w0 A=>Tr<|Rx Y (ZlA 0 Y (ov Y) Xe Y)<|Rx Y (ZC (row := [_, _]) 1 Y ZdY Y tZ_44)<|Za<|K2 1 2 Y<|Tr<|Rq Y (Zf (ov Y) Y Y Jt)<|Rq Y (Zt (ov Y) Y Y Y ZdV Y)<|bE h fun y h_y h=>Rx Y (Xp [] (Zkv h_y) (.cons (ov Y) (.dat Y) .nil) .nil Y (.keep Y Y<|.keep Y Y<|.lent 0 (.inr ⟨Nat.le_of_ble_eq_true Y, Y⟩) Y (roM D99) .nil) Y Y<|.own _<|.inr ⟨Nat.le_of_ble_eq_true Y, Y⟩)<|Rq Y (Zf (ov Y) Y Y Jt)<|Rx Y (Zk (ov Y) (ov Y) (Zr ZdV) Y Y Y (Nat.le_of_ble_eq_true Y) (Zd Y) Y)<|Za<|I1 (fun Memos=>⟨[(1, .ptr 0 1 0 0), (2, .ptr 2 1 0 0)], [some ⟨44, [[.int .i64 s.Frame, .own 1 Memos.length]]⟩, some ⟨99, List.map R99 Memos⟩, some ⟨44, [[.int .i64 0, .nils]]⟩]⟩) h (fun h=>?_) fun Memos h=>?_
 ·
  refine K2 1 2 Y<|Tr<|Rq Y (Zf (ov Y) Y Y Jt)<|Rq Y (Zt (ov Y) Y Y Y ZdV Y)<|Rq Y (Zfa (ov Y) Y Y Zcl)<|Rm Y<|Za<|Zm<|?_
  obtain ⟨r1, hl1, ho1⟩ := Xt h
  refine L2 (fun Memos2 i=>⟨[(1, .ptr 0 1 0 0), (2, .ptr 2 1 0 0), (10, .int .i64 (y.length : Int)), (11, .int .i64 i)], [some ⟨44, [[.int .i64 s.Frame, .own 1 Memos2.length]]⟩, some ⟨99, List.map R99 Memos2⟩, some ⟨44, [[.int .i64 0, .nils]]⟩]⟩) hl1 (ES [some 0, some 2, some 1]) fun n1 Memos2 i h=>?_
  unfold Zal at h
  refine Tr<|R2 Z8 Y<|Za<|Zl<|If h Y (fun h=>?_) fun h=>?_
  ·
   exact Ze<|Zl<|Zm<|K4 1 2 10 11 Y<|Tr<|Rm Y<|Ra Y<|Za<|K5 1 2 3 10 11 Y<|Zcf (cw := md0) (by kernel_rfl)<|Dq 0 Y (Zf (ov Y) Y Y Jt)<|Dq 1 Y (Zt (ov Y) Y Y Y ZdV Y)<|D1 2 Zh Y<|Dq 3 Y (Zf (ov Y) Y Y Jt)<|Dq 4 Y (Zt (ov Y) Y Y Y ZdV Y)<|D1 5 Zh Y<|bE h fun x h_x h=>Dq 6 Y (Zhy (ov Y) (ov Y) Zcl Y Y h_x)<|Dq 7 Y (ZbN (ov Y) Y Y X0)<|Dq 8 Y (ZgZ (ov Y) Y Y h_x Zdd Y)<|bE h fun y2 h_y2 h=>Dq 9 Y (Zj (Zj2 h_y2)<|.cons (ov Y) (.b Y) .nil)<|bE h fun x2 h_x2 h=>Dq 10 Y (Zhy (ov Y) (ov Y) Zcl Y Y h_x2)<|Dq 11 Y (ZbN (ov Y) Y Y X0)<|Do 12 Y (Zhd (u' := (api_Memo.mk x2.Lit x2.Some x2.N x2.Count y2)) (ov Y) (ov Y) (Zr Zdd) Y Y h_x2 Y (Zd Y) Y)<|Dd<|K4 1 2 10 11 Y<|Zx<|R2 QG Y<|Rm Y<|Za<|⟨_, h, ES [some 0, some 1, some 2] (hhp := .cons Y (ro1 (by exact tZ_44.symm)<|rlc (.dat Y)<|rlc (Znx (Eq.symm<|(List.length_set ..).trans Y) Y) rln)<|.cons Y (roM D99)<|.cons Y (ro1 (by exact tZ_44.symm)<|rld Y) .nil)⟩
  ·
   refine ZM<|?_
   replace h := lx h ▸ ho1
   exact ⟨_, h, ES [some 0, some 1, some 2]⟩
 ·
  refine Tr<|Rq Y (ZW (ov Y) Y Y Y Xe Y Y)<|Rx Y (Zk (ov Y) (ov Y) (Zn Xe Y) Y Y Y (Nat.le_of_ble_eq_true Y) (Zd Y) Y)<|Za<|?_
  obtain rfl := rt h
  exact Zg (Zo Y (.one<|.agg Y Y Y Y Xe Y Y<|.cons (Dat.view<|.b Y)<|.cons (View.ownM Y Y D99) .nil))
theorem Zq {s : List api_PanelState} {i : Int} {v : List api_PanelState} {r : (List api_PanelState)} (h : ZQ s i v = some r) :
 GSpec Tryz.prog gl0 87 [.own 0 s.length, .int .i64 i, .sl 44 (List.map R44 v)] [some ⟨44, List.map R44 s⟩] (.own 0 r.length) [some ⟨44, List.map R44 r⟩] := by
 unfold ZQ at h
 replace h := ZP h
 refine Zbf (by kernel_rfl) Tryz.func87 Y Y<|?_
 intro w0 A W φ0
 refine Tr<|Ra Y<|Za<|K3 0 1 2 Y<|Tr<|Rm Y<|Rm Y<|bE h fun l h_l h=>R_q .any Y (Zmx (ov Y) Y Y ZfF (oi<|ov Y) on h_l)<|Za<|K3 0 1 2 Y<|Tr<|Rm Y<|Rl tZ_44 ZfF Y<|Ra Y<|Za<|Zl<|K4 0 1 2 7 Y<|Tr<|Rm Y<|R2 ZY Y<|Za<|K5 0 1 2 7 16 Y<|If h Y (fun h=>?_) fun h=>?_
 ·
  refine K1 0 Y<|Tr<|Rm Y<|Ra Y<|Za<|?_
  obtain rfl := rt h
  exact Zg<|Zfn [some 0] Y (.cons (.tmp Y) .nil) (.cons Y (roM D44) .nil) Y Y<|.own _ Y
 ·
  refine Ze<|K4 0 1 2 7 Y<|Tr<|Rm Y<|Rq Y (Zfa (ov Y) Y Y ZfF)<|Ra Y<|Za<|Zl<|K5 0 1 2 7 8 Y<|Tr<|Rm Y<|Rm Y<|R2 ZY Y<|Za<|K6 0 1 2 7 8 22 Y<|If h Y (fun h=>?_) fun h=>?_
  ·
   refine K2 0 2 Y<|Tr<|Rm Y<|Rm Y<|bE h fun l2 h_l2 h=>Rx Y (Zbs (ov Y) (Jg (ov Y) tZ_44) ZfF Y Y (fun _=>Zd Y) Y h_l2)<|Ra Y<|Za<|?_
   obtain rfl := rt h
   exact Zg<|Zfn [some 0] Y (.cons (.tmp Y) .nil) (.cons Y (roM D44) .nil) Y Y<|.own _ Y
  ·
   exact Ze<|Zl<|(ZlG h).elim
theorem ZbW {r_ : panel_Replay} {n : Int} {r : panel_Replay} (h : QY r_ n = some r) :
 GSpec Tryz.prog gl0 44 [.ptr 0 1 0 0, .int .i64 n] [some ⟨91, [[.sl 49 (List.map R49 r_.p.Instruments), .sl 54 (List.map R54 r_.l), .int .i64 r_.keep, .int .i64 r_.state.Frame, .sl 99 (List.map R99 r_.state.Memos), .own 1 r_.kept.length, .own 2 r_.marks.length]]⟩, some ⟨44, List.map R44 r_.kept⟩, some ⟨120, List.map R120 r_.marks⟩] (.tuple []) [some ⟨91, [[.sl 49 (List.map R49 r.p.Instruments), .sl 54 (List.map R54 r.l), .int .i64 r.keep, .int .i64 r.state.Frame, .sl 99 (List.map R99 r.state.Memos), .own 3 r.kept.length, .own 4 r.marks.length]]⟩, none, none, some ⟨44, List.map R44 r.kept⟩, some ⟨120, List.map R120 r.marks⟩] := by
 unfold QY at h
 replace h := ZP h
 refine Zbf (by kernel_rfl) Tryz.func44 Y Y<|?_
 intro w0 A W φ0
 refine Zh7 (Ent.sel [some 0, some 1, some 2, some 1, some 2] (sr 0 Y (.ptr (r' := 0) _ _ _ Y)<|sd 1 Y Y sn) (.cons Y (ro1 (by exact tZ_91.symm)<|rlc (.dat Y)<|rlc (.dat Y)<|rlc (.dat Y)<|rlc (.dat Y)<|rlc (.dat Y)<|rlc (.own (r' := 3) _ Y)<|rlc (.own (r' := 4) _ Y) rln)<|.dead<|.dead<|.cons Y (roM D44)<|.cons Y (roM D120) .nil) Y Y)<|Tr<|Rm Y<|Rm Y<|Za<|Zm<|?_
 obtain ⟨r1, hl1, ho1⟩ := Xt h
 refine L3 (fun state kept i=>⟨[(0, .ptr 0 1 0 0), (6, .int .i64 n), (7, .int .i64 i)], [some ⟨91, [[.sl 49 (List.map R49 r_.p.Instruments), .sl 54 (List.map R54 r_.l), .int .i64 r_.keep, .int .i64 state.Frame, .sl 99 (List.map R99 state.Memos), .own 3 kept.length, .own 4 r_.marks.length]]⟩, none, none, some ⟨44, List.map R44 kept⟩, some ⟨120, List.map R120 r_.marks⟩]⟩) hl1 (ES [some 0, some 1, some 2, some 3, some 4]) fun n1 state kept i h=>?_
 unfold Xf at h
 refine Tr<|R2 Z8 Y<|Za<|Zl<|If h Y (fun h=>?_) fun h=>?_
 ·
  refine Ze<|I3 (fun Frame Memos kept2=>⟨[(0, .ptr 0 1 0 0), (6, .int .i64 n), (7, .int .i64 i)], [some ⟨91, [[.sl 49 (List.map R49 r_.p.Instruments), .sl 54 (List.map R54 r_.l), .int .i64 r_.keep, .int .i64 Frame, .sl 99 (List.map R99 Memos), .own 3 kept2.length, .own 4 r_.marks.length]]⟩, none, none, some ⟨44, List.map R44 kept2⟩, some ⟨120, List.map R120 r_.marks⟩]⟩) h (fun h=>?_) fun Frame Memos kept2 h=>?_
  ·
   refine Zm<|K3 0 6 7 Y<|Td ⟨true, false, [], [], []⟩<|D1 1 Zh Y<|Dq 2 Y (ZK (ov Y) Y Y)<|Dq 3 Y (Zf (ov Y) Y Y ZmC)<|Dq 4 Y (ZW (ov Y) Y Y Y ZaH Y Y)<|D1 5 Zh Y<|Dq 6 Y (ZK (ov Y) Y Y)<|Dq 7 Y (Zf (ov Y) Y Y ZmZ)<|Dq 8 Y (Zt (ov Y) Y Y Y Znt Y)<|D1 9 Zh Y<|Dq 10 Y (ZK (ov Y) Y Y)<|Dq 11 Y (Zf (ov Y) Y Y ZgP)<|Dq 12 Y (ZW (ov Y) Y Y Y Xe Y Y)<|Zb6 0 _ Y (by kernel_rfl) Y Y (fun hp'=>Zh<|ov Y)<|bE h fun y h_y h=>Do 13 Y (Xp [] (ZgV h_y) (.cons (ov Y) (Zls<|rld Y)<|.cons (ov Y) (.dat Y)<|.cons (ov Y) (Zls<|rld Y) .nil) .nil Y (.keep Y Y<|.none<|.none<|.keep Y Y<|.keep Y Y<|.lent 0 (.inr ⟨Nat.le_of_ble_eq_true Y, Y⟩) Y (roM D99) .nil) Y Y<|Zls<|rlc (.dat Y)<|rlc (.own _<|.inr ⟨Nat.le_of_ble_eq_true Y, Y⟩) rln)<|Dq 14 Y (ZK (ov Y) Y Y)<|Dq 15 Y (Zf (ov Y) Y Y ZgP)<|Do 16 Y (Zk (ov Y) (ov Y) (Zn Xe Y) Y Y Y (Nat.le_of_ble_eq_true Y) (Zd Y) Y)<|Dd<|Zl<|K3 0 6 7 Y<|Td md0<|D1 0 Zh Y<|Dq 1 Y (ZK (ov Y) Y Y)<|Dq 2 Y (Zf (ov Y) Y Y ZgP)<|Dq 3 Y (Zf (ov Y) Y Y J8)<|Dq 4 Y (Zt (ov Y) Y Y Y tS3 Y)<|D1 5 Zh Y<|Dq 6 Y (ZK (ov Y) Y Y)<|Dq 7 Y (Zf (ov Y) Y Y Zm3)<|Dq 8 Y (Zt (ov Y) Y Y Y tS3 Y)<|bE h fun q h_q h=>Dq 9 Y (Zlu (ov Y) (ov Y) h_q)<|D1 10 Zh Y<|Dq 11 Y (ZK (ov Y) Y Y)<|Dq 12 Y (Zf (ov Y) Y Y Zm3)<|Dq 13 Y (Zt (ov Y) Y Y Y tS3 Y)<|D2 14 Zes Y<|D2 15 Z0 Y<|Dd<|K4 0 6 7 40 Y<|If h Y (fun h=>?_) fun h=>?_
   ·
    exact ZM<|⟨_, h, ES [some 0, some 1, some 2, some 3, some 4] (hhp := .cons Y (ro1 (by exact tZ_91.symm)<|rlc (.dat Y)<|rlc (.dat Y)<|rlc (.dat Y)<|rlc (.dat Y)<|rlc (Zfk Y Y Y D99)<|rlc (.own _ Y)<|rlc (.own _ Y) rln)<|.dead<|.dead<|.cons Y (roM D44)<|.cons Y (roM D120) .nil)⟩
   ·
    refine Ze<|K3 0 6 7 Y<|Tr<|Rm Y<|Rm Y<|Rq Y (ZK (ov Y) Y Y)<|Rq Y (Zf (ov Y) Y Y ZgP)<|Rq Y (Zf (ov Y) Y Y J8)<|Rq Y (Zt (ov Y) Y Y Y tS3 Y)<|bE h fun y2 h_y2 h=>Rx Y (Xp [0, 5, 3, 4] (ZcT h_y2) (.cons (ov Y) (.ptr _ _ _ Y)<|.cons (ov Y) (.dat Y) .nil) (.cons Y (ro1 (by exact tZ_91.symm)<|rlc (.dat Y)<|rlc (.dat Y)<|rlc (.dat Y)<|rlc (.dat Y)<|rlc (.own _ Y)<|rlc (.own _ Y)<|rlc (.own _ Y) rln)<|.cons Y (roM D99)<|.cons Y (roM D44)<|.cons Y (roM D120) .nil) Y (.lent 0 (.inl Y) Y (ro1 (by exact tZ_91.symm)<|rlc (.dat Y)<|rlc (.dat Y)<|rlc (.dat Y)<|rlc (.dat Y)<|rlc (.own _<|.inr ⟨Nat.le_of_ble_eq_true Y, Y⟩)<|rlc (.own _<|.inr ⟨Nat.le_of_ble_eq_true Y, Y⟩)<|rlc (.own _<|.inr ⟨Nat.le_of_ble_eq_true Y, Y⟩) rln)<|.none<|.none<|.none<|.none<|.none<|.lent 4 (.inr ⟨Nat.le_of_ble_eq_true Y, Y⟩) Y (roM D99)<|.lent 5 (.inr ⟨Nat.le_of_ble_eq_true Y, Y⟩) Y (roM D44)<|.lent 6 (.inr ⟨Nat.le_of_ble_eq_true Y, Y⟩) Y (roM D120) .nil) Y Y<|Zjt<|rld Y)<|Rm Y<|Rq Y (Zu (ov Y) Y)<|Rq Y (Zu (ov Y) Y)<|Ra Y<|Ra Y<|Za<|K5 0 4 5 6 7 Y<|Tr<|Rm Y<|R1 Qe Y<|Za<|K5 0 4 6 7 52 Y<|If h Y (fun h=>?_) fun h=>?_
    ·
     refine K4 0 4 6 7 Y<|Zh7 (Ent.sel [some 0, some 1, some 2, some 3, some 4, some 5, none, some 7, some 8] (sr 0 Y (.ptr (r' := 0) _ _ _ Y)<|sd 4 Y Y<|sd 6 Y Y<|sd 7 Y Y sn) (.cons Y (ro1 (by exact tZ_91.symm)<|rlc (.dat Y)<|rlc (.dat Y)<|rlc (.dat Y)<|rlc (.dat Y)<|rlc (Zfk Y Y Y D99)<|rlc (.own (r' := 7) _ Y)<|rlc (.own (r' := 8) _ Y) rln)<|.dead<|.dead<|.dead<|.dead<|.dead<|.row 99<|.cons Y (roM D44)<|.cons Y (roM D120) .nil) Y Y)<|Zcf (cw := ⟨true, false, [], [], []⟩) (by kernel_rfl)<|D1 6 Zh Y<|Dq 7 Y (ZK (ov Y) Y Y)<|Dq 8 Y (Zf (ov Y) Y Y ZgP)<|Dq 9 Y (ZW (ov Y) Y Y Y Xe Y Y)<|Zb6 0 _ Y (by kernel_rfl) Y Y (fun hp'=>Zh<|ov Y)<|Zb6 1 _ Y (by kernel_rfl) Y Y (fun hp'=>Zh<|ov Y)<|Zb6 5 _ Y (by kernel_rfl) Y Y (fun hp'=>Zh<|ov Y)<|bE h fun y3 h_y3 h=>Dw 2 10 Y (ZK (ov Y) Y Y) (Zb7<|Zj (Zam h_y3)<|.cons (ov Y) (.aggB Y) .nil) ?_ ?_
     ·
      refine Dw 3 10 Y (Zf (ov Y) Y Y Za4) (Zb7<|Zj (Zam h_y3)<|.cons (ov Y) (.aggB Y) .nil) ?_ ?_
      ·
       refine Dw 4 10 Y (Zt (ov Y) Y Y Y Zei Y) (Zb7<|Zj (Zam h_y3)<|.cons (ov Y) (.aggB Y) .nil) ?_ ?_
       ·
        exact Do 10 Y (Zb7<|Zj (Zam h_y3)<|.cons (ov Y) (.aggB Y) .nil)<|Zib 11 (.sl 44<|List.map R44 ([y3] : List api_PanelState)) _ Y (by kernel_rfl) Y Y (fun h=>by cases h) (fun h=>by cases h) (Zb7<|Jm ZfF (.cons (cva<|ov Y) Y (pwD Y) .nil) Y Y)<|bE h fun y4 h_y4 h=>Do 12 Y (Xp [7] (Zq h_y4) (.cons (ov Y) (.own _ Y)<|.cons (ov Y) (.dat Y)<|.cons (ov Y) (.dat Y) .nil) (.cons Y (roM D44) .nil) Y (.keep Y Y<|.none<|.none<|.none<|.none<|.none<|.keep Y Y<|.lent 0 (.inl Y) Y (roM D44)<|.keep Y Y .nil) Y Y<|.own _<|.inl Y)<|Dq 13 Y (ZK (ov Y) Y Y)<|Dq 14 Y (Zf (ov Y) Y Y Za4)<|Do 15 Y (Zk (ov Y) (ov Y) (Zr Zei) Y Y Y (Nat.le_of_ble_eq_true Y) (Zd Y) Y)<|Dd<|⟨_, h, ES [some 0, some 1, some 2, some 7, some 8]⟩
       ·
        refine Dw 4 11 Y (Zt (ov Y) Y Y Y Zei Y) (Zb7<|Jm ZfF (.cons (cva<|ov Y) Y (pwD Y) .nil) Y Y) ?_ ?_
        ·
         exact Zib 11 (.sl 44<|List.map R44 ([y3] : List api_PanelState)) _ Y (by kernel_rfl) Y Y (fun h=>by cases h) (fun h=>by cases h) (Zb7<|Jm ZfF (.cons (cva<|ov Y) Y (pwD Y) .nil) Y Y)<|bE h fun y4 h_y4 h=>Do 12 Y (Xp [7] (Zq h_y4) (.cons (ov Y) (.own _ Y)<|.cons (ov Y) (.dat Y)<|.cons (ov Y) (.dat Y) .nil) (.cons Y (roM D44) .nil) Y (.keep Y Y<|.none<|.none<|.none<|.none<|.none<|.keep Y Y<|.lent 0 (.inl Y) Y (roM D44)<|.keep Y Y .nil) Y Y<|.own _<|.inl Y)<|Dq 13 Y (ZK (ov Y) Y Y)<|Dq 14 Y (Zf (ov Y) Y Y Za4)<|Do 15 Y (Zk (ov Y) (ov Y) (Zr Zei) Y Y Y (Nat.le_of_ble_eq_true Y) (Zd Y) Y)<|Dd<|⟨_, h, ES [some 0, some 1, some 2, some 7, some 8]⟩
        ·
         exact Dq 4 Y (Zt (ov Y) Y Y Y Zei Y)<|bE h fun y4 h_y4 h=>Do 12 Y (Xp [7] (Zq h_y4) (.cons (ov Y) (.own _ Y)<|.cons (ov Y) (.dat Y)<|.cons (ov Y) (.dat Y) .nil) (.cons Y (roM D44) .nil) Y (.keep Y Y<|.none<|.none<|.none<|.none<|.none<|.keep Y Y<|.lent 0 (.inl Y) Y (roM D44)<|.keep Y Y .nil) Y Y<|.own _<|.inl Y)<|Dq 13 Y (ZK (ov Y) Y Y)<|Dq 14 Y (Zf (ov Y) Y Y Za4)<|Do 15 Y (Zk (ov Y) (ov Y) (Zr Zei) Y Y Y (Nat.le_of_ble_eq_true Y) (Zd Y) Y)<|Dd<|⟨_, h, ES [some 0, some 1, some 2, some 7, some 8]⟩
      ·
       refine Dw 3 11 Y (Zf (ov Y) Y Y Za4) (Zb7<|Jm ZfF (.cons (cva<|ov Y) Y (pwD Y) .nil) Y Y) ?_ ?_
       ·
        refine Dw 4 11 Y (Zt (ov Y) Y Y Y Zei Y) (Zb7<|Jm ZfF (.cons (cva<|ov Y) Y (pwD Y) .nil) Y Y) ?_ ?_
        ·
         exact Zib 11 (.sl 44<|List.map R44 ([y3] : List api_PanelState)) _ Y (by kernel_rfl) Y Y (fun h=>by cases h) (fun h=>by cases h) (Zb7<|Jm ZfF (.cons (cva<|ov Y) Y (pwD Y) .nil) Y Y)<|bE h fun y4 h_y4 h=>Do 12 Y (Xp [7] (Zq h_y4) (.cons (ov Y) (.own _ Y)<|.cons (ov Y) (.dat Y)<|.cons (ov Y) (.dat Y) .nil) (.cons Y (roM D44) .nil) Y (.keep Y Y<|.none<|.none<|.none<|.none<|.none<|.keep Y Y<|.lent 0 (.inl Y) Y (roM D44)<|.keep Y Y .nil) Y Y<|.own _<|.inl Y)<|Dq 13 Y (ZK (ov Y) Y Y)<|Dq 14 Y (Zf (ov Y) Y Y Za4)<|Do 15 Y (Zk (ov Y) (ov Y) (Zr Zei) Y Y Y (Nat.le_of_ble_eq_true Y) (Zd Y) Y)<|Dd<|⟨_, h, ES [some 0, some 1, some 2, some 7, some 8]⟩
        ·
         exact Dq 4 Y (Zt (ov Y) Y Y Y Zei Y)<|bE h fun y4 h_y4 h=>Do 12 Y (Xp [7] (Zq h_y4) (.cons (ov Y) (.own _ Y)<|.cons (ov Y) (.dat Y)<|.cons (ov Y) (.dat Y) .nil) (.cons Y (roM D44) .nil) Y (.keep Y Y<|.none<|.none<|.none<|.none<|.none<|.keep Y Y<|.lent 0 (.inl Y) Y (roM D44)<|.keep Y Y .nil) Y Y<|.own _<|.inl Y)<|Dq 13 Y (ZK (ov Y) Y Y)<|Dq 14 Y (Zf (ov Y) Y Y Za4)<|Do 15 Y (Zk (ov Y) (ov Y) (Zr Zei) Y Y Y (Nat.le_of_ble_eq_true Y) (Zd Y) Y)<|Dd<|⟨_, h, ES [some 0, some 1, some 2, some 7, some 8]⟩
       ·
        exact Dq 3 Y (Zf (ov Y) Y Y Za4)<|Dq 4 Y (Zt (ov Y) Y Y Y Zei Y)<|bE h fun y4 h_y4 h=>Do 12 Y (Xp [7] (Zq h_y4) (.cons (ov Y) (.own _ Y)<|.cons (ov Y) (.dat Y)<|.cons (ov Y) (.dat Y) .nil) (.cons Y (roM D44) .nil) Y (.keep Y Y<|.none<|.none<|.none<|.none<|.none<|.keep Y Y<|.lent 0 (.inl Y) Y (roM D44)<|.keep Y Y .nil) Y Y<|.own _<|.inl Y)<|Dq 13 Y (ZK (ov Y) Y Y)<|Dq 14 Y (Zf (ov Y) Y Y Za4)<|Do 15 Y (Zk (ov Y) (ov Y) (Zr Zei) Y Y Y (Nat.le_of_ble_eq_true Y) (Zd Y) Y)<|Dd<|⟨_, h, ES [some 0, some 1, some 2, some 7, some 8]⟩
     ·
      refine Dw 2 11 Y (ZK (ov Y) Y Y) (Zb7<|Jm ZfF (.cons (cva<|ov Y) Y (pwD Y) .nil) Y Y) ?_ ?_
      ·
       refine Dw 3 11 Y (Zf (ov Y) Y Y Za4) (Zb7<|Jm ZfF (.cons (cva<|ov Y) Y (pwD Y) .nil) Y Y) ?_ ?_
       ·
        refine Dw 4 11 Y (Zt (ov Y) Y Y Y Zei Y) (Zb7<|Jm ZfF (.cons (cva<|ov Y) Y (pwD Y) .nil) Y Y) ?_ ?_
        ·
         exact Zib 11 (.sl 44<|List.map R44 ([y3] : List api_PanelState)) _ Y (by kernel_rfl) Y Y (fun h=>by cases h) (fun h=>by cases h) (Zb7<|Jm ZfF (.cons (cva<|ov Y) Y (pwD Y) .nil) Y Y)<|bE h fun y4 h_y4 h=>Do 12 Y (Xp [7] (Zq h_y4) (.cons (ov Y) (.own _ Y)<|.cons (ov Y) (.dat Y)<|.cons (ov Y) (.dat Y) .nil) (.cons Y (roM D44) .nil) Y (.keep Y Y<|.none<|.none<|.none<|.none<|.none<|.keep Y Y<|.lent 0 (.inl Y) Y (roM D44)<|.keep Y Y .nil) Y Y<|.own _<|.inl Y)<|Dq 13 Y (ZK (ov Y) Y Y)<|Dq 14 Y (Zf (ov Y) Y Y Za4)<|Do 15 Y (Zk (ov Y) (ov Y) (Zr Zei) Y Y Y (Nat.le_of_ble_eq_true Y) (Zd Y) Y)<|Dd<|⟨_, h, ES [some 0, some 1, some 2, some 7, some 8]⟩
        ·
         exact Dq 4 Y (Zt (ov Y) Y Y Y Zei Y)<|bE h fun y4 h_y4 h=>Do 12 Y (Xp [7] (Zq h_y4) (.cons (ov Y) (.own _ Y)<|.cons (ov Y) (.dat Y)<|.cons (ov Y) (.dat Y) .nil) (.cons Y (roM D44) .nil) Y (.keep Y Y<|.none<|.none<|.none<|.none<|.none<|.keep Y Y<|.lent 0 (.inl Y) Y (roM D44)<|.keep Y Y .nil) Y Y<|.own _<|.inl Y)<|Dq 13 Y (ZK (ov Y) Y Y)<|Dq 14 Y (Zf (ov Y) Y Y Za4)<|Do 15 Y (Zk (ov Y) (ov Y) (Zr Zei) Y Y Y (Nat.le_of_ble_eq_true Y) (Zd Y) Y)<|Dd<|⟨_, h, ES [some 0, some 1, some 2, some 7, some 8]⟩
       ·
        exact Dq 3 Y (Zf (ov Y) Y Y Za4)<|Dq 4 Y (Zt (ov Y) Y Y Y Zei Y)<|bE h fun y4 h_y4 h=>Do 12 Y (Xp [7] (Zq h_y4) (.cons (ov Y) (.own _ Y)<|.cons (ov Y) (.dat Y)<|.cons (ov Y) (.dat Y) .nil) (.cons Y (roM D44) .nil) Y (.keep Y Y<|.none<|.none<|.none<|.none<|.none<|.keep Y Y<|.lent 0 (.inl Y) Y (roM D44)<|.keep Y Y .nil) Y Y<|.own _<|.inl Y)<|Dq 13 Y (ZK (ov Y) Y Y)<|Dq 14 Y (Zf (ov Y) Y Y Za4)<|Do 15 Y (Zk (ov Y) (ov Y) (Zr Zei) Y Y Y (Nat.le_of_ble_eq_true Y) (Zd Y) Y)<|Dd<|⟨_, h, ES [some 0, some 1, some 2, some 7, some 8]⟩
      ·
       exact Dq 2 Y (ZK (ov Y) Y Y)<|Dq 3 Y (Zf (ov Y) Y Y Za4)<|Dq 4 Y (Zt (ov Y) Y Y Y Zei Y)<|bE h fun y4 h_y4 h=>Do 12 Y (Xp [7] (Zq h_y4) (.cons (ov Y) (.own _ Y)<|.cons (ov Y) (.dat Y)<|.cons (ov Y) (.dat Y) .nil) (.cons Y (roM D44) .nil) Y (.keep Y Y<|.none<|.none<|.none<|.none<|.none<|.keep Y Y<|.lent 0 (.inl Y) Y (roM D44)<|.keep Y Y .nil) Y Y<|.own _<|.inl Y)<|Dq 13 Y (ZK (ov Y) Y Y)<|Dq 14 Y (Zf (ov Y) Y Y Za4)<|Do 15 Y (Zk (ov Y) (ov Y) (Zr Zei) Y Y Y (Nat.le_of_ble_eq_true Y) (Zd Y) Y)<|Dd<|⟨_, h, ES [some 0, some 1, some 2, some 7, some 8]⟩
    ·
     exact Ze<|⟨_, h, ES [some 0, some 1, some 2, some 7, some 8] (hhp := .cons Y (ro1 (by exact tZ_91.symm)<|rlc (.dat Y)<|rlc (.dat Y)<|rlc (.dat Y)<|rlc (.dat Y)<|rlc (Zfk Y Y Y D99)<|rlc (.own _ Y)<|rlc (.own _ Y) rln)<|.dead<|.dead<|.cons Y (roM D44)<|.cons Y (roM D120) .nil)⟩
  ·
   exact Zx<|R2 QG Y<|Rm Y<|Za<|⟨_, h, ES [some 0, some 1, some 2, some 3, some 4]⟩
 ·
  refine ZM<|?_
  replace h := lx h ▸ ho1
  obtain rfl := rt h
  exact Zo4 [some 0, some 1, some 2, some 3, some 4] Y .nil (.cons Y (ro1 (by exact tZ_91.symm)<|rlc (.dat Y)<|rlc (.dat Y)<|rlc (.dat Y)<|rlc (.dat Y)<|rlc (.dat Y)<|rlc (.own _ Y)<|rlc (.own _ Y) rln)<|.dead<|.dead<|.cons Y (roM D44)<|.cons Y (roM D120) .nil) Y Y<|Zjt rln
theorem Zcx {r_ : panel_Replay} {n : Int} {r : Int × panel_Replay} (h : XH r_ n = some r) :
 GSpec Tryz.prog gl0 10 [.ptr 0 1 0 0, .int .i64 n] [some ⟨91, [[.sl 49 (List.map R49 r_.p.Instruments), .sl 54 (List.map R54 r_.l), .int .i64 r_.keep, .int .i64 r_.state.Frame, .sl 99 (List.map R99 r_.state.Memos), .own 1 r_.kept.length, .own 2 r_.marks.length]]⟩, some ⟨44, List.map R44 r_.kept⟩, some ⟨120, List.map R120 r_.marks⟩] (.int .i64 r.1) [some ⟨91, [[.sl 49 (List.map R49 r.2.p.Instruments), .sl 54 (List.map R54 r.2.l), .int .i64 r.2.keep, .int .i64 r.2.state.Frame, .sl 99 (List.map R99 r.2.state.Memos), .own 3 r.2.kept.length, .own 4 r.2.marks.length]]⟩, none, none, some ⟨44, List.map R44 r.2.kept⟩, some ⟨120, List.map R120 r.2.marks⟩] := by
 unfold XH at h
 replace h := ZP h
 refine Zbf (by kernel_rfl) Tryz.func10 Y Y<|?_
 intro w0 A W φ0
 refine Zh7 (Ent.sel [some 0, some 1, some 2, some 1, some 2] (sr 0 Y (.ptr (r' := 0) _ _ _ Y)<|sd 1 Y Y sn) (.cons Y (ro1 (by exact tZ_91.symm)<|rlc (.dat Y)<|rlc (.dat Y)<|rlc (.dat Y)<|rlc (.dat Y)<|rlc (.dat Y)<|rlc (.own (r' := 3) _ Y)<|rlc (.own (r' := 4) _ Y) rln)<|.dead<|.dead<|.cons Y (roM D44)<|.cons Y (roM D120) .nil) Y Y)<|Tr<|Ra Y<|Za<|Zl<|K2 0 1 Y<|Tr<|Rm Y<|R2 Z8 Y<|Rm Y<|Rq Y (.guarded ((decide (n < 0)) == false) Y Y Y Y fun h => Zh<|ov Y)<|Rq Y (.guarded ((decide (n < 0)) == false) Y Y Y Y fun h => Zh<|ov Y)<|Rq Y (.guarded ((decide (n < 0)) == false) Y Y Y Y fun h => ZK (ow Y h) Y Y)<|Rq Y (.guarded ((decide (n < 0)) == false) Y Y Y Y fun h => Zf (ow Y h) Y Y ZgP)<|Rq Y (.guarded ((decide (n < 0)) == false) Y Y Y Y fun h => Zf (ow Y h) Y Y J8)<|Rq Y (.guarded ((decide (n < 0)) == false) Y Y Y Y fun h => Zt (ow Y h) Y Y Y tS3 Y)<|Rq Y (.guarded ((decide (n < 0)) == false) Y Y Y Y fun h => Zho (ov Y) (ow Y h) Y)<|Rq Y (.guarded ((decide (n < 0)) == false) Y Y Y Y fun h => QP (ow Y h)<|ow Y h)<|Rq Y (QR (ov Y) fun hp=>ow Y<|gF hp)<|Za<|K3 0 1 16 Y<|If h Y (fun h=>?_) fun h=>?_
 ·
  refine K0<|Tr<|Ra Y<|Za<|?_
  obtain rfl := rt h
  exact Zg<|Zfn [some 0, some 1, some 2, some 3, some 4] Y (.cons (.tmp Y) .nil) (.cons Y (ro1 (by exact tZ_91.symm)<|rlc (.dat Y)<|rlc (.dat Y)<|rlc (.dat Y)<|rlc (.dat Y)<|rlc (.dat Y)<|rlc (.own _ Y)<|rlc (.own _ Y) rln)<|.dead<|.dead<|.cons Y (roM D44)<|.cons Y (roM D120) .nil) Y Y<|.dat Y
 ·
  refine Ze<|K2 0 1 Y<|Tr<|Rm Y<|Rm Y<|bE h fun y h_y h=>Rx Y (Xp [0, 3, 4] (ZbW h_y) (.cons (ov Y) (.ptr _ _ _ Y)<|.cons (ov Y) (.dat Y) .nil) (.cons Y (ro1 (by exact tZ_91.symm)<|rlc (.dat Y)<|rlc (.dat Y)<|rlc (.dat Y)<|rlc (.dat Y)<|rlc (.dat Y)<|rlc (.own _ Y)<|rlc (.own _ Y) rln)<|.cons Y (roM D44)<|.cons Y (roM D120) .nil) Y (.lent 0 (.inl Y) Y (ro1 (by exact tZ_91.symm)<|rlc (.dat Y)<|rlc (.dat Y)<|rlc (.dat Y)<|rlc (.dat Y)<|rlc (.dat Y)<|rlc (.own _<|.inr ⟨Nat.le_of_ble_eq_true Y, Y⟩)<|rlc (.own _<|.inr ⟨Nat.le_of_ble_eq_true Y, Y⟩) rln)<|.none<|.none<|.none<|.none<|.lent 3 (.inr ⟨Nat.le_of_ble_eq_true Y, Y⟩) Y (roM D44)<|.lent 4 (.inr ⟨Nat.le_of_ble_eq_true Y, Y⟩) Y (roM D120) .nil) Y Y<|Zjt<|rld Y)<|Za<|K0<|Tr<|Ra Y<|Za<|?_
  obtain rfl := rt h
  exact Zg<|Zfn [some 0, some 1, some 2, some 5, some 6] Y (.cons (.tmp Y) .nil) (.cons Y (ro1 (by exact tZ_91.symm)<|rlc (.dat Y)<|rlc (.dat Y)<|rlc (.dat Y)<|rlc (.dat Y)<|rlc (.dat Y)<|rlc (.own _ Y)<|rlc (.own _ Y) rln)<|.dead<|.dead<|.cons Y (roM D44)<|.cons Y (roM D120) .nil) Y Y<|.dat Y
theorem Zdb {r_ : panel_Replay} {r : (List api_Face)} (h : Ji r_ = some r) :
 GSpec Tryz.prog gl0 13 [.ptr 0 1 0 0] [some ⟨91, [[.sl 49 (List.map R49 r_.p.Instruments), .sl 54 (List.map R54 r_.l), .int .i64 r_.keep, .int .i64 r_.state.Frame, .sl 99 (List.map R99 r_.state.Memos), .own 1 r_.kept.length, .own 2 r_.marks.length]]⟩, some ⟨44, List.map R44 r_.kept⟩, some ⟨120, List.map R120 r_.marks⟩] (.sl 39 (List.map R39 r)) [some ⟨91, [[.sl 49 (List.map R49 r_.p.Instruments), .sl 54 (List.map R54 r_.l), .int .i64 r_.keep, .int .i64 r_.state.Frame, .sl 99 (List.map R99 r_.state.Memos), .own 3 r_.kept.length, .own 4 r_.marks.length]]⟩, none, none, some ⟨44, List.map R44 r_.kept⟩, some ⟨120, List.map R120 r_.marks⟩] := by
 unfold Ji at h
 replace h := ZP h
 refine Zbf (by kernel_rfl) Tryz.func13 Y Y<|?_
 intro w0 A W φ0
 refine Zh7 (Ent.sel [some 0, some 1, some 2, some 1, some 2] (sr 0 Y (.ptr (r' := 0) _ _ _ Y) sn) (.cons Y (ro1 (by exact tZ_91.symm)<|rlc (.dat Y)<|rlc (.dat Y)<|rlc (.dat Y)<|rlc (.dat Y)<|rlc (.dat Y)<|rlc (.own (r' := 3) _ Y)<|rlc (.own (r' := 4) _ Y) rln)<|.dead<|.dead<|.cons Y (roM D44)<|.cons Y (roM D120) .nil) Y Y)<|Tr<|Ra Y<|Za<|Td md0<|D1 0 Zh Y<|Dq 1 Y (ZK (ov Y) Y Y)<|Dq 2 Y (Zf (ov Y) Y Y ZmC)<|Dq 3 Y (ZW (ov Y) Y Y Y ZaH Y Y)<|D1 4 Zh Y<|Dq 5 Y (ZK (ov Y) Y Y)<|Dq 6 Y (Zf (ov Y) Y Y ZmZ)<|Dq 7 Y (Zt (ov Y) Y Y Y Znt Y)<|D1 8 Zh Y<|Dq 9 Y (ZK (ov Y) Y Y)<|Dq 10 Y (Zf (ov Y) Y Y ZgP)<|Dq 11 Y (ZW (ov Y) Y Y Y Xe Y Y)<|bE h fun y h_y h=>Dq 12 Y (Zj (ZfZ h_y)<|.cons (ov Y) (.aggB Y)<|.cons (ov Y) (.b Y)<|.cons (ov Y) (.aggB Y) .nil)<|D1 13 QN Y<|Dd<|?_
 obtain rfl := rt h
 exact Zg<|Zfn [some 0, some 1, some 2, some 3, some 4] Y (.cons (.tmp Y) .nil) (.cons Y (ro1 (by exact tZ_91.symm)<|rlc (.dat Y)<|rlc (.dat Y)<|rlc (.dat Y)<|rlc (.dat Y)<|rlc (.dat Y)<|rlc (.own _ Y)<|rlc (.own _ Y) rln)<|.dead<|.dead<|.cons Y (roM D44)<|.cons Y (roM D120) .nil) Y Y<|.dat Y
theorem ZjA  {r : Bool} (h : Zcy  = some r) :
 CSpec Tryz.prog gl0 16 [] (.bool r) := by
 unfold Zcy at h
 replace h := ZP h
 refine So Tryz.func16 Y fun w0 A=>Tr<|Ra Y<|Za<|K0<|Tr<|Rq Y (QM (ys := [_, _, _, _, _, _, _, _, _, _, _, _]) ZoK Zpc Zjy (.cons (cvs (ov Y)<|ZF Y)<|.cons (cvs (ov Y)<|ZF Y)<|.cons (cvs (ov Y)<|ZF Y)<|.cons (cvs (ov Y)<|ZF Y) .nil) Y)<|R_q (.sl 49<|List.map R49 ([(api_Instrument.mk 1 [97] [116] 1 0 0 0 [] 0 0 false 0)] : List api_Instrument)) Y (Jm Zar (.cons (cva<|ov Y) Y (.cons (.b Y)<|.cons (.b Y)<|.cons (.b Y)<|.cons (.b Y)<|.cons (.b Y)<|.cons (.b Y)<|.cons (.b Y)<|.cons (Dat.nils _)<|.cons (.b Y)<|.cons (.b Y)<|.cons (.b Y)<|.cons (.b Y) .nil) .nil) Y Y)<|Rq Y (QM (ys := [_]) Zn5 Zn2 Zms (.cons (cvs (ov Y)<|ZF Y) .nil) Y)<|Rx Y (ZC (row := [_]) 0 Y Zms Y tZ_24)<|Rx Y (Zk (ov Y) (ov Y) (Zn ZaH Y) Y Y Y (Nat.le_of_ble_eq_true Y) (Zd Y) Y)<|Za<|K1 1 Y<|Tr<|Rq Y (QM (ys := [_, _, _]) ZiT ZiJ ZdU (.cons (cvs (ov Y)<|ZF Y)<|.cons (cvs (ov Y)<|ZF Y)<|.cons (cvs (ov Y)<|ZF Y) .nil) Y)<|R_q (.sl 56<|List.map R56 ([(api_Sample.mk 70 (-3) 4)] : List api_Sample)) Y (Jm Zer (.cons (cva<|ov Y) Y (pwD Y) .nil) Y Y)<|Rq Y (QM (ys := [_, _]) Zo7 Zpa Zph (.cons (cvs (ov Y)<|ZF Y)<|.cons (cvs (ov Y)<|ZF Y) .nil) Y)<|Rq Y (QM (ys := [_, _, _, _]) Zn6 Zn1 Zkr (.cons (cvs (ov Y)<|ZF Y)<|.cons (cva<|ov Y)<|.cons (cvs (ov Y)<|ZF Y) .nil) Y)<|R_q (.sl 54<|List.map R54 ([(api_Track.mk [116] (api_Series.mk 2 ([(api_Sample.mk 70 (-3) 4)] : List api_Sample)) 100)] : List api_Track)) Y (Jm Zdl (.cons (cva<|ov Y) Y (pwD Y) .nil) Y Y)<|Ra Y<|Za<|K2 1 2 Y<|Tr<|Rq Y (ZW (ov Y) Y Y Y ZaH Y Y)<|Rm Y<|bE h fun y h_y h=>?_
 rcases y with y | y
 ·
  replace h := ell h
  refine Rx Y (Xp [] (Zgx h_y) (.cons (ov Y) (Zls<|rld Y)<|.cons (ov Y) (.dat Y)<|.cons (ov Y) (.dat Y) .nil) .nil Y (.keep Y Y .nil) Y Y<|Zjt<|rlc (.dat Y)<|rlc (.dat Y) rln)<|Rm Y<|Rq Y (Zu (ov Y) Y)<|Rq Y (Zu (ov Y) Y)<|Ra Y<|Ra Y<|Za<|Zl<|K2 3 4 Y<|Tr<|Rm Y<|R2 Z0 Y<|Rm Y<|Rq Y (.guarded ((!decide (y = 0)) == false) Y Y Y Y fun h => Zh<|ov Y)<|bE h fun u h_u h=>R_q (.when ((!decide (y = 0)) == false)<|.int .i64 0) Y (.guarded ((!decide (y = 0)) == false) Y Y Y Y fun h => ZnU<|gdT h_u h)<|Rq Y (.guarded ((!decide (y = 0)) == false) Y Y Y Y fun h => Z0 (ow Y h)<|ov Y)<|Rq Y (QR (ov Y) fun hp=>ow Y<|gF hp)<|Za<|K2 3 26 Y<|If h Y (fun h=>?_) fun h=>?_
  ·
   refine K0<|Tr<|Ra Y<|Za<|?_
   obtain rfl := rt h
   exact Zg (Zo Y (.one<|rb Y))
  ·
   exact Ze<|(ZlG h).elim
 ·
  replace h := elr h
  refine Rx Y (Xp [] (Zgw h_y) (.cons (ov Y) (Zls<|rld Y)<|.cons (ov Y) (.dat Y)<|.cons (ov Y) (.dat Y) .nil) .nil Y (.keep Y Y<|.lent 0 (.inr ⟨Nat.le_of_ble_eq_true Y, Y⟩) Y (ro1 (by exact tZ_91.symm)<|rlc (.dat Y)<|rlc (.dat Y)<|rlc (.dat Y)<|rlc (.dat Y)<|rlc (.dat Y)<|rlc (.own _<|.inr ⟨Nat.le_of_ble_eq_true Y, Y⟩)<|rlc (.own _<|.inr ⟨Nat.le_of_ble_eq_true Y, Y⟩) rln)<|.lent 1 (.inr ⟨Nat.le_of_ble_eq_true Y, Y⟩) Y (roM D44)<|.lent 2 (.inr ⟨Nat.le_of_ble_eq_true Y, Y⟩) Y (roM D120) .nil) Y Y<|Zjt<|rlc (.ptr _ _ _<|.inr ⟨Nat.le_of_ble_eq_true Y, Y⟩)<|rlc (.dat Y) rln)<|Rm Y<|Rq Y (Zu (ov Y) Y)<|Rq Y (Zu (ov Y) Y)<|Ra Y<|Ra Y<|Za<|J6 (fun j => (.inr j)) (fun p l keep state kept marks=>⟨[(3, .ptr 0 1 0 0)], [some ⟨91, [[.sl 49 (List.map R49 p.Instruments), .sl 54 (List.map R54 l), .int .i64 keep, .int .i64 state.Frame, .sl 99 (List.map R99 state.Memos), .own 1 kept.length, .own 2 marks.length]]⟩, some ⟨44, List.map R44 kept⟩, some ⟨120, List.map R120 marks⟩]⟩) h (fun h=>?_) fun p l keep state kept marks h=>?_
  ·
   refine K2 3 4 Y<|Tr<|Rm Y<|R2 Z0 Y<|Rm Y<|Rq Y (.guarded ((!decide (y.2 = 0)) == false) Y Y Y Y fun h => Zh<|ov Y)<|?_
   rcases ifR h with ⟨hg, h⟩ | ⟨hg, h⟩
   ·
    refine ZnX (d := 22) (b' := false) Y (Zpf hg)<|bE h fun y2 h_y2 h=>Zpo _ _ Y Y Y Y (Xp [1, 2, 3] (Zcx h_y2) (.cons (ow Y<|by simp_all) (.ptr _ _ _ Y)<|.cons (ov Y) (.dat Y) .nil) (.cons Y (ro1 (by exact tZ_91.symm)<|rlc (.dat Y)<|rlc (.dat Y)<|rlc (.dat Y)<|rlc (.dat Y)<|rlc (.dat Y)<|rlc (.own _ Y)<|rlc (.own _ Y) rln)<|.cons Y (roM D44)<|.cons Y (roM D120) .nil) Y (.keep Y Y<|.lent 0 (.inl Y) Y (ro1 (by exact tZ_91.symm)<|rlc (.dat Y)<|rlc (.dat Y)<|rlc (.dat Y)<|rlc (.dat Y)<|rlc (.dat Y)<|rlc (.own _<|.inr ⟨Nat.le_of_ble_eq_true Y, Y⟩)<|rlc (.own _<|.inr ⟨Nat.le_of_ble_eq_true Y, Y⟩) rln)<|.none<|.none<|.lent 3 (.inr ⟨Nat.le_of_ble_eq_true Y, Y⟩) Y (roM D44)<|.lent 4 (.inr ⟨Nat.le_of_ble_eq_true Y, Y⟩) Y (roM D120) .nil) Y Y<|.dat Y)<|Rq Y (.guarded (false == false) Y Y Y Y fun h => Z0 (ov Y)<|ov Y)<|Rq Y (QR (ov Y) fun hp=>ow Y<|gF hp)<|Za<|K2 3 26 Y<|If h Y (fun h=>?_) fun h=>?_
    ·
     refine K0<|Tr<|Ra Y<|Za<|?_
     obtain rfl := rt h
     exact Zg (Zo Y (.one<|rb Y))
    ·
     exact Ze<|⟨_, h, ES [some 1, some 4, some 5]⟩
   ·
    refine ZnX (d := 22) (b' := true) Y (Zpl hg)<|Znh Y Y Y Y Y<|bE h fun u2 h_u2 h=>R_q (.when (true == false)<|.bool false) Y (.guarded (true == false) Y Y Y Y fun h => ZnU<|gdT h_u2 h)<|Rq Y (QR (ov Y) fun hp=>ow Y<|gF hp)<|Za<|K2 3 26 Y<|If h Y (fun h=>?_) fun h=>?_
    ·
     refine K0<|Tr<|Ra Y<|Za<|?_
     obtain rfl := rt h
     exact Zg (Zo Y (.one<|rb Y))
    ·
     exact Ze<|⟨_, h, ES [some 1, some 2, some 3]⟩
  ·
   replace h := elr h
   replace h := t6i h
   refine Tr<|Rm Y<|bE h fun y3 h_y3 h=>Rx Y (Xp [0, 1, 2] (Zdb h_y3) (.cons (ov Y) (.ptr _ _ _ Y) .nil) (.cons Y (ro1 (by exact tZ_91.symm)<|rlc (.dat Y)<|rlc (.dat Y)<|rlc (.dat Y)<|rlc (.dat Y)<|rlc (.dat Y)<|rlc (.own _ Y)<|rlc (.own _ Y) rln)<|.cons Y (roM D44)<|.cons Y (roM D120) .nil) Y (.lent 0 (.inl Y) Y (ro1 (by exact tZ_91.symm)<|rlc (.dat Y)<|rlc (.dat Y)<|rlc (.dat Y)<|rlc (.dat Y)<|rlc (.dat Y)<|rlc (.own _<|.inr ⟨Nat.le_of_ble_eq_true Y, Y⟩)<|rlc (.own _<|.inr ⟨Nat.le_of_ble_eq_true Y, Y⟩) rln)<|.none<|.none<|.lent 3 (.inr ⟨Nat.le_of_ble_eq_true Y, Y⟩) Y (roM D44)<|.lent 4 (.inr ⟨Nat.le_of_ble_eq_true Y, Y⟩) Y (roM D120) .nil) Y Y<|.dat Y)<|Ra Y<|Za<|K1 5 Y<|Tr<|Rm Y<|Rl tZ_39 ZfY Y<|R2 ZY Y<|Rm Y<|Rq Y (.guarded ((decide ((y3.length : Int) = 1)) == true) Y Y Y Y fun h => Zh<|ov Y)<|bE h fun x h_x h=>Rq Y (.guarded ((decide ((y3.length : Int) = 1)) == true) Y Y Y Y fun h => ZJ (ow Y h) (ov Y) ZfY<|gdT h_x h)<|Rq Y (.guarded ((decide ((y3.length : Int) = 1)) == true) Y Y Y Y fun h => Zi (ow Y h) ZgN Y Y)<|Rq Y (.guarded ((decide ((y3.length : Int) = 1)) == true) Y Y Y Y fun h => QM (ys := [_, _, _, _]) ZmV ZmS Zkk (.cons (cvs (ov Y)<|ZF Y)<|.cons (cvs (ov Y)<|ZF Y) .nil) Y)<|Rq Y (.guarded ((decide ((y3.length : Int) = 1)) == true) Y Y Y Y fun h => Zog ZnT (ow Y h) (ow Y h) (.aggB Y) (.aggB Y) Y Y)<|Rq Y (Z3 (ov Y) fun hp=>ow Y<|gT hp)<|Ra Y<|Za<|?_
   obtain rfl := rt h
   exact Zg (Zo Y (.one<|rb Y))
theorem Zcm {p : api_Panel} {l : List api_Track} {s : api_PanelState} {r : Bool} (h : QV p l s = some r) :
 CSpec Tryz.prog gl0 5 [.agg [.sl 49 (List.map R49 p.Instruments)], .sl 54 (List.map R54 l), .agg [.int .i64 s.Frame, .sl 99 (List.map R99 s.Memos)]] (.bool r) := by
 unfold QV at h
 replace h := ZP h
 refine So Tryz.func5 Y fun w0 A=>Tr<|Rq Y (ZB (cva<|ov Y) Y tZ_24 Y)<|Rq Y (ZB (cva<|ov Y) Y tZ_44 Y)<|Ra Y<|Za<|K3 1 3 5 Y<|Tr<|Rq Y (Zi (ov Y) ZaH Y Y)<|Rm Y<|Rq Y (Zi (ov Y) Xe Y Y)<|bE h fun y h_y h=>Rq Y (Zj (Zhu h_y)<|.cons (ov Y) (.aggB Y)<|.cons (ov Y) (.b Y)<|.cons (ov Y) (.aggB Y) .nil)<|Rm Y<|Rq Y (Zu (ov Y) Y)<|Rq Y (Zu (ov Y) Y)<|Rx Y (ZC (row := [_, _]) 0 Y ZdY Y tZ_44)<|Rx Y (Zk (ov Y) (ov Y) (Zn Xe Y) Y Y Y (Nat.le_of_ble_eq_true Y) (Zd Y) Y)<|Ra Y<|Za<|K5 1 3 5 7 8 Y<|Tr<|Rq Y (Zi (ov Y) ZaH Y Y)<|Rm Y<|Rq Y (Zi (ov Y) Xe Y Y)<|bE h fun y2 h_y2 h=>Rq Y (Zj (Ziu h_y2)<|.cons (ov Y) (.aggB Y)<|.cons (ov Y) (.b Y)<|.cons (ov Y) (.aggB Y) .nil)<|Rm Y<|Rq Y (Zu (ov Y) Y)<|Rq Y (Zu (ov Y) Y)<|Rx Y (ZC (row := [_, _]) 1 Y ZdY Y tZ_44)<|Rx Y (Zk (ov Y) (ov Y) (Zn Xe Y) Y Y Y (Nat.le_of_ble_eq_true Y) (Zd Y) Y)<|Ra Y<|Za<|Zl<|K7 1 3 5 7 8 9 10 Y<|Td md0<|Dq 0 Y (Zi (ov Y) ZaH Y Y)<|Dq 1 Y (Zi (ov Y) Xe Y Y)<|bE h fun y3 h_y3 h=>Dq 2 Y (Zj (Zf8 h_y3)<|.cons (ov Y) (.aggB Y)<|.cons (ov Y) (.aggB Y) .nil)<|Dq 3 Y (Zi (ov Y) ZaH Y Y)<|Dq 4 Y (Zi (ov Y) Xe Y Y)<|bE h fun y4 h_y4 h=>Dq 5 Y (Zj (ZbH h_y4)<|.cons (ov Y) (.aggB Y)<|.cons (ov Y) (.aggB Y) .nil)<|D2 6 Z0 Y<|D1 7 Zh Y<|Dq 8 Y (.guarded ((!decide (y3 = y4)) == false) Y Y Y Y fun h => Zh<|ov Y)<|Dq 9 Y (.guarded ((!decide (y3 = y4)) == false) Y Y Y Y fun h => Zh<|ov Y)<|Dq 10 Y (.guarded ((!decide (y3 = y4)) == false) Y Y Y Y fun h => Z0 (ow Y h)<|ow Y h)<|Dq 11 Y (QR (ov Y) fun hp=>ow Y<|gF hp)<|D1 12 Zh Y<|Dq 13 Y (.guarded (((!decide (y3 = y4)) || (!decide (y.2 = y2.2))) == false) Y Y Y Y fun h => ZW (ov Y) Y Y Y Xe Y Y)<|Dq 14 Y (.guarded (((!decide (y3 = y4)) || (!decide (y.2 = y2.2))) == false) Y Y Y Y fun h => ZW (ov Y) Y Y Y Xe Y Y)<|bE h fun y5 h_y5 h=>Dq 15 Y (.guarded (((!decide (y3 = y4)) || (!decide (y.2 = y2.2))) == false) Y Y Y Y fun h => Zj (Zhm<|gdT h_y5 h)<|.cons (ow Y h) (.aggB Y)<|.cons (ow Y h) (.aggB Y) .nil)<|Dq 16 Y (.guarded (((!decide (y3 = y4)) || (!decide (y.2 = y2.2))) == false) Y Y Y Y fun h => Qe<|ow Y h)<|Dq 17 Y (QR (ov Y) fun hp=>ow Y<|gF hp)<|Dd<|K4 1 3 5 46 Y<|If h Y (fun h=>?_) fun h=>?_
 ·
  refine K0<|Tr<|Ra Y<|Za<|?_
  obtain rfl := rt h
  exact Zg (Zo Y (.one<|rb Y))
 ·
  refine Ze<|K3 1 3 5 Y<|Tr<|Rq Y (Zi (ov Y) ZaH Y Y)<|Rm Y<|Rq Y (Zi (ov Y) Xe Y Y)<|bE h fun y6 h_y6 h=>Rq Y (Zj (ZiS h_y6)<|.cons (ov Y) (.aggB Y)<|.cons (ov Y) (.b Y)<|.cons (ov Y) (.aggB Y) .nil)<|Rm Y<|Rq Y (Zu (ov Y) Y)<|Rq Y (Zu (ov Y) Y)<|Ra Y<|Ra Y<|Za<|K5 1 3 5 8 11 Y<|Tr<|Rq Y (Zi (ov Y) ZaH Y Y)<|Rm Y<|Rq Y (Zi (ov Y) Xe Y Y)<|bE h fun y7 h_y7 h=>Rq Y (Zj (ZjF h_y7)<|.cons (ov Y) (.aggB Y)<|.cons (ov Y) (.b Y)<|.cons (ov Y) (.aggB Y) .nil)<|Rm Y<|Rq Y (Zu (ov Y) Y)<|Rq Y (Zu (ov Y) Y)<|Ra Y<|Ra Y<|Za<|Zl<|K5 3 8 10 11 12 Y<|Tr<|Rm Y<|Rm Y<|R2 Z0 Y<|Rm Y<|Rq Y (.guarded ((!decide (y6.2 = y7.2)) == false) Y Y Y Y fun h => Zh<|ov Y)<|Rq Y (.guarded ((!decide (y6.2 = y7.2)) == false) Y Y Y Y fun h => Zh<|ov Y)<|bE h fun y8 h_y8 h=>Rq Y (.guarded ((!decide (y6.2 = y7.2)) == false) Y Y Y Y fun h => Zj (ZbV<|gdT h_y8 h)<|.cons (ow Y h) (.b Y)<|.cons (ow Y h) (.b Y) .nil)<|Rq Y (.guarded ((!decide (y6.2 = y7.2)) == false) Y Y Y Y fun h => Qe<|ow Y h)<|Rq Y (QR (ov Y) fun hp=>ow Y<|gF hp)<|Za<|K4 3 11 12 69 Y<|If h Y (fun h=>?_) fun h=>?_
  ·
   refine K0<|Tr<|Ra Y<|Za<|?_
   obtain rfl := rt h
   exact Zg (Zo Y (.one<|rb Y))
  ·
   refine Ze<|K3 3 11 12 Y<|Tr<|Rq Y (Zi (ov Y) ZaH Y Y)<|Rm Y<|bE h fun y9 h_y9 h=>Rq Y (Zj (Zjk h_y9)<|.cons (ov Y) (.aggB Y)<|.cons (ov Y) (.b Y) .nil)<|Rm Y<|Rq Y (Zu (ov Y) Y)<|Rq Y (Zu (ov Y) Y)<|Ra Y<|Ra Y<|Za<|K4 3 8 12 13 Y<|Tr<|Rq Y (Zi (ov Y) ZaH Y Y)<|Rm Y<|bE h fun y10 h_y10 h=>Rq Y (Zj (ZjD h_y10)<|.cons (ov Y) (.aggB Y)<|.cons (ov Y) (.b Y) .nil)<|Rm Y<|Rq Y (Zu (ov Y) Y)<|Rq Y (Zu (ov Y) Y)<|Ra Y<|Ra Y<|Za<|K4 8 10 13 14 Y<|Tr<|Rm Y<|Rm Y<|R2 Qk Y<|Rm Y<|Rq Y (.guarded ((decide (y9.1 = y10.1)) == true) Y Y Y Y fun h => Zh<|ov Y)<|Rq Y (.guarded ((decide (y9.1 = y10.1)) == true) Y Y Y Y fun h => Zh<|ov Y)<|Rq Y (.guarded ((decide (y9.1 = y10.1)) == true) Y Y Y Y fun h => ZY (ow Y h)<|ow Y h)<|Rq Y (Z3 (ov Y) fun hp=>ow Y<|gT hp)<|Rm Y<|bE h fun y11 h_y11 h=>Rq Y (.guarded (((decide (y9.1 = y10.1)) && (decide (y9.2 = y10.2))) == true) Y Y Y Y fun h => Zj (ZjA<|gdT h_y11 h) .nil)<|Rq Y (Z3 (ov Y) fun hp=>ow Y<|gT hp)<|Ra Y<|Za<|?_
   obtain rfl := rt h
   exact Zg (Zo Y (.one<|rb Y))
end Go.Proofs.YtailpehcgelmdaaGreatDoor
