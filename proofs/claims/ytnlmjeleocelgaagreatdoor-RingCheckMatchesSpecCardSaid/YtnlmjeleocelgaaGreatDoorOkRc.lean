/- A text of the proof: a verified executor of the program form, or the contracts of the functions that the law reaches. -/
import Derived.Test.YtnlmjeleocelgaaGreatDoorOkRb
set_option linter.all false
namespace Go.Proofs.YtnlmjeleocelgaaGreatDoor
open Go Go.Vx
set_option maxRecDepth 10000
set_option maxHeartbeats 1000000
set_option linter.unusedVariables false
theorem Zfm {s : List Int} {i : Int} {r : (Vector Int 97)} (h : Zbj s i = some r) :
 CSpec Tryz.prog gl0 77 [.sl 5 (List.map R5 s), .int .i64 i] (.rp (List.map C5 r.toList) 0) := by
 unfold Zbj at h
 replace h := Qm h
 refine So Tryz.func77 Y fun w0 A=>Tr<|Ra Y<|Za<|K2 0 1 Y<|Tr<|Rm Y<|R2 Ze0 Y<|R2 ZT Y<|Ra Y<|Za<|K2 0 5 Y<|Tr<|Rm Y<|Rm Y<|Rm Y<|R2 ZT Y<|bE h fun l h_l h=>Rq Y (ZgI (ov Y) Qp (oi<|ov Y) (oi<|ov Y) h_l)<|bE h fun v h_v h=>Rq Y (Zkg (f := C5) (ov Y) Zkl tZ_5 Y h_v)<|Ra Y<|Za<|?_
 obtain rfl := rt h
 exact Zo (ZS Y (.one<|rb Y))
theorem ZcB {s : List Int} {f : Int → Option Bool} {r : Int} {f_f : FuncId} {f_c : List AV} (f_d : f_c.all datB = true) (f_h : ∀ (z0 : Int) z, f z0 = some z → CSpec Tryz.prog gl0 f_f ([.int .u8 z0] ++ f_c) (.bool z)) (h : QJ s f = some r) :
 CSpec Tryz.prog gl0 138 [.sl 5 (List.map R5 s), .fn f_f f_c] (.int .i64 r) := by
 unfold QJ at h
 replace h := Qm h
 refine So Tryz.func138 Y fun w0 A=>Tr<|Ra Y<|Za<|J0 (fun j => (.inr j)) ⟨[], []⟩ h (fun h=>?_) fun h=>?_
 ·
  refine K2 0 1 Y<|Tr<|Rm Y<|Rl tZ_5 Qp Y<|Rm Y<|Za<|Zg<|?_
  obtain ⟨r1, hl1, ho1⟩ := QU h
  refine L1 (fun i=>⟨[(0, .sl 5 (List.map R5 s)), (1, .fn f_f f_c), (7, .int .i64 (s.length : Int)), (8, .int .i64 i)], []⟩) hl1 (ES []<|sd 0 Y Y<|sr 1 Y (rFn<|rld f_d)<|sd 7 Y Y<|sd 8 Y Y sn) fun n1 i h=>?_
  unfold QR at h
  refine Tr<|R2 ZU Y<|Za<|Zh<|If h Y (fun h=>?_) fun h=>?_
  ·
   refine Zi<|Zh<|Zg<|K4 0 1 7 8 Y<|Tr<|Rm Y<|Ra Y<|Za<|K5 0 1 5 7 8 Y<|Tr<|Rm Y<|Rm Y<|Rm Y<|bE h fun x h_x h=>Rq Y (Z4 (ov Y) (ov Y) Qp h_x)<|Rq Y (Zd (ov Y) tS5 Y)<|bE h fun y h_y h=>Rq Y (ZdF (ov Y) f_d (f_h _ _ h_y)<|.cons (ov Y) (.b Y) .nil)<|Za<|K6 0 1 5 7 8 16 Y<|If h Y (fun h=>?_) fun h=>?_
   ·
    refine K1 5 Y<|Tr<|Rm Y<|Ra Y<|Za<|?_
    replace h := lx h ▸ ho1
    obtain rfl := rt h
    exact Zo (ZS Y (.one<|rb Y))
   ·
    exact Zi<|K4 0 1 7 8 Y<|Zr<|R2 ZT Y<|Rm Y<|Za<|⟨_, h, ES []<|sd 0 Y Y<|sr 1 Y (rFn<|rld f_d)<|sd 7 Y Y<|sd 8 Y Y sn⟩
  ·
   refine ZJ<|?_
   replace h := lx h ▸ ho1
   exact ⟨(), h, ES []⟩
 ·
  replace h := elr h
  replace h := t0i h
  refine Tr<|Ra Y<|Za<|?_
  obtain rfl := rt h
  exact Zo (ZS Y (.one<|rb Y))
theorem Zbl {s : List Int} {f : Int → Option Bool} {r : Bool} {f_f : FuncId} {f_c : List AV} (f_d : f_c.all datB = true) (f_h : ∀ (z0 : Int) z, f z0 = some z → CSpec Tryz.prog gl0 f_f ([.int .u8 z0] ++ f_c) (.bool z)) (h : Qv s f = some r) :
 CSpec Tryz.prog gl0 116 [.sl 5 (List.map R5 s), .fn f_f f_c] (.bool r) := by
 unfold Qv at h
 replace h := Qm h
 refine So Tryz.func116 Y fun w0 A=>Tr<|Ra Y<|Za<|Tr<|Rm Y<|Rm Y<|bE h fun y h_y h=>Rq Y (Zp (ZcB f_d f_h h_y)<|.cons (ov Y) (.b Y)<|.cons (ov Y) (Dat.fnC<|.refl fun x hx => .b<|List.all_eq_true.1 f_d x hx) .nil)<|R2 Zhm Y<|Ra Y<|Za<|?_
 obtain rfl := rt h
 exact Zo (ZS Y (.one<|rb Y))
theorem ZgA {b : Int} {r : Bool} (h : J7 b = some r) :
 CSpec Tryz.prog gl0 117 [.int .u8 b] (.bool r) := by
 unfold J7 at h
 replace h := Qm h
 refine So Tryz.func117 Y fun w0 A=>Tr<|Ra Y<|Za<|Tr<|Rm Y<|R2 Xa Y<|Ra Y<|Za<|?_
 obtain rfl := rt h
 exact Zo (ZS Y (.one<|rb Y))
theorem ZeO {p : Vector Int 97} {r : Int} (h : Zao p = some r) :
 CSpec Tryz.prog gl0 78 [.rp (List.map C5 p.toList) 0] (.int .i64 r) := by
 unfold Zao at h
 replace h := Qm h
 refine So Tryz.func78 Y fun w0 A=>Tr<|Ra Y<|Za<|Zh<|Zg<|K1 0 Y<|Tr<|Rm Y<|R1 ZO Y<|bE h fun x h_x h=>Rq Y (Xe (ov Y) (ov Y) Zkl h_x)<|Rq Y (Zd (ov Y) tS5<|QP<|XR (o := 0) (o' := ((Int.toNat 96) * 1)) (Zz arL)<|XK h_x)<|R2 Zbd Y<|Ra Y<|Za<|K2 0 3 Y<|If h Y (fun h=>?_) fun h=>?_
 ·
  refine K0<|Tr<|Ra Y<|Za<|?_
  obtain rfl := rt h
  exact Zo (ZS Y (.one<|rb Y))
 ·
  refine K1 0 Y<|Tr<|Rm Y<|R1 ZO Y<|bE h fun l h_l h=>Rq Y (ZkA (f := C5) (ov Y) Zkl tZ_5 (Zz arL) Y on on h_l)<|bE h fun y h_y h=>Rq Y (Zp (Zbl Y (fun z0 _ hz=>ZgA hz) h_y)<|.cons (ov Y) (.b Y)<|.cons (ov Y) .fn .nil)<|Ra Y<|Za<|K1 9 Y<|If h Y (fun h=>?_) fun h=>?_
  ·
   refine K0<|Tr<|Ra Y<|Za<|?_
   obtain rfl := rt h
   exact Zo (ZS Y (.one<|rb Y))
  ·
   refine Zi<|K0<|Tr<|Ra Y<|Za<|?_
   obtain rfl := rt h
   exact Zo (ZS Y (.one<|rb Y))
theorem Zha {m : api_Memory} {r : ring_spot} (h : ZaK m = some r) :
 CSpec Tryz.prog gl0 64 [.agg [.int .i64 m.Slots, .int .i64 m.Limit, .sl 49 (List.map R49 m.Sectors), .sl 3 (List.map R3 m.Wear), .sl 4 (List.map R4 m.Bad)]] (.agg [.int .i64 r.sector, .int .i64 r.slot]) := by
 unfold ZaK at h
 replace h := Qm h
 refine So Tryz.func64 Y fun w0 A=>Tr<|Rq Y (JG (cva<|ov Y) Y tZ_26 Y)<|Rx Y (Z9 (row := [_, _]) 0 Y ZiF Y tZ_105)<|Za<|K2 1 2 Y<|Tr<|Rq Y (Qb (ov Y) QA Y Y)<|bE h fun y h_y h=>Rq Y (Zp (ZcL h_y)<|.cons (ov Y) (.aggB Y) .nil)<|Ra Y<|Za<|Zh<|K3 1 2 3 Y<|Tr<|Rm Y<|Rl tZ_3 QB Y<|R2 Zbd Y<|Za<|K4 1 2 3 10 Y<|If h Y (fun h=>?_) fun h=>?_
 ·
  refine K1 2 Y<|Tr<|Rq Y (Xo (ys := [_, _]) Zkj Zka ZiF (.cons (cvs (ov Y)<|Zk Y) .nil) Y)<|Rx Y (Zj (ov Y) (ov Y) (Zv Zgr Y) Y Y Y (Nat.le_of_ble_eq_true Y) (Zb Y) Y)<|Za<|?_
  obtain rfl := rt h
  exact Zo (ZS Y (.one<|.agg Y Y Y Y Zgr Y Y<|pwB Y))
 ·
  refine Zi<|K3 1 2 3 Y<|Tr<|Rm Y<|Rm Y<|Rl tZ_3 QB Y<|R2 Zay Y<|bE h fun x h_x h=>Rq Y (Z4 (ov Y) (ov Y) QB h_x)<|Rq Y (Zd (ov Y) tS3 Y)<|Rq Y (Xo (ys := [_, _]) Zkj Zka ZiF (.cons (cvs (ov Y)<|Zk Y) .nil) Y)<|Rx Y (Z9 (row := [_, _]) 1 Y ZiF Y tZ_105)<|Rx Y (Zj (ov Y) (ov Y) (Zv Zgr Y) Y Y Y (Nat.le_of_ble_eq_true Y) (Zb Y) Y)<|Za<|I1 (fun slot=>⟨[(2, .ptr 0 1 0 0), (4, .ptr 1 1 0 0)], [some ⟨105, [[.int .i64 0, .int .i64 0]]⟩, some ⟨105, [[.int .i64 x, .int .i64 slot]]⟩]⟩) h (fun h=>?_) fun slot h=>?_
  ·
   refine K3 1 2 4 Y<|Tr<|Rq Y (Zy (ov Y) ZeB)<|Rq Y (Zd (ov Y) tS3 Y)<|Rm Y<|Za<|Zg<|?_
   obtain ⟨r1, hl1, ho1⟩ := QU h
   refine L2 (fun slot2 i=>⟨[(1, .rp [.int .i64 m.Slots, .int .i64 m.Limit, .sl 49 (List.map R49 m.Sectors), .sl 3 (List.map R3 m.Wear), .sl 4 (List.map R4 m.Bad)] 0), (2, .ptr 0 1 0 0), (4, .ptr 1 1 0 0), (20, .int .i64 m.Slots), (21, .int .i64 i)], [some ⟨105, [[.int .i64 0, .int .i64 0]]⟩, some ⟨105, [[.int .i64 x, .int .i64 slot2]]⟩]⟩) hl1 (ES [some 0, some 1]) fun n1 slot2 i h=>?_
   unfold Zap at h
   refine Tr<|R2 ZU Y<|Za<|Zh<|If h Y (fun h=>?_) fun h=>?_
   ·
    refine Zi<|Zh<|Zg<|K5 1 2 4 20 21 Y<|Tr<|Rm Y<|Ra Y<|Za<|K6 1 2 4 5 20 21 Y<|Tr<|Rq Y (Zy (ov Y) Zx)<|Rq Y (Zd (ov Y) ZY Y)<|Rq Y (Zf (ov Y) Y Y Zfx)<|Rq Y (Zs (ov Y) Y Y Y tS3 Y)<|bE h fun x2 h_x2 h=>Rq Y (Z4 (ov Y) (ov Y) ZQ h_x2)<|Rq Y (Zd (ov Y) ZdQ Y)<|Rm Y<|bE h fun y2 h_y2 h=>Rq Y (Zp (Zfm h_y2)<|.cons (ov Y) (.b Y)<|.cons (ov Y) (.b Y) .nil)<|bE h fun y3 h_y3 h=>Rq Y (Zp (ZeO h_y3)<|.cons (ov Y) (.b Y) .nil)<|R2 Xa Y<|Za<|K7 1 2 4 5 20 21 33 Y<|If h Y (fun h=>?_) fun h=>?_
    ·
     exact K6 1 2 4 5 20 21 Y<|Zr<|Rm Y<|R2 ZT Y<|Rq Y (Zf (ov Y) Y Y ZgE)<|Rx Y (Zj (ov Y) (ov Y) (Ze tS3) Y Y Y (Nat.le_of_ble_eq_true Y) (Zb Y) Y)<|Za<|K5 1 2 4 20 21 Y<|Zr<|R2 ZT Y<|Rm Y<|Za<|⟨_, h, ES [some 0, some 1]⟩
    ·
     exact Zi<|K5 1 2 4 20 21 Y<|Zr<|R2 ZT Y<|Rm Y<|Za<|⟨_, h, ES [some 0, some 1]⟩
   ·
    refine ZJ<|?_
    replace h := lx h ▸ ho1
    exact ⟨_, h, ES [some 0, some 1]⟩
  ·
   refine Tr<|Rq Y (Qo (ov Y) Y Y Y Zgr Y Y)<|Rx Y (Zj (ov Y) (ov Y) (Zv Zgr Y) Y Y Y (Nat.le_of_ble_eq_true Y) (Zb Y) Y)<|Za<|?_
   obtain rfl := rt h
   exact Zo (ZS Y (.one<|.agg Y Y Y Y Zgr Y Y<|pwB Y))
theorem ZeI {l : List api_Memory} {copies : Int} {r : (Int) ⊕ (ring_Recorder × Int)} (h : Za1 l copies = some r) :
 GSpec Tryz.prog gl0 15 [.sl 26 (List.map R26 l), .int .i64 copies] [] (Sum.elim (fun r => .tuple [.lit (.pointer none), .int .i64 r]) (fun r => .tuple [.ptr 0 1 0 0, .int .i64 r.2]) r) (Sum.elim (fun r => []) (fun r => [some ⟨102, [[.own 1 r.1.bank.memories.length, .own 2 r.1.bank.spots.length, .int .i64 r.1.copies, .bool r.1.frozen, .bool r.1.stopped, .int .i64 r.1.last, .bool r.1.some_]]⟩, some ⟨26, List.map O26 r.1.bank.memories⟩, some ⟨105, List.map R105 r.1.bank.spots⟩]) r) := by
 unfold Za1 at h
 replace h := Qm h
 refine QF (by kernel_rfl) Tryz.func15 Y Y<|?_
 intro w0 A W φ0
 refine Tr<|Ra Y<|Ra Y<|Za<|Zh<|K2 0 1 Y<|Tr<|Rm Y<|bE h fun y h_y h=>Rq Y (Zp (Zd9 h_y)<|.cons (ov Y) (.b Y) .nil)<|Ra Y<|Za<|K3 0 1 6 Y<|Tr<|Rm Y<|R2 Xa Y<|Za<|K4 0 1 6 17 Y<|If h Y (fun h=>?_) fun h=>?_
 ·
  refine K1 6 Y<|Tr<|Rm Y<|Ra Y<|Ra Y<|Za<|?_
  obtain rfl := rt h
  exact Zo<|JN [] Y (.cons (.tmp Y)<|.cons (.tmp Y) .nil) .nil Y Y<|QW<|rlc (.dat Y)<|rlc (.dat Y) rln
 ·
  refine Zi<|Zh<|K2 0 1 Y<|Tr<|Rm Y<|Rm Y<|Rl tZ_26 Zdq Y<|bE h fun y2 h_y2 h=>Rq Y (Zp (QC h_y2)<|.cons (ov Y) (.b Y)<|.cons (ov Y) (.b Y)<|.cons (ov Y) (.b Y) .nil)<|R1 Ji Y<|Za<|K3 0 1 23 Y<|If h Y (fun h=>?_) fun h=>?_
  ·
   refine K0<|Tr<|Ra Y<|Ra Y<|Za<|?_
   obtain rfl := rt h
   exact Zo<|JN [] Y (.cons (.tmp Y)<|.cons (.tmp Y) .nil) .nil Y Y<|QW<|rlc (.dat Y)<|rlc (.dat Y) rln
  ·
   refine Zi<|K2 0 1 Y<|Tr<|Rm Y<|Rq Y (Xo (ys := [_, _, _, _, _, _, _]) ZmH ZmI ZnB (.cons (cvs (ov Y)<|Zk Y) .nil) Y)<|Rx Y (Zjo 0 Y (ov Y) Zno Y)<|Ra Y<|Za<|K2 0 7 Y<|Tr<|Rm Y<|Rm Y<|bE h fun y3 h_y3 h=>Rx Y (ZG [] (Zgo h_y3) (.cons (ov Y) (.dat Y) .nil) .nil Y (.keep Y Y<|.lent 0 (.inr ⟨Nat.le_of_ble_eq_true Y, Y⟩) Y (roO XZ) .nil) Y Y<|.own _<|.inr ⟨Nat.le_of_ble_eq_true Y, Y⟩)<|Rq Y (ZB (ov Y) Y Y)<|Rq Y (Zf (ov Y) Y Y ZdP)<|Rq Y (Zf (ov Y) Y Y Zc1)<|Rx Y (Zj (ov Y) (ov Y) (Ze Zi6) Y Y Y (Nat.le_of_ble_eq_true Y) (Zb Y) Y)<|Za<|I2 (fun spots frozen=>⟨[(7, .ptr 0 1 0 0)], [some ⟨102, [[.own 1 y3.length, .own 2 spots.length, .int .i64 copies, .bool frozen, .bool false, .int .i64 0, .bool false]]⟩, some ⟨26, List.map O26 y3⟩, some ⟨105, List.map R105 spots⟩]⟩) h (fun h=>?_) fun spots frozen h=>?_
   ·
    refine K1 7 Y<|QG [some ⟨102, [[.own 1 y3.length, .nils, .int .i64 copies, .bool false, .bool false, .int .i64 0, .bool false]]⟩, some ⟨26, List.map O26 y3⟩] Y<|Tr<|Rm Y<|Rq Y (ZB (ov Y) Y Y)<|Rq Y (Zf (ov Y) Y Y ZdP)<|Rq Y (Zf (ov Y) Y Y Zc1)<|Rq Y (Zs (ov Y) Y Y Y Zi6 Y)<|Rq Y (Zel (ov Y) Y Y Zdq)<|Rm Y<|Za<|Zg<|?_
    obtain ⟨r1, hl1, ho1⟩ := QU h
    refine L3 (fun spots2 frozen2 i=>⟨[(7, .ptr 0 1 0 0), (37, .own 1 y3.length), (38, .int .i64 (y3.length : Int)), (39, .int .i64 i)], [some ⟨102, [[.own 1 y3.length, .own 2 spots2.length, .int .i64 copies, .bool frozen2, .bool false, .int .i64 0, .bool false]]⟩, some ⟨26, List.map O26 y3⟩, some ⟨105, List.map R105 spots2⟩]⟩) hl1 (ES [some 0, some 1, none] (hhp := .cons Y (ro1 (by exact tZ_102.symm)<|rlc (.own _ Y)<|rlc (.row Y)<|rlc (.dat Y)<|rlc (.dat Y)<|rlc (.dat Y)<|rlc (.dat Y)<|rlc (.dat Y) rln)<|.cons Y (roO XZ)<|.row 105 .nil)) fun n1 spots2 frozen2 i h=>?_
    unfold Zcw at h
    refine Tr<|R2 ZU Y<|Za<|Zh<|If h Y (fun h=>?_) fun h=>?_
    ·
     refine Zi<|Zh<|Zg<|K4 7 37 38 39 Y<|Tr<|bE h fun x h_x h=>Rq Y (Qh (ov Y) (ov Y) Zdq Y Y h_x)<|QZ (Ent.focusH (r := 1) (j := 2) (e' := 49) (g := O49) (ys := x.Sectors) Y (ZD h_x).2 Y QN)<|QZ (Ent.focusI (r := 1) (j := 3) (e' := 3) (g := R3) (ys := x.Wear) Y (ZD h_x).2 Y DR3)<|QZ (Ent.focusI (r := 1) (j := 4) (e' := 4) (g := R4) (ys := x.Bad) Y (ZD h_x).2 Y DR4)<|Rq Y (ZlI (ov Y) Y Y (ZD h_x).2 QA Y Y)<|Rx Y (Z9 (row := [_, _, _, _, _]) 6 Y ZaP Y tZ_26)<|Rx Y (Zj (ov Y) (ov Y) (Zv QA Y) Y Y Y (Nat.le_of_ble_eq_true Y) (Zb Y) Y)<|Zen [some ⟨102, [[.own 1 y3.length, .own 2 spots2.length, .int .i64 copies, .bool frozen2, .bool false, .int .i64 0, .bool false]]⟩, some ⟨26, List.set (List.map O26 y3) i.toNat [.int .i64 x.Slots, .int .i64 x.Limit, .own 3 x.Sectors.length, .own 4 x.Wear.length, .own 5 x.Bad.length]⟩, some ⟨105, List.map R105 spots2⟩, some ⟨49, List.map O49 x.Sectors⟩, some ⟨3, List.map R3 x.Wear⟩, some ⟨4, List.map R4 x.Bad⟩, some ⟨26, [[.int .i64 x.Slots, .int .i64 x.Limit, .own 3 x.Sectors.length, .own 4 x.Wear.length, .own 5 x.Bad.length]]⟩] Y<|Za<|K5 7 9 37 38 39 Y<|Tr<|Rq Y (Qo (ov Y) Y Y Y QA Y Y)<|bE h fun y4 h_y4 h=>Rq Y (Zco (Zha h_y4) (.agg<|by simp only [List.mem_cons, List.not_mem_nil, or_false, forall_eq_or_imp, forall_eq]; exact ⟨.int, .int⟩)<|.cons (ov Y) (View.aggL<|.cons (Dat.view<|.b Y)<|.cons (Dat.view<|.b Y)<|.cons (View.ownO Y Y QN (fun x=>(D49 x).1) ZlF)<|.cons (View.ownM Y Y D3)<|.cons (View.ownM Y Y D4) .nil) .nil)<|Rx Y (Z9 (row := [_, _]) 7 Y ZiF Y tZ_105)<|Rx Y (Zj (ov Y) (ov Y) (Zv Zgr Y) Y Y Y (Nat.le_of_ble_eq_true Y) (Zb Y) Y)<|Zen [some ⟨102, [[.own 1 y3.length, .own 2 spots2.length, .int .i64 copies, .bool frozen2, .bool false, .int .i64 0, .bool false]]⟩, some ⟨26, List.set (List.map O26 y3) i.toNat [.int .i64 x.Slots, .int .i64 x.Limit, .own 3 x.Sectors.length, .own 4 x.Wear.length, .own 5 x.Bad.length]⟩, some ⟨105, List.map R105 spots2⟩, some ⟨49, List.map O49 x.Sectors⟩, some ⟨3, List.map R3 x.Wear⟩, some ⟨4, List.map R4 x.Bad⟩, some ⟨26, [[.int .i64 x.Slots, .int .i64 x.Limit, .own 3 x.Sectors.length, .own 4 x.Wear.length, .own 5 x.Bad.length]]⟩, some ⟨105, [[.int .i64 y4.sector, .int .i64 y4.slot]]⟩] Y<|Za<|Zh<|K6 7 9 10 37 38 39 Y<|Qf (cw := md0) (by kernel_rfl)<|D1 1 Zc Y<|Dq 2 Y (ZB (ov Y) Y Y)<|Dq 3 Y (Zf (ov Y) Y Y ZdP)<|Dq 4 Y (Zf (ov Y) Y Y Zey)<|Dq 5 Y (Zs (ov Y) Y Y Y Zj4 Y)<|Dq 6 Y (Qo (ov Y) Y Y Y Zgr Y Y)<|Zmg 7 (.sl 105<|List.map R105 ([y4] : List ring_spot)) Y (by kernel_rfl) Y Y (Jh Zj7 (.cons (cva<|ov Y) Y (pwD Y) .nil) Y Y)<|Z3 0 _ Y (by kernel_rfl) Y Y (fun hp'=>Zc<|ov Y)<|bE h fun l2 h_l2 h=>Do 8 Y (Q7 (ov Y) (Qs (ov Y) tZ_105) Zj7 Y Y Y (fun _=>Zb Y) Y h_l2)<|Dq 9 Y (ZB (ov Y) Y Y)<|Dq 10 Y (Zf (ov Y) Y Y ZdP)<|Dq 11 Y (Zf (ov Y) Y Y Zey)<|Do 12 Y (Zj (ov Y) (ov Y) (Ze Zj4) Y Y Y (Nat.le_of_ble_eq_true Y) (Zb Y) Y)<|Dd<|K6 7 9 10 37 38 39 Y<|QG [some ⟨102, [[.own 1 y3.length, .own 2 l2.length, .int .i64 copies, .bool frozen2, .bool false, .int .i64 0, .bool false]]⟩, some ⟨26, List.set (List.map O26 y3) i.toNat [.int .i64 x.Slots, .int .i64 x.Limit, .own 3 x.Sectors.length, .own 4 x.Wear.length, .own 5 x.Bad.length]⟩, some ⟨105, List.map R105 l2⟩, some ⟨49, List.map O49 x.Sectors⟩, some ⟨3, List.map R3 x.Wear⟩, some ⟨4, List.map R4 x.Bad⟩, some ⟨26, [[.int .i64 x.Slots, .int .i64 x.Limit, .own 3 x.Sectors.length, .own 4 x.Wear.length, .own 5 x.Bad.length]]⟩, some ⟨105, [[.int .i64 y4.sector, .int .i64 y4.slot]]⟩] Y<|Tr<|Rq Y (Zf (ov Y) Y Y Zfx)<|Rq Y (Zs (ov Y) Y Y Y tS3 Y)<|R2 Zhm Y<|Za<|K7 7 9 10 37 38 39 59 Y<|If h Y (fun h=>?_) fun h=>?_
     ·
      exact K6 7 9 10 37 38 39 Y<|Tr<|Rq Y (Zf (ov Y) Y Y Zx)<|Rq Y (Zs (ov Y) Y Y Y ZY Y)<|Rq Y (Zf (ov Y) Y Y Zfx)<|Rq Y (Zs (ov Y) Y Y Y tS3 Y)<|bE h fun x2 h_x2 h=>Rq Y (Qh (ov Y) (ov Y) ZQ Y Y h_x2)<|QZ (Ent.focusH (r := 3) (j := 0) (e' := 5) (g := R5) (ys := x2) Y (ZD h_x2).2 Y DR5)<|Rq Y (ZbX (ov Y) Y Y (ZD h_x2).2 ZdQ Y)<|bE h fun y5 h_y5 h=>Rq Y (Zco (ZbP h_y5) (.tuple<|by simp only [List.mem_cons, List.not_mem_nil, or_false, forall_eq_or_imp, forall_eq]; exact ⟨.int, .bool, .bool⟩)<|.cons (ov Y) (View.ownM Y Y D5) .nil)<|Rm Y<|Rq Y (Zn (ov Y) Y)<|Rq Y (Zn (ov Y) Y)<|Rq Y (Zn (ov Y) Y)<|Ra Y<|Ra Y<|Ra Y<|Zen [some ⟨102, [[.own 1 y3.length, .own 2 l2.length, .int .i64 copies, .bool frozen2, .bool false, .int .i64 0, .bool false]]⟩, some ⟨26, List.set (List.map O26 y3) i.toNat [.int .i64 x.Slots, .int .i64 x.Limit, .own 3 x.Sectors.length, .own 4 x.Wear.length, .own 5 x.Bad.length]⟩, some ⟨105, List.map R105 l2⟩, some ⟨49, List.set (List.map O49 x.Sectors) y4.sector.toNat [.own 8 x2.length]⟩, some ⟨3, List.map R3 x.Wear⟩, some ⟨4, List.map R4 x.Bad⟩, some ⟨26, [[.int .i64 x.Slots, .int .i64 x.Limit, .own 3 x.Sectors.length, .own 4 x.Wear.length, .own 5 x.Bad.length]]⟩, some ⟨105, [[.int .i64 y4.sector, .int .i64 y4.slot]]⟩, some ⟨5, List.map R5 x2⟩] Y<|QZ (Ent.absorbH (r := 3) (j := 0) (q := 8) Y (ZD h_x2).2 Y Y (List.length_map ..) Y)<|QZ (Ent.closeS (r := 3) Y (ZD h_x2).2 Y)<|QZ (Ent.absorbH (r := 1) (j := 2) (q := 3) Y (ZD h_x).2 Y Y (List.length_map ..) Y)<|QZ (Ent.absorbH (r := 1) (j := 3) (q := 4) Y (ZD h_x).2 Y Y (List.length_map ..) Y)<|QZ (Ent.absorbH (r := 1) (j := 4) (q := 5) Y (ZD h_x).2 Y Y (List.length_map ..) Y)<|QZ (Ent.closeS (r := 1) Y (ZD h_x).2 Y)<|Za<|K5 7 12 37 38 39 Y<|QG [some ⟨102, [[.own 1 y3.length, .own 2 l2.length, .int .i64 copies, .bool frozen2, .bool false, .int .i64 0, .bool false]]⟩, some ⟨26, List.map O26 y3⟩, some ⟨105, List.map R105 l2⟩, none, none, none, some ⟨26, [[.int .i64 x.Slots, .int .i64 x.Limit, .own 3 x.Sectors.length, .own 4 x.Wear.length, .own 5 x.Bad.length]]⟩, some ⟨105, [[.int .i64 y4.sector, .int .i64 y4.slot]]⟩, none] Y<|Zr<|Rm Y<|Rm Y<|Rq Y (ZB (ov Y) Y Y)<|Rq Y (Zf (ov Y) Y Y Zjg)<|Rq Y (Zs (ov Y) Y Y Y tS4 Y)<|Rm Y<|Rq Y (.guarded (frozen2 == false) Y Y Y Y fun h => Zc<|ov Y)<|Rq Y (ZdY (ov Y) fun hp=>ow Y<|gF hp)<|Rq Y (ZB (ov Y) Y Y)<|Rq Y (Zf (ov Y) Y Y Zjg)<|Rx Y (Zj (ov Y) (ov Y) (Ze tS4) Y Y Y (Nat.le_of_ble_eq_true Y) (Zb Y) Y)<|Za<|K4 7 37 38 39 Y<|QG [some ⟨102, [[.own 1 y3.length, .own 2 l2.length, .int .i64 copies, .bool (frozen2 || y5.2.1), .bool false, .int .i64 0, .bool false]]⟩, some ⟨26, List.map O26 y3⟩, some ⟨105, List.map R105 l2⟩, none, none, none, some ⟨26, [[.int .i64 x.Slots, .int .i64 x.Limit, .own 3 x.Sectors.length, .own 4 x.Wear.length, .own 5 x.Bad.length]]⟩, some ⟨105, [[.int .i64 y4.sector, .int .i64 y4.slot]]⟩, none] Y<|Zr<|R2 ZT Y<|Rm Y<|Za<|⟨_, h, ES [some 0, some 1, some 2] (hhp := .cons Y (ro1 (by exact tZ_102.symm)<|rlc (.own _ Y)<|rlc (.own _ Y)<|rlc (.dat Y)<|rlc (.dat Y)<|rlc (.dat Y)<|rlc (.dat Y)<|rlc (.dat Y) rln)<|.cons Y (roO XZ)<|.cons Y (roM D105) .nil)⟩
     ·
      exact Zi<|K4 7 37 38 39 Y<|Zr<|R2 ZT Y<|Rm Y<|QZ (Ent.absorbH (r := 1) (j := 2) (q := 3) Y (ZD h_x).2 Y Y (List.length_map ..) Y)<|QZ (Ent.absorbH (r := 1) (j := 3) (q := 4) Y (ZD h_x).2 Y Y (List.length_map ..) Y)<|QZ (Ent.absorbH (r := 1) (j := 4) (q := 5) Y (ZD h_x).2 Y Y (List.length_map ..) Y)<|QZ (Ent.closeS (r := 1) Y (ZD h_x).2 Y)<|Za<|⟨_, h, ES [some 0, some 1, some 2] (hhp := .cons Y (ro1 (by exact tZ_102.symm)<|rlc (.own _ Y)<|rlc (.own _ Y)<|rlc (.dat Y)<|rlc (.dat Y)<|rlc (.dat Y)<|rlc (.dat Y)<|rlc (.dat Y) rln)<|.cons Y (roO XZ)<|.cons Y (roM D105) .nil)⟩
    ·
     refine ZJ<|?_
     replace h := lx h ▸ ho1
     exact ⟨_, h, ES [some 0, some 1, some 2] (hhp := .cons Y (ro1 (by exact tZ_102.symm)<|rlc (.own _ Y)<|rlc (.own _ Y)<|rlc (.dat Y)<|rlc (.dat Y)<|rlc (.dat Y)<|rlc (.dat Y)<|rlc (.dat Y) rln)<|.cons Y (roO XZ)<|.cons Y (roM D105) .nil)⟩
   ·
    refine Tr<|Rm Y<|Ra Y<|Ra Y<|Za<|?_
    obtain rfl := rt h
    exact Zo<|JN [some 0, some 1, some 2] Y (.cons (.tmp Y)<|.cons (.tmp Y) .nil) (.cons Y (ro1 (by exact tZ_102.symm)<|rlc (.own _ Y)<|rlc (.own _ Y)<|rlc (.dat Y)<|rlc (.dat Y)<|rlc (.dat Y)<|rlc (.dat Y)<|rlc (.dat Y) rln)<|.cons Y (roO XZ)<|.cons Y (roM D105) .nil) Y Y<|QW<|rlc (.ptr _ _ _ Y)<|rlc (.dat Y) rln
theorem ZfE {l : List api_Memory} {copies : Int} {r : Int} (h : Za1 l copies = some (.inl r)) :
    GSpec Tryz.prog gl0 15 [.sl 26 (List.map R26 l), .int .i64 copies] [] (.tuple [.lit (.pointer none), .int .i64 r]) [] := ZeI h
theorem ZfB {l : List api_Memory} {copies : Int} {r : ring_Recorder × Int} (h : Za1 l copies = some (.inr r)) :
    GSpec Tryz.prog gl0 15 [.sl 26 (List.map R26 l), .int .i64 copies] [] (.tuple [.ptr 0 1 0 0, .int .i64 r.2]) [some ⟨102, [[.own 1 r.1.bank.memories.length, .own 2 r.1.bank.spots.length, .int .i64 r.1.copies, .bool r.1.frozen, .bool r.1.stopped, .int .i64 r.1.last, .bool r.1.some_]]⟩, some ⟨26, List.map O26 r.1.bank.memories⟩, some ⟨105, List.map R105 r.1.bank.spots⟩] := ZeI h
theorem ZeV {r_ : ring_Recorder} {power : Int} {r : Int} (h : XO r_ power = some r) :
 CSpec Tryz.prog gl0 65 [.rp [.sl 26 (List.map R26 r_.bank.memories), .sl 105 (List.map R105 r_.bank.spots), .int .i64 r_.copies, .bool r_.frozen, .bool r_.stopped, .int .i64 r_.last, .bool r_.some_] 0, .int .i64 power] (.int .i64 r) := by
 unfold XO at h
 replace h := Qm h
 refine So Tryz.func65 Y fun w0 A=>Tr<|Ra Y<|Za<|Zh<|Zg<|K2 0 1 Y<|Tr<|Rm Y<|R1 ZO Y<|Rq Y (Zy (ov Y) Zky)<|Rq Y (Zd (ov Y) tS4 Y)<|Ra Y<|Za<|K3 0 1 5 Y<|If h Y (fun h=>?_) fun h=>?_
 ·
  refine K0<|Tr<|Ra Y<|Za<|?_
  obtain rfl := rt h
  exact Zo (ZS Y (.one<|rb Y))
 ·
  refine K2 0 1 Y<|Tr<|Rm Y<|R1 ZO Y<|Rq Y (Zy (ov Y) Zjg)<|Rq Y (Zd (ov Y) tS4 Y)<|Ra Y<|Za<|K2 1 10 Y<|If h Y (fun h=>?_) fun h=>?_
  ·
   refine K0<|Tr<|Ra Y<|Za<|?_
   obtain rfl := rt h
   exact Zo (ZS Y (.one<|rb Y))
  ·
   refine K1 1 Y<|Tr<|Rm Y<|bE h fun y h_y h=>Rq Y (Zp (QC h_y)<|.cons (ov Y) (.b Y)<|.cons (ov Y) (.b Y)<|.cons (ov Y) (.b Y) .nil)<|R1 Ji Y<|Ra Y<|Za<|K1 15 Y<|If h Y (fun h=>?_) fun h=>?_
   ·
    refine K0<|Tr<|Ra Y<|Za<|?_
    obtain rfl := rt h
    exact Zo (ZS Y (.one<|rb Y))
   ·
    refine Zi<|K0<|Tr<|Ra Y<|Za<|?_
    obtain rfl := rt h
    exact Zo (ZS Y (.one<|rb Y))
theorem JR {w : Int} {r : Int} (h : Jd w = some r) :
 CSpec Tryz.prog gl0 104 [.int .u16 w] (.int .i64 r) := by
 unfold Jd at h
 replace h := Qm h
 refine So Tryz.func104 Y fun w0 A=>Tr<|Ra Y<|Za<|Tr<|Rm Y<|R2 Za7 Y<|Rq Y (Qj (ov Y) Zdx tI3 Y)<|Ra Y<|Za<|?_
 obtain rfl := rt h
 exact Zo (ZS Y (.one<|rb Y))
theorem ZdM {f : Vector Int 64} {r : Int} (h : Jq f = some r) :
 CSpec Tryz.prog gl0 102 [.rp (List.map C40 f.toList) 0] (.int .i64 r) := by
 unfold Jq at h
 replace h := Qm h
 refine So Tryz.func102 Y fun w0 A=>Tr<|Ra Y<|Za<|Zh<|Qf (cw := md0) (by kernel_rfl)<|D1 0 Zc Y<|D1 1 ZO Y<|bE h fun x h_x h=>Dq 2 Y (Xe (ov Y) (ov Y) ZaE h_x)<|Dq 3 Y (Zd (ov Y) ZbC<|QP<|XR (o := 0) (o' := ((Int.toNat 1) * 1)) (Zz arL)<|XK h_x)<|bE h fun y h_y h=>Dq 4 Y (Zp (JR h_y)<|.cons (ov Y) (.b Y) .nil)<|D1 5 Zc Y<|D1 6 ZO Y<|bE h fun x2 h_x2 h=>Dq 7 Y (Xe (ov Y) (ov Y) ZaE h_x2)<|Dq 8 Y (Zd (ov Y) ZbC<|QP<|XR (o := 0) (o' := ((Int.toNat 2) * 1)) (Zz arL)<|XK h_x2)<|bE h fun y2 h_y2 h=>Dq 9 Y (Zp (JR h_y2)<|.cons (ov Y) (.b Y) .nil)<|bE h fun q h_q h=>Dq 10 Y (ZeE (ov Y) (ov Y) h_q)<|D2 11 ZfO Y<|D1 12 Ql Y<|Dd<|?_
 obtain rfl := rt h
 exact Zo (ZS Y (.one<|rb Y))
theorem ZfG {x : Int} {r : Int} (h : Jo x = some r) :
 CSpec Tryz.prog gl0 135 [.int .u16 x] (.int .i64 r) := by
 unfold Jo at h
 replace h := Qm h
 refine So Tryz.func135 Y fun w0 A=>Tr<|Ra Y<|Za<|Zh<|Qf (cw := md0) (by kernel_rfl)<|D1 0 Zc Y<|bE h fun q h_q h=>Dq 1 Y (Zag (ov Y) (ov Y) h_q)<|bE h fun b h_b h=>Dq 2 Y (ZjS (ov Y) (ov Y) ZiQ h_b)<|D1 3 Zc Y<|D2 4 Za7 Y<|bE h fun b2 h_b2 h=>Dq 5 Y (ZjS (ov Y) (ov Y) ZiQ h_b2)<|D2 6 ZT Y<|Dq 7 Y (Qj (ov Y) tI5 tI3 Y)<|D1 8 Ql Y<|Dd<|?_
 obtain rfl := rt h
 exact Zo (ZS Y (.one<|rb Y))
theorem Zez {w : Int} {r : Bool} (h : Zca w = some r) :
 CSpec Tryz.prog gl0 103 [.int .u16 w] (.bool r) := by
 unfold Zca at h
 replace h := Qm h
 refine So Tryz.func103 Y fun w0 A=>Tr<|Ra Y<|Za<|Tr<|Rm Y<|R2 Zig Y<|Rm Y<|Rq Y (.guarded ((decide (w ≤ 4095)) == true) Y Y Y Y fun h => Zc<|ov Y)<|bE h fun y h_y h=>Rq Y (.guarded ((decide (w ≤ 4095)) == true) Y Y Y Y fun h => Zp (ZfG<|gdT h_y h)<|.cons (ow Y h) (.b Y) .nil)<|bE h fun q h_q h=>Rq Y (.guarded ((decide (w ≤ 4095)) == true) Y Y Y Y fun h => ZaC (ow Y h) (ov Y)<|gdT h_q h)<|Rq Y (.guarded ((decide (w ≤ 4095)) == true) Y Y Y Y fun h => Zbd (ow Y h)<|ov Y)<|Rq Y (Zaw (ov Y) fun hp=>ow Y<|gT hp)<|Ra Y<|Za<|?_
 obtain rfl := rt h
 exact Zo (ZS Y (.one<|rb Y))
theorem ZhU {f : Vector Int 64} {r : Int} (h : ZcC f = some r) :
 CSpec Tryz.prog gl0 105 [.rp (List.map C40 f.toList) 0] (.int .i64 r) := by
 unfold ZcC at h
 replace h := Qm h
 refine So Tryz.func105 Y fun w0 A=>Tr<|Ra Y<|Za<|K1 0 Y<|Tr<|Ra Y<|Za<|I1 (fun n=>⟨[(3, .int .i64 n)], []⟩) h (fun h=>?_) fun n h=>?_
 ·
  refine Tr<|Rm Y<|Za<|Zg<|?_
  obtain ⟨r1, hl1, ho1⟩ := QU h
  refine L2 (fun n2 i=>⟨[(0, .rp (List.map C40 f.toList) 0), (3, .int .i64 n2), (5, .int .i64 i)], []⟩) hl1 (ES []) fun n1 n2 i h=>?_
  unfold ZbN at h
  refine Tr<|R2 ZU Y<|Za<|Zh<|If h Y (fun h=>?_) fun h=>?_
  ·
   exact Zi<|Zh<|Zg<|K3 0 3 5 Y<|Tr<|Rm Y<|Ra Y<|Za<|K4 0 3 4 5 Y<|Zr<|Rm Y<|Rm Y<|Rm Y<|R2 ZT Y<|R1 ZO Y<|bE h fun x h_x h=>Rq Y (Xe (ov Y) (ov Y) ZaE h_x)<|Rq Y (Zd (ov Y) ZbC<|QP<|XR (o := 0) (o' := ((i64 (i + 1)).toNat * 1)) (Zz arL)<|XK h_x)<|bE h fun y h_y h=>Rq Y (Zp (JR h_y)<|.cons (ov Y) (.b Y) .nil)<|R2 ZiY Y<|Ra Y<|Za<|K3 0 3 5 Y<|Zr<|R2 ZT Y<|Rm Y<|Za<|⟨_, h, ES []⟩
  ·
   refine ZJ<|?_
   replace h := lx h ▸ ho1
   exact ⟨_, h, ES []⟩
 ·
  refine Tr<|Rm Y<|Ra Y<|Za<|?_
  obtain rfl := rt h
  exact Zo (ZS Y (.one<|rb Y))
theorem Zg6 {f : Vector Int 64} {r : Int} (h : ZaL f = some r) :
 CSpec Tryz.prog gl0 106 [.rp (List.map C40 f.toList) 0] (.int .i64 r) := by
 unfold ZaL at h
 replace h := Qm h
 refine So Tryz.func106 Y fun w0 A=>Tr<|Ra Y<|Za<|K1 0 Y<|Tr<|Ra Y<|Za<|I1 (fun n=>⟨[(3, .int .i64 n)], []⟩) h (fun h=>?_) fun n h=>?_
 ·
  refine Tr<|Rm Y<|Za<|Zg<|?_
  obtain ⟨r1, hl1, ho1⟩ := QU h
  refine L2 (fun n2 i=>⟨[(0, .rp (List.map C40 f.toList) 0), (3, .int .i64 n2), (7, .int .i64 i)], []⟩) hl1 (ES []) fun n1 n2 i h=>?_
  unfold Zas at h
  refine Tr<|R2 ZU Y<|Za<|Zh<|If h Y (fun h=>?_) fun h=>?_
  ·
   refine Zi<|I1 (fun n3=>⟨[(0, .rp (List.map C40 f.toList) 0), (3, .int .i64 n3), (7, .int .i64 i)], []⟩) h (fun h=>?_) fun n3 h=>?_
   ·
    refine Zg<|K3 0 3 7 Y<|Tr<|Rm Y<|Ra Y<|Za<|K4 0 3 4 7 Y<|Tr<|Ra Y<|Za<|Zg<|?_
    obtain ⟨r2, hl2, ho2⟩ := QU h
    refine L2 (fun n4 k=>⟨[(0, .rp (List.map C40 f.toList) 0), (3, .int .i64 n4), (4, .int .i64 i), (5, .int .i64 k), (7, .int .i64 i)], []⟩) hl2 (ES []) fun n2 n4 k h=>?_
    unfold Zau at h
    refine Zh<|Tr<|Rm Y<|R2 Zhm Y<|Za<|K6 0 3 4 5 7 11 Y<|If h Y (fun h=>?_) fun h=>?_
    ·
     refine Zi<|Zh<|Zg<|K5 0 3 4 5 7 Y<|Tr<|Rm Y<|R2 Za7 Y<|R2 Xa Y<|Ra Y<|Za<|K6 0 3 4 5 6 7 Y<|Tr<|Rm Y<|bE h fun q h_q h=>Rq Y (ZeE (ov Y) (ov Y) h_q)<|R2 Za7 Y<|Ra Y<|Za<|K6 0 3 4 5 6 7 Y<|Tr<|Rm Y<|Rm Y<|Rm Y<|R1 ZO Y<|bE h fun x h_x h=>Rq Y (Xe (ov Y) (ov Y) ZaE h_x)<|Rq Y (Zd (ov Y) ZbC<|QP<|XR (o := 0) (o' := (i.toNat * 1)) (Zz arL)<|XK h_x)<|Rm Y<|bE h fun q2 h_q2 h=>Rq Y (Zag (ov Y) (ov Y) h_q2)<|R2 Za7 Y<|R2 Zbd Y<|Rq Y (Zjt .neq (by simp) (ov Y) (ov Y) tB4)<|Za<|K6 0 3 4 5 7 30 Y<|If h Y (fun h=>?_) fun h=>?_
     ·
      exact K5 0 3 4 5 7 Y<|Zr<|Rm Y<|R2 ZiY Y<|Ra Y<|Za<|K5 0 3 4 5 7 Y<|Zr<|Rm Y<|R2 Zay Y<|Ra Y<|Za<|⟨_, h, ES []⟩
     ·
      exact Zi<|K5 0 3 4 5 7 Y<|Zr<|Rm Y<|R2 Zay Y<|Ra Y<|Za<|⟨_, h, ES []⟩
    ·
     refine ZJ<|?_
     replace h := lx h ▸ ho2
     exact ⟨_, h, ES []⟩
   ·
    exact Zr<|R2 ZT Y<|Rm Y<|Za<|⟨_, h, ES []⟩
  ·
   refine ZJ<|?_
   replace h := lx h ▸ ho1
   exact ⟨_, h, ES []⟩
 ·
  refine Tr<|Rm Y<|Ra Y<|Za<|?_
  obtain rfl := rt h
  exact Zo (ZS Y (.one<|rb Y))
theorem Zfj {f : Vector Int 64} {r : (List api_Flaw)} (h : Zbe f = some r) :
 CSpec Tryz.prog gl0 66 [.agg (List.map C40 f.toList)] (.sl 149 (List.map R149 r)) := by
 unfold Zbe at h
 replace h := Qm h
 refine So Tryz.func66 Y fun w0 A=>Tr<|Rq Y (JG (cva<|ov Y) arL tZ_42<|arD fun _ => Y)<|Ra Y<|Za<|K1 1 Y<|Tr<|Ra Y<|Za<|I1 (fun out=>⟨[(1, .rp (List.map C40 f.toList) 0), (3, .own 0 out.length)], [some ⟨149, List.map R149 out⟩]⟩) h (fun h=>?_) fun out h=>?_
 ·
  refine Tr<|Rq Y (Qb (ov Y) Ju (Q4<|Zz arL) arL)<|Rm Y<|Za<|Zg<|?_
  obtain ⟨r1, hl1, ho1⟩ := QU h
  refine L2 (fun out2 i=>⟨[(1, .rp (List.map C40 f.toList) 0), (3, .own 0 out2.length), (7, .agg (List.map C40 f.toList)), (8, .int .i64 i)], [some ⟨149, List.map R149 out2⟩]⟩) hl1 (ES [none]) fun n1 out2 i h=>?_
  unfold ZbZ at h
  refine Tr<|R2 ZU Y<|Za<|Zh<|If h Y (fun h=>?_) fun h=>?_
  ·
   refine Zi<|Zh<|Zg<|K4 1 3 7 8 Y<|Tr<|Rm Y<|bE h fun x h_x h=>Rq Y (ZiL (ov Y) (ov Y) ZaE ZbC h_x)<|Ra Y<|Ra Y<|Za<|K6 1 3 4 5 7 8 Y<|Tr<|Rm Y<|R2 ZbA Y<|Za<|K6 1 3 4 7 8 13 Y<|If h Y (fun h=>?_) fun h=>?_
   ·
    exact K5 1 3 4 7 8 Y<|Zr<|Rm Y<|Rm Y<|Rq Y (Xo (ys := [_, _]) Zh8 Zh3 Zjk (.cons (cvs (ov Y)<|Zk Y)<|.cons (cvs (ov Y)<|Zk Y) .nil) Y)<|R_q (.sl 149<|List.map R149 ([(api_Flaw.mk i 5)] : List api_Flaw)) Y (Jh Zef (.cons (cva<|ov Y) Y (pwD Y) .nil) Y Y)<|bE h fun l h_l h=>Rx Y (Q7 (ov Y) (Qs (ov Y) tZ_149) Zef Y Y Y (fun _=>Zb Y) Y h_l)<|Ra Y<|Za<|K4 1 3 7 8 Y<|Zr<|R2 ZT Y<|Rm Y<|Za<|⟨_, h, ES [some 0]⟩
   ·
    exact Zi<|K4 1 3 7 8 Y<|Zr<|R2 ZT Y<|Rm Y<|Za<|⟨_, h, ES [some 0]⟩
  ·
   refine ZJ<|?_
   replace h := lx h ▸ ho1
   exact ⟨_, h, ES [some 0]⟩
 ·
  refine Zh<|Tr<|Rm Y<|Rq Y (Zel (ov Y) Y Y Zef)<|R2 ZbA Y<|Za<|K3 1 3 22 Y<|If h Y (fun h=>?_) fun h=>?_
  ·
   refine K1 3 Y<|Tr<|Rm Y<|Ra Y<|Za<|?_
   obtain rfl := rt h
   exact Zo (ZS Y (.one<|.tmp Y<|View.ownM Y Y D149))
  ·
   refine Zi<|I1 (fun out3=>⟨[(1, .rp (List.map C40 f.toList) 0), (3, .own 0 out3.length)], [some ⟨149, List.map R149 out3⟩]⟩) h (fun h=>?_) fun out3 h=>?_
   ·
    refine Zh<|K2 1 3 Y<|Qf (cw := md0) (by kernel_rfl)<|bE h fun x2 h_x2 h=>Dq 0 Y (Xe (ov Y) (ov Y) ZaE h_x2)<|Dq 1 Y (Zd (ov Y) ZbC<|QP<|XR (o := 0) (o' := ((Int.toNat 0) * 1)) (Zz arL)<|XK h_x2)<|bE h fun y h_y h=>Dq 2 Y (Zp (ZdM h_y)<|.cons (ov Y) (.b Y) .nil)<|bE h fun q h_q h=>Dq 3 Y (ZaC (ov Y) (ov Y) h_q)<|bE h fun x3 h_x3 h=>Dq 4 Y (Xe (og (v := gv_frame_syncs) (k := .u16) (f := C40) (by simp [gl0]) fun _=>Y) (ov Y) ZnK h_x3)<|Dq 5 Y (Zd (ov Y) ZbC<|QP<|XR (o := 0) (o' := (q.toNat * 1)) (Zz arL)<|XK h_x3)<|D2 6 Xa Y<|Dd<|K3 1 3 30 Y<|If h Y (fun h=>?_) fun h=>?_
    ·
     exact K2 1 3 Y<|Zr<|Rm Y<|Rq Y (Xo (ys := [_, _]) Zh8 Zh3 Zjk (.cons (cvs (ov Y)<|Zk Y)<|.cons (cvs (ov Y)<|Zk Y) .nil) Y)<|R_q (.sl 149<|List.map R149 ([(api_Flaw.mk 0 1)] : List api_Flaw)) Y (Jh Zef (.cons (cva<|ov Y) Y (pwD Y) .nil) Y Y)<|bE h fun l2 h_l2 h=>Rx Y (Q7 (ov Y) (Qs (ov Y) tZ_149) Zef Y Y Y (fun _=>Zb Y) Y h_l2)<|Ra Y<|Za<|⟨_, h, ES [some 0]⟩
    ·
     exact Zi<|⟨_, h, ES [some 0]⟩
   ·
    refine I1 (fun out4=>⟨[(1, .rp (List.map C40 f.toList) 0), (3, .own 0 out4.length)], [some ⟨149, List.map R149 out4⟩]⟩) h (fun h=>?_) fun out4 h=>?_
    ·
     refine Tr<|Ra Y<|Za<|Zg<|?_
     obtain ⟨r2, hl2, ho2⟩ := QU h
     refine L2 (fun out5 i2=>⟨[(1, .rp (List.map C40 f.toList) 0), (3, .own 0 out5.length), (6, .int .i64 i2)], [some ⟨149, List.map R149 out5⟩]⟩) hl2 (ES [some 0]) fun n2 out5 i2 h=>?_
     unfold ZbW at h
     refine Zh<|Tr<|Rm Y<|R2 ZU Y<|Za<|K4 1 3 6 36 Y<|If h Y (fun h=>?_) fun h=>?_
     ·
      refine Zi<|Zh<|Zg<|K3 1 3 6 Y<|Tr<|Rm Y<|bE h fun x4 h_x4 h=>Rq Y (Xe (ov Y) (ov Y) ZaE h_x4)<|Rq Y (Zd (ov Y) ZbC<|QP<|XR (o := 0) (o' := (i2.toNat * 1)) (Zz arL)<|XK h_x4)<|bE h fun y2 h_y2 h=>Rq Y (Zp (Zez h_y2)<|.cons (ov Y) (.b Y) .nil)<|R1 Ji Y<|Za<|K4 1 3 6 43 Y<|If h Y (fun h=>?_) fun h=>?_
      ·
       exact K3 1 3 6 Y<|Zr<|Rm Y<|Rm Y<|Rq Y (Xo (ys := [_, _]) Zh8 Zh3 Zjk (.cons (cvs (ov Y)<|Zk Y)<|.cons (cvs (ov Y)<|Zk Y) .nil) Y)<|R_q (.sl 149<|List.map R149 ([(api_Flaw.mk i2 2)] : List api_Flaw)) Y (Jh Zef (.cons (cva<|ov Y) Y (pwD Y) .nil) Y Y)<|bE h fun l3 h_l3 h=>Rx Y (Q7 (ov Y) (Qs (ov Y) tZ_149) Zef Y Y Y (fun _=>Zb Y) Y h_l3)<|Ra Y<|Za<|K3 1 3 6 Y<|Zr<|Rm Y<|R2 ZT Y<|Ra Y<|Za<|⟨_, h, ES [some 0]⟩
      ·
       exact Zi<|K3 1 3 6 Y<|Zr<|Rm Y<|R2 ZT Y<|Ra Y<|Za<|⟨_, h, ES [some 0]⟩
     ·
      refine ZJ<|?_
      replace h := lx h ▸ ho2
      exact ⟨_, h, ES [some 0]⟩
    ·
     refine I1 (fun out6=>⟨[(1, .rp (List.map C40 f.toList) 0), (3, .own 0 out6.length)], [some ⟨149, List.map R149 out6⟩]⟩) h (fun h=>?_) fun out6 h=>?_
     ·
      refine Tr<|bE h fun x5 h_x5 h=>Rq Y (Xe (ov Y) (ov Y) ZaE h_x5)<|Rq Y (Zd (ov Y) ZbC<|QP<|XR (o := 0) (o' := ((Int.toNat 61) * 1)) (Zz arL)<|XK h_x5)<|bE h fun y3 h_y3 h=>Rq Y (Zp (JR h_y3)<|.cons (ov Y) (.b Y) .nil)<|bE h fun y4 h_y4 h=>Rq Y (Zp (ZhU h_y4)<|.cons (ov Y) (.b Y) .nil)<|R2 Xa Y<|Za<|K3 1 3 53 Y<|If h Y (fun h=>?_) fun h=>?_
      ·
       exact K2 1 3 Y<|Zr<|Rm Y<|Rq Y (Xo (ys := [_, _]) Zh8 Zh3 Zjk (.cons (cvs (ov Y)<|Zk Y)<|.cons (cvs (ov Y)<|Zk Y) .nil) Y)<|R_q (.sl 149<|List.map R149 ([(api_Flaw.mk 61 3)] : List api_Flaw)) Y (Jh Zef (.cons (cva<|ov Y) Y (pwD Y) .nil) Y Y)<|bE h fun l4 h_l4 h=>Rx Y (Q7 (ov Y) (Qs (ov Y) tZ_149) Zef Y Y Y (fun _=>Zb Y) Y h_l4)<|Ra Y<|Za<|⟨_, h, ES [some 0]⟩
      ·
       exact Zi<|⟨_, h, ES [some 0]⟩
     ·
      refine Zh<|Zh<|Qf (cw := md0) (by kernel_rfl)<|bE h fun x6 h_x6 h=>Dq 0 Y (Xe (ov Y) (ov Y) ZaE h_x6)<|Dq 1 Y (Zd (ov Y) ZbC<|QP<|XR (o := 0) (o' := ((Int.toNat 62) * 1)) (Zz arL)<|XK h_x6)<|bE h fun y5 h_y5 h=>Dq 2 Y (Zp (JR h_y5)<|.cons (ov Y) (.b Y) .nil)<|bE h fun q2 h_q2 h=>Dq 3 Y (ZeE (ov Y) (ov Y) h_q2)<|bE h fun x7 h_x7 h=>Dq 4 Y (Xe (ov Y) (ov Y) ZaE h_x7)<|Dq 5 Y (Zd (ov Y) ZbC<|QP<|XR (o := 0) (o' := ((Int.toNat 63) * 1)) (Zz arL)<|XK h_x7)<|bE h fun y6 h_y6 h=>Dq 6 Y (Zp (JR h_y6)<|.cons (ov Y) (.b Y) .nil)<|D2 7 ZfO Y<|bE h fun y7 h_y7 h=>Dq 8 Y (Zp (Zg6 h_y7)<|.cons (ov Y) (.b Y) .nil)<|D2 9 Xa Y<|Dd<|K2 3 67 Y<|If h Y (fun h=>?_) fun h=>?_
      ·
       refine K1 3 Y<|Zr<|Rm Y<|Rq Y (Xo (ys := [_, _]) Zh8 Zh3 Zjk (.cons (cvs (ov Y)<|Zk Y)<|.cons (cvs (ov Y)<|Zk Y) .nil) Y)<|R_q (.sl 149<|List.map R149 ([(api_Flaw.mk 62 4)] : List api_Flaw)) Y (Jh Zef (.cons (cva<|ov Y) Y (pwD Y) .nil) Y Y)<|bE h fun l5 h_l5 h=>Rx Y (Q7 (ov Y) (Qs (ov Y) tZ_149) Zef Y Y Y (fun _=>Zb Y) Y h_l5)<|Ra Y<|Za<|K1 3 Y<|Tr<|Rm Y<|Ra Y<|Za<|?_
       obtain rfl := rt h
       exact Zo (ZS Y (.one<|.tmp Y<|View.ownM Y Y D149))
      ·
       refine Zi<|K1 3 Y<|Tr<|Rm Y<|Ra Y<|Za<|?_
       obtain rfl := rt h
       exact Zo (ZS Y (.one<|.tmp Y<|View.ownM Y Y D149))
theorem ZeH {f : Vector Int 64} {r : Int × Bool} (h : Zaq f = some r) :
 CSpec Tryz.prog gl0 67 [.agg (List.map C40 f.toList)] (.tuple [.int .i64 r.1, .bool r.2]) := by
 unfold Zaq at h
 replace h := Qm h
 refine So Tryz.func67 Y fun w0 A=>Tr<|Rq Y (JG (cva<|ov Y) arL tZ_42<|arD fun _ => Y)<|Ra Y<|Ra Y<|Za<|Zh<|K1 1 Y<|Tr<|bE h fun x h_x h=>Rq Y (Xe (ov Y) (ov Y) ZaE h_x)<|Rq Y (Zd (ov Y) ZbC<|QP<|XR (o := 0) (o' := ((Int.toNat 1) * 1)) (Zz arL)<|XK h_x)<|bE h fun y h_y h=>Rq Y (Zp (Zez h_y)<|.cons (ov Y) (.b Y) .nil)<|R1 Ji Y<|Rm Y<|bE h fun x2 h_x2 h=>Rq Y (.guarded ((!y) == false) Y Y Y Y fun h => Xe (ov Y) (ov Y) ZaE<|gdT h_x2 h)<|Rq Y (.guarded ((!y) == false) Y Y Y Y fun h => Zd (ow Y h) ZbC<|QP<|XR (o := 0) (o' := ((Int.toNat 2) * 1)) (Zz arL)<|XK<|gdT h_x2 h)<|bE h fun y2 h_y2 h=>Rq Y (.guarded ((!y) == false) Y Y Y Y fun h => Zp (Zez<|gdT h_y2 h)<|.cons (ow Y h) (.b Y) .nil)<|Rq Y (.guarded ((!y) == false) Y Y Y Y fun h => Ji<|ow Y h)<|Rq Y (ZdY (ov Y) fun hp=>ow Y<|gF hp)<|Za<|K2 1 13 Y<|If h Y (fun h=>?_) fun h=>?_
 ·
  refine K0<|Tr<|Ra Y<|Ra Y<|Za<|?_
  obtain rfl := rt h
  exact Zo (ZS Y (.two (rb Y)<|rb Y))
 ·
  refine Zi<|K1 1 Y<|Tr<|bE h fun y3 h_y3 h=>Rq Y (Zp (ZdM h_y3)<|.cons (ov Y) (.b Y) .nil)<|Ra Y<|Ra Y<|Za<|?_
  obtain rfl := rt h
  exact Zo (ZS Y (.two (rb Y)<|rb Y))
theorem ZhA {number : Int} {memories : Int} {copies : Int} {r : (List Int)} (h : Zbv number memories copies = some r) :
 CSpec Tryz.prog gl0 68 [.int .i64 number, .int .i64 memories, .int .i64 copies] (.sl 3 (List.map R3 r)) := by
 unfold Zbv at h
 replace h := Qm h
 refine So Tryz.func68 Y fun w0 A=>Tr<|Ra Y<|Za<|K3 0 1 2 Y<|Tr<|Ra Y<|Za<|I1 (fun out=>⟨[(7, .own 0 out.length)], [some ⟨3, List.map R3 out⟩]⟩) h (fun h=>?_) fun out h=>?_
 ·
  refine Tr<|Rm Y<|Rm Y<|Za<|Zg<|?_
  obtain ⟨r1, hl1, ho1⟩ := QU h
  refine L2 (fun out2 i=>⟨[(0, .int .i64 number), (1, .int .i64 memories), (7, .own 0 out2.length), (9, .int .i64 copies), (10, .int .i64 i)], [some ⟨3, List.map R3 out2⟩]⟩) hl1 (ES [none]) fun n1 out2 i h=>?_
  unfold ZaU at h
  refine Tr<|R2 ZU Y<|Za<|Zh<|If h Y (fun h=>?_) fun h=>?_
  ·
   exact Zi<|Zh<|Zg<|K5 0 1 7 9 10 Y<|Tr<|Rm Y<|Ra Y<|Za<|K6 0 1 7 8 9 10 Y<|Zr<|Rm Y<|Rm Y<|Rm Y<|R2 ZT Y<|Rm Y<|bE h fun q h_q h=>Rq Y (ZaC (ov Y) (ov Y) h_q)<|R_q (.sl 3<|List.map R3 ([q] : List Int)) Y (Jh QB (.cons (cvs (ov Y)<|Zk Y) Y (.cons (.b Y) .nil) .nil) Y Y)<|bE h fun l h_l h=>Rx Y (Q7 (ov Y) (Qs (ov Y) tZ_3) QB Y Y Y (fun _=>Zb Y) Y h_l)<|Ra Y<|Za<|K5 0 1 7 9 10 Y<|Zr<|R2 ZT Y<|Rm Y<|Za<|⟨_, h, ES [some 0]⟩
  ·
   refine ZJ<|?_
   replace h := lx h ▸ ho1
   exact ⟨_, h, ES [some 0]⟩
 ·
  refine Tr<|Rm Y<|Ra Y<|Za<|?_
  obtain rfl := rt h
  exact Zo (ZS Y (.one<|.tmp Y<|View.ownM Y Y D3))
theorem Zaz {b : ring_bank} {k : Int} {r : Bool} (h : Xm b k = some r) :
 CSpec Tryz.prog gl0 107 [.rp [.sl 26 (List.map R26 b.memories), .sl 105 (List.map R105 b.spots)] 0, .int .i64 k] (.bool r) := by
 unfold Xm at h
 replace h := Qm h
 refine So Tryz.func107 Y fun w0 A=>Tr<|Ra Y<|Za<|Zh<|Qf (cw := md0) (by kernel_rfl)<|D1 0 Zc Y<|D1 1 ZO Y<|Dq 2 Y (Zy (ov Y) Zey)<|Dq 3 Y (Zd (ov Y) Zj4 Y)<|D1 4 Zc Y<|bE h fun x h_x h=>Dq 5 Y (Z4 (ov Y) (ov Y) Zj7 h_x)<|Dq 6 Y (Zy (ov Y) Zfx)<|Dq 7 Y (Zd (ov Y) tS3 Y)<|D2 8 ZU Y<|D1 9 Zc Y<|Dq 10 Y (.guarded ((decide (x.sector < 0)) == false) Y Y Y Y fun h => Zc<|ov Y)<|Dq 11 Y (.guarded ((decide (x.sector < 0)) == false) Y Y Y Y fun h => ZO<|ow Y h)<|Dq 12 Y (.guarded ((decide (x.sector < 0)) == false) Y Y Y Y fun h => Zy (ow Y h) Zey)<|Dq 13 Y (.guarded ((decide (x.sector < 0)) == false) Y Y Y Y fun h => Zd (ow Y h) Zj4 Y)<|Dq 14 Y (.guarded ((decide (x.sector < 0)) == false) Y Y Y Y fun h => Zc<|ov Y)<|bE h fun x2 h_x2 h=>Dq 15 Y (.guarded ((decide (x.sector < 0)) == false) Y Y Y Y fun h => Z4 (ow Y h) (ow Y h) Zj7<|gdT h_x2 h)<|Dq 16 Y (.guarded ((decide (x.sector < 0)) == false) Y Y Y Y fun h => Zy (ow Y h) ZgE)<|Dq 17 Y (.guarded ((decide (x.sector < 0)) == false) Y Y Y Y fun h => Zd (ow Y h) tS3 Y)<|Dq 18 Y (.guarded ((decide (x.sector < 0)) == false) Y Y Y Y fun h => Zc<|ov Y)<|Dq 19 Y (.guarded ((decide (x.sector < 0)) == false) Y Y Y Y fun h => ZO<|ow Y h)<|Dq 20 Y (.guarded ((decide (x.sector < 0)) == false) Y Y Y Y fun h => Zy (ow Y h) Zc1)<|Dq 21 Y (.guarded ((decide (x.sector < 0)) == false) Y Y Y Y fun h => Zd (ow Y h) Zi6 Y)<|Dq 22 Y (.guarded ((decide (x.sector < 0)) == false) Y Y Y Y fun h => Zc<|ov Y)<|bE h fun x3 h_x3 h=>Dq 23 Y (.guarded ((decide (x.sector < 0)) == false) Y Y Y Y fun h => Z4 (ow Y h) (ow Y h) Zdq<|gdT h_x3 h)<|Dq 24 Y (.guarded ((decide (x.sector < 0)) == false) Y Y Y Y fun h => Zy (ow Y h) ZeB)<|Dq 25 Y (.guarded ((decide (x.sector < 0)) == false) Y Y Y Y fun h => Zd (ow Y h) tS3 Y)<|Dq 26 Y (.guarded ((decide (x.sector < 0)) == false) Y Y Y Y fun h => Zbd (ow Y h)<|ow Y h)<|Dq 27 Y (ZdY (ov Y) fun hp=>ow Y<|gF hp)<|D1 28 Ql Y<|Dd<|?_
 obtain rfl := rt h
 exact Zo (ZS Y (.one<|rb Y))
theorem ZbH {b : ring_bank} {k : Int} {r : Int} (h : XP b k = some r) :
 CSpec Tryz.prog gl0 108 [.rp [.sl 26 (List.map R26 b.memories), .sl 105 (List.map R105 b.spots)] 0, .int .i64 k] (.int .i64 r) := by
 unfold XP at h
 replace h := Qm h
 refine So Tryz.func108 Y fun w0 A=>Tr<|Ra Y<|Za<|K2 0 1 Y<|Tr<|Rm Y<|R1 ZO Y<|Rq Y (Zy (ov Y) Zc1)<|Rq Y (Zd (ov Y) Zi6 Y)<|Rm Y<|bE h fun x h_x h=>Rq Y (Z4 (ov Y) (ov Y) Zdq h_x)<|Rq Y (Qb (ov Y) QA Y Y)<|Rx Y (Z9 (row := [_, _, _, _, _]) 0 Y ZaP Y tZ_26)<|Rx Y (Zj (ov Y) (ov Y) (Zv QA Y) Y Y Y (Nat.le_of_ble_eq_true Y) (Zb Y) Y)<|Za<|K3 0 1 5 Y<|Tr<|Rq Y (Zf (ov Y) Y Y Zx)<|Rq Y (Zs (ov Y) Y Y Y ZY Y)<|Rl tZ_49 ZQ Y<|Ra Y<|Za<|J0 (fun j => (.inr j)) ⟨[], []⟩ h (fun h=>?_) fun h=>?_
 ·
  refine K4 0 1 5 6 Y<|Tr<|Rm Y<|Rm Y<|Za<|Zg<|?_
  obtain ⟨r1, hl1, ho1⟩ := QU h
  refine L1 (fun i=>⟨[(0, .rp [.sl 26 (List.map R26 b.memories), .sl 105 (List.map R105 b.spots)] 0), (1, .int .i64 k), (5, .ptr 0 1 0 0), (6, .int .i64 (x.Sectors.length : Int)), (19, .int .i64 (x.Sectors.length : Int)), (20, .int .i64 i)], [some ⟨26, [[.int .i64 x.Slots, .int .i64 x.Limit, .sl 49 (List.map R49 x.Sectors), .sl 3 (List.map R3 x.Wear), .sl 4 (List.map R4 x.Bad)]]⟩]⟩) hl1 (ES [some 0]) fun n1 i h=>?_
  unfold JX at h
  refine Tr<|R2 ZU Y<|Za<|Zh<|If h Y (fun h=>?_) fun h=>?_
  ·
   refine Zi<|Zh<|Zg<|K6 0 1 5 6 19 20 Y<|Tr<|Rm Y<|Ra Y<|Za<|K7 0 1 5 6 7 19 20 Y<|Tr<|Rm Y<|R1 ZO Y<|Rq Y (Zy (ov Y) Zey)<|Rq Y (Zd (ov Y) Zj4 Y)<|Rm Y<|bE h fun x2 h_x2 h=>Rq Y (Z4 (ov Y) (ov Y) Zj7 h_x2)<|Rq Y (Zy (ov Y) Zfx)<|Rq Y (Zd (ov Y) tS3 Y)<|R2 ZT Y<|Rm Y<|R2 ZT Y<|Rm Y<|bE h fun q h_q h=>Rq Y (ZaC (ov Y) (ov Y) h_q)<|Ra Y<|Za<|Zh<|K7 0 1 5 6 8 19 20 Y<|Qf (cw := md0) (by kernel_rfl)<|Dq 0 Y (Zf (ov Y) Y Y ZbD)<|Dq 1 Y (Zs (ov Y) Y Y Y Zf1 Y)<|D1 2 Zc Y<|bE h fun x3 h_x3 h=>Dq 3 Y (Z4 (ov Y) (ov Y) ZdV h_x3)<|Dq 4 Y (Zd (ov Y) tS4 Y)<|D1 5 Ji Y<|D1 6 Zc Y<|Dq 7 Y (.guarded ((!x3) == true) Y Y Y Y fun h => Zf (ov Y) Y Y Zce)<|Dq 8 Y (.guarded ((!x3) == true) Y Y Y Y fun h => Zs (ow Y h) Y Y Y Zhb Y)<|Dq 9 Y (.guarded ((!x3) == true) Y Y Y Y fun h => Zc<|ov Y)<|bE h fun x4 h_x4 h=>Dq 10 Y (.guarded ((!x3) == true) Y Y Y Y fun h => Z4 (ow Y h) (ow Y h) QB<|gdT h_x4 h)<|Dq 11 Y (.guarded ((!x3) == true) Y Y Y Y fun h => Zd (ow Y h) tS3 Y)<|Dq 12 Y (.guarded ((!x3) == true) Y Y Y Y fun h => Zf (ov Y) Y Y Zga)<|Dq 13 Y (.guarded ((!x3) == true) Y Y Y Y fun h => Zs (ow Y h) Y Y Y tS3 Y)<|Dq 14 Y (.guarded ((!x3) == true) Y Y Y Y fun h => ZU (ow Y h)<|ow Y h)<|Dq 15 Y (Zaw (ov Y) fun hp=>ow Y<|gT hp)<|Dd<|K8 0 1 5 6 8 19 20 51 Y<|If h Y (fun h=>?_) fun h=>?_
   ·
    refine K1 8 Y<|Tr<|Rm Y<|Ra Y<|Za<|?_
    replace h := lx h ▸ ho1
    obtain rfl := rt h
    exact Zo (ZS Y (.one<|rb Y))
   ·
    exact Zi<|K6 0 1 5 6 19 20 Y<|Zr<|R2 ZT Y<|Rm Y<|Za<|⟨_, h, ES [some 0]⟩
  ·
   refine ZJ<|?_
   replace h := lx h ▸ ho1
   exact ⟨(), h, ES []⟩
 ·
  replace h := elr h
  replace h := t0i h
  refine Tr<|Ra Y<|Za<|?_
  obtain rfl := rt h
  exact Zo (ZS Y (.one<|rb Y))
theorem Zb6 {b : ring_bank} {k : Int} {sector : Int} {r : Int} (h : Xk b k sector = some r) :
 CSpec Tryz.prog gl0 109 [.rp [.sl 26 (List.map R26 b.memories), .sl 105 (List.map R105 b.spots)] 0, .int .i64 k, .int .i64 sector] (.int .i64 r) := by
 unfold Xk at h
 replace h := Qm h
 refine So Tryz.func109 Y fun w0 A=>Tr<|Ra Y<|Za<|K3 0 1 2 Y<|Tr<|Ra Y<|Za<|I1 (fun most=>⟨[(7, .int .i64 most)], []⟩) h (fun h=>?_) fun most h=>?_
 ·
  refine Tr<|Rm Y<|R1 ZO Y<|Rq Y (Zy (ov Y) Zc1)<|Rq Y (Zd (ov Y) Zi6 Y)<|Rm Y<|bE h fun x h_x h=>Rq Y (Z4 (ov Y) (ov Y) Zdq h_x)<|Rq Y (Zy (ov Y) Zx)<|Rq Y (Zd (ov Y) ZY Y)<|Rl tZ_49 ZQ Y<|Rm Y<|Za<|Zg<|?_
  obtain ⟨r1, hl1, ho1⟩ := QU h
  refine L2 (fun most2 i=>⟨[(2, .int .i64 sector), (7, .int .i64 most2), (20, .sl 49 (List.map R49 x.Sectors)), (21, .int .i64 (x.Sectors.length : Int)), (22, .int .i64 i)], []⟩) hl1 (ES []) fun n1 most2 i h=>?_
  unfold XY at h
  refine Tr<|R2 ZU Y<|Za<|Zh<|If h Y (fun h=>?_) fun h=>?_
  ·
   refine Zi<|Zh<|Zg<|K5 2 7 20 21 22 Y<|Tr<|Rm Y<|bE h fun x2 h_x2 h=>Rq Y (Z4 (ov Y) (ov Y) ZQ h_x2)<|Rq Y (Zd (ov Y) ZdQ Y)<|Ra Y<|Ra Y<|Za<|K7 2 7 8 9 20 21 22 Y<|Tr<|Rm Y<|bE h fun y h_y h=>Rq Y (Zp (ZbP h_y)<|.cons (ov Y) (.b Y) .nil)<|Rm Y<|Rq Y (Zn (ov Y) Y)<|Rq Y (Zn (ov Y) Y)<|Rq Y (Zn (ov Y) Y)<|Ra Y<|Ra Y<|Ra Y<|Za<|K8 2 7 8 10 12 20 21 22 Y<|Tr<|Rm Y<|Rm Y<|Rq Y (.guarded (y.2.2 == true) Y Y Y Y fun h => Zc<|ov Y)<|Rq Y (.guarded (y.2.2 == true) Y Y Y Y fun h => Zc<|ov Y)<|Rq Y (.guarded (y.2.2 == true) Y Y Y Y fun h => Xa (ow Y h)<|ow Y h)<|Rq Y (Zaw (ov Y) fun hp=>ow Y<|gT hp)<|Za<|K7 2 7 10 20 21 22 38 Y<|If h Y (fun h=>?_) fun h=>?_
   ·
    exact K6 2 7 10 20 21 22 Y<|Zr<|Rm Y<|Rm Y<|Rq Y (ZlN (ov Y) (ov Y) Y)<|Ra Y<|Za<|K5 2 7 20 21 22 Y<|Zr<|R2 ZT Y<|Rm Y<|Za<|⟨_, h, ES []⟩
   ·
    exact Zi<|K5 2 7 20 21 22 Y<|Zr<|R2 ZT Y<|Rm Y<|Za<|⟨_, h, ES []⟩
  ·
   refine ZJ<|?_
   replace h := lx h ▸ ho1
   exact ⟨_, h, ES []⟩
 ·
  refine Tr<|Rm Y<|R2 ZT Y<|Ra Y<|Za<|?_
  obtain rfl := rt h
  exact Zo (ZS Y (.one<|rb Y))
theorem Zf5 {b : ring_bank} {l : List Int} {r : Int} (h : JP b l = some r) :
 CSpec Tryz.prog gl0 69 [.rp [.sl 26 (List.map R26 b.memories), .sl 105 (List.map R105 b.spots)] 0, .sl 3 (List.map R3 l)] (.int .i64 r) := by
 unfold JP at h
 replace h := Qm h
 refine So Tryz.func69 Y fun w0 A=>Tr<|Ra Y<|Za<|J0 (fun j => (.inr j)) ⟨[(0, .rp [.sl 26 (List.map R26 b.memories), .sl 105 (List.map R105 b.spots)] 0), (1, .sl 3 (List.map R3 l))], []⟩ h (fun h=>?_) fun h=>?_
 ·
  refine K2 0 1 Y<|Tr<|Rm Y<|Rl tZ_3 QB Y<|Rm Y<|Za<|Zg<|?_
  obtain ⟨r1, hl1, ho1⟩ := QU h
  refine L1 (fun i=>⟨[(0, .rp [.sl 26 (List.map R26 b.memories), .sl 105 (List.map R105 b.spots)] 0), (1, .sl 3 (List.map R3 l)), (9, .sl 3 (List.map R3 l)), (10, .int .i64 (l.length : Int)), (11, .int .i64 i)], []⟩) hl1 (ES []) fun n1 i h=>?_
  unfold JF at h
  refine Tr<|R2 ZU Y<|Za<|Zh<|If h Y (fun h=>?_) fun h=>?_
  ·
   refine Zi<|Zh<|Zg<|K5 0 1 9 10 11 Y<|Tr<|bE h fun x h_x h=>Rq Y (Z4 (ov Y) (ov Y) QB h_x)<|Rq Y (Zd (ov Y) tS3 Y)<|Ra Y<|Za<|K6 0 1 6 9 10 11 Y<|Tr<|Rm Y<|Rm Y<|bE h fun y h_y h=>Rq Y (Zp (Zaz h_y)<|.cons (ov Y) (.b Y)<|.cons (ov Y) (.b Y) .nil)<|Rm Y<|Rq Y (.guarded (y == true) Y Y Y Y fun h => Zc<|ov Y)<|Rq Y (.guarded (y == true) Y Y Y Y fun h => Zc<|ov Y)<|bE h fun y2 h_y2 h=>Rq Y (.guarded (y == true) Y Y Y Y fun h => Zp (ZbH<|gdT h_y2 h)<|.cons (ow Y h) (.b Y)<|.cons (ow Y h) (.b Y) .nil)<|Rq Y (.guarded (y == true) Y Y Y Y fun h => ZU (ow Y h)<|ov Y)<|Rq Y (Zaw (ov Y) fun hp=>ow Y<|gT hp)<|Za<|K6 0 1 9 10 11 23 Y<|If h Y (fun h=>?_) fun h=>?_
   ·
    refine K0<|Tr<|Ra Y<|Za<|?_
    replace h := lx h ▸ ho1
    obtain rfl := rt h
    exact Zo (ZS Y (.one<|rb Y))
   ·
    exact Zi<|K5 0 1 9 10 11 Y<|Zr<|R2 ZT Y<|Rm Y<|Za<|⟨_, h, ES []⟩
  ·
   refine ZJ<|?_
   replace h := lx h ▸ ho1
   exact ⟨(), h, ES []⟩
 ·
  replace h := elr h
  replace h := t0i h
  refine J0 (fun j => (.inr j)) ⟨[], []⟩ h (fun h=>?_) fun h=>?_
  ·
   refine Tr<|Rm Y<|Rl tZ_3 QB Y<|Rm Y<|Za<|Zg<|?_
   obtain ⟨r2, hl2, ho2⟩ := QU h
   refine L1 (fun i2=>⟨[(0, .rp [.sl 26 (List.map R26 b.memories), .sl 105 (List.map R105 b.spots)] 0), (25, .sl 3 (List.map R3 l)), (26, .int .i64 (l.length : Int)), (27, .int .i64 i2)], []⟩) hl2 (ES []) fun n2 i2 h=>?_
   unfold Jz at h
   refine Tr<|R2 ZU Y<|Za<|Zh<|If h Y (fun h=>?_) fun h=>?_
   ·
    refine Zi<|Zh<|Zg<|K4 0 25 26 27 Y<|Tr<|bE h fun x2 h_x2 h=>Rq Y (Z4 (ov Y) (ov Y) QB h_x2)<|Rq Y (Zd (ov Y) tS3 Y)<|Ra Y<|Za<|K5 0 8 25 26 27 Y<|Tr<|Rm Y<|Rm Y<|bE h fun y3 h_y3 h=>Rq Y (Zp (Zaz h_y3)<|.cons (ov Y) (.b Y)<|.cons (ov Y) (.b Y) .nil)<|Rm Y<|Rq Y (.guarded (y3 == true) Y Y Y Y fun h => Zc<|ov Y)<|Rq Y (.guarded (y3 == true) Y Y Y Y fun h => Zc<|ov Y)<|Rq Y (.guarded (y3 == true) Y Y Y Y fun h => Zc<|ov Y)<|Rq Y (.guarded (y3 == true) Y Y Y Y fun h => Zc<|ov Y)<|bE h fun y4 h_y4 h=>Rq Y (.guarded (y3 == true) Y Y Y Y fun h => Zp (ZbH<|gdT h_y4 h)<|.cons (ow Y h) (.b Y)<|.cons (ow Y h) (.b Y) .nil)<|bE h fun y5 h_y5 h=>Rq Y (.guarded (y3 == true) Y Y Y Y fun h => Zp (Zb6<|gdT h_y5 h)<|.cons (ow Y h) (.b Y)<|.cons (ow Y h) (.b Y)<|.cons (ow Y h) (.b Y) .nil)<|Rq Y (.guarded (y3 == true) Y Y Y Y fun h => ZbA (ow Y h)<|ov Y)<|Rq Y (Zaw (ov Y) fun hp=>ow Y<|gT hp)<|Za<|K5 0 25 26 27 42 Y<|If h Y (fun h=>?_) fun h=>?_
    ·
     refine K0<|Tr<|Ra Y<|Za<|?_
     replace h := lx h ▸ ho2
     obtain rfl := rt h
     exact Zo (ZS Y (.one<|rb Y))
    ·
     exact Zi<|K4 0 25 26 27 Y<|Zr<|R2 ZT Y<|Rm Y<|Za<|⟨_, h, ES []⟩
   ·
    refine ZJ<|?_
    replace h := lx h ▸ ho2
    exact ⟨(), h, ES []⟩
  ·
   replace h := elr h
   replace h := t0i h
   refine Tr<|Ra Y<|Za<|?_
   obtain rfl := rt h
   exact Zo (ZS Y (.one<|rb Y))
theorem ZiB {f : Vector Int 64} {r : Bool} (h : Zdr f = some r) :
 CSpec Tryz.prog gl0 110 [.rp (List.map C40 f.toList) 0] (.bool r) := by
 unfold Zdr at h
 replace h := Qm h
 refine So Tryz.func110 Y fun w0 A=>Tr<|Ra Y<|Za<|J0 (fun j => (.inr j)) ⟨[], []⟩ h (fun h=>?_) fun h=>?_
 ·
  refine K1 0 Y<|Tr<|Rm Y<|Za<|Zg<|?_
  obtain ⟨r1, hl1, ho1⟩ := QU h
  refine L1 (fun i=>⟨[(0, .rp (List.map C40 f.toList) 0), (4, .int .i64 i)], []⟩) hl1 (ES []) fun n1 i h=>?_
  unfold Zcs at h
  refine Tr<|R2 ZU Y<|Za<|Zh<|If h Y (fun h=>?_) fun h=>?_
  ·
   refine Zi<|Zh<|Zg<|K2 0 4 Y<|Tr<|Rm Y<|Ra Y<|Za<|K3 0 3 4 Y<|Tr<|Rm Y<|Rm Y<|R1 ZO Y<|bE h fun x h_x h=>Rq Y (Xe (ov Y) (ov Y) ZaE h_x)<|Rq Y (Zd (ov Y) ZbC<|QP<|XR (o := 0) (o' := (i.toNat * 1)) (Zz arL)<|XK h_x)<|R2 ZbA Y<|Za<|K3 0 4 12 Y<|If h Y (fun h=>?_) fun h=>?_
   ·
    refine K0<|Tr<|Ra Y<|Za<|?_
    replace h := lx h ▸ ho1
    obtain rfl := rt h
    exact Zo (ZS Y (.one<|rb Y))
   ·
    exact Zi<|K2 0 4 Y<|Zr<|R2 ZT Y<|Rm Y<|Za<|⟨_, h, ES []⟩
  ·
   refine ZJ<|?_
   replace h := lx h ▸ ho1
   exact ⟨(), h, ES []⟩
 ·
  replace h := elr h
  replace h := t0i h
  refine Tr<|Ra Y<|Za<|?_
  obtain rfl := rt h
  exact Zo (ZS Y (.one<|rb Y))
theorem Zfc {p : Vector Int 96} {i : Int} {w : Int} {r : (Vector Int 96)} (h : JI p i w = some r) :
 GSpec Tryz.prog gl0 136 [.ptr 0 1 0 0, .int .i64 i, .int .u16 w] [some ⟨157, [(List.map C5 p.toList)]⟩] (.tuple []) [some ⟨157, [(List.map C5 r.toList)]⟩] := by
 unfold JI at h
 replace h := Qm h
 refine QF (by kernel_rfl) Tryz.func136 Y Y<|?_
 intro w0 A W φ0
 refine Tr<|Rm Y<|bE h fun q h_q h=>Rq Y (Zge (ov Y) (ov Y) h_q)<|R2 Ze0 Y<|Ra Y<|Za<|Zh<|K4 0 1 2 6 Y<|Tr<|Rm Y<|bE h fun q2 h_q2 h=>Rq Y (ZaC (ov Y) (ov Y) h_q2)<|R2 Zbd Y<|Za<|K4 0 2 6 12 Y<|If h Y (fun h=>?_) fun h=>?_
 ·
  refine Zh<|K3 0 2 6 Y<|Qf (cw := ⟨false, false, [], [20, 24], []⟩) (by kernel_rfl)<|D1 0 Zc Y<|D1 1 Zc Y<|D1 5 Zc Y<|bE h fun q3 h_q3 h=>Dq 6 Y (Zag (ov Y) (ov Y) h_q3)<|Dq 7 Y (Qj (ov Y) Zdx tI5 Y)<|D1 12 Zc Y<|D1 13 Zc Y<|D2 14 ZT Y<|Dq 15 Y (ZB (ov Y) Y Y)<|bE h fun x h_x h=>Dq 16 Y (JW (ov Y) (ov Y) ZdE Y Y h_x)<|Dq 17 Y (Zs (ov Y) Y Y Y tS5<|QP<|XR (o := 0) (o' := ((i64 ((i64 (q * 3)) + 1)).toNat * 1)) (Zz arL)<|XK h_x)<|Dq 20 Y (ZB (ov Y) Y Y)<|bE h fun x2 h_x2 h=>Dq 21 Y (JW (ov Y) (ov Y) ZdE Y Y h_x2)<|Z3 2 _ Y (by kernel_rfl) Y Y (fun hp'=>Zc<|ov Y)<|Z3 3 _ Y (by kernel_rfl) Y Y (fun hp'=>Zc<|ov Y)<|Z3 4 _ Y (by kernel_rfl) Y Y (fun hp'=>ZiH (ov Y) (ov Y) Y)<|Z3 8 _ Y (by kernel_rfl) Y Y (fun hp'=>Zc<|ov Y)<|Z3 9 _ Y (by kernel_rfl) Y Y (fun hp'=>Za7 (ov Y)<|ov Y)<|bE h fun q4 h_q4 h=>Z3 10 _ Y (by kernel_rfl) Y Y (fun hp'=>ZeE (ov Y) (ov Y) h_q4)<|Z3 11 _ Y (by kernel_rfl) Y Y (fun hp'=>Qj (ov Y) Zdx tI5 Y)<|Z3 18 _ Y (by kernel_rfl) Y Y (fun hp'=>Za7 (ov Y)<|ov Y)<|Z3 19 _ Y (by kernel_rfl) Y Y (fun hp'=>ZfO (ov Y)<|ov Y)<|Dw 23 22 Y (ZB (ov Y) Y Y) (Zj (ov Y) (ov Y) (Ze tS5) Y Y Y (arB h_x2) (Zb Y)<|arS h_x2) ?_ ?_
  ·
   refine Do 22 Y (Zj (ov Y) (ov Y) (Ze tS5) Y Y Y (arB h_x2) (Zb Y)<|arS h_x2)<|bE h fun x3 h_x3 h=>Dq 24 Y (JW (ov Y) (ov Y) ZdE Y Y h_x3)<|Do 25 Y (Zj (ov Y) (ov Y) (Ze tS5) Y Y Y (arB h_x3) (Zb Y)<|arS h_x3)<|Dd<|?_
   obtain rfl := rt h
   exact Zo<|JN [some 0] Y .nil (.cons Y (ro1 (by exact Eq.trans (b := 96) arL tZ_157.symm)<|rld<|arD fun _ => Y) .nil) Y Y<|QW rln
  ·
   refine Dq 23 Y (ZB (ov Y) Y Y)<|bE h fun x3 h_x3 h=>Dq 24 Y (JW (ov Y) (ov Y) ZdE Y Y h_x3)<|Do 25 Y (Zj (ov Y) (ov Y) (Ze tS5) Y Y Y (arB h_x3) (Zb Y)<|arS h_x3)<|Dd<|?_
   obtain rfl := rt h
   exact Zo<|JN [some 0] Y .nil (.cons Y (ro1 (by exact Eq.trans (b := 96) arL tZ_157.symm)<|rld<|arD fun _ => Y) .nil) Y Y<|QW rln
 ·
  refine Zi<|K3 0 2 6 Y<|Qf (cw := ⟨false, false, [], [52, 55], []⟩) (by kernel_rfl)<|D1 0 Zc Y<|D1 1 Zc Y<|D2 2 ZT Y<|D1 6 Zc Y<|D1 7 Zc Y<|D2 8 ZT Y<|Dq 9 Y (ZB (ov Y) Y Y)<|bE h fun x4 h_x4 h=>Dq 10 Y (JW (ov Y) (ov Y) ZdE Y Y h_x4)<|Dq 11 Y (Zs (ov Y) Y Y Y tS5<|QP<|XR (o := 0) (o' := ((i64 ((i64 (q * 3)) + 1)).toNat * 1)) (Zz arL)<|XK h_x4)<|D2 12 Za7 Y<|D1 13 Zc Y<|bE h fun q5 h_q5 h=>Dq 14 Y (Zag (ov Y) (ov Y) h_q5)<|Dq 15 Y (Qj (ov Y) Zdx tI5 Y)<|D2 16 ZfO Y<|Dq 19 Y (ZB (ov Y) Y Y)<|bE h fun x5 h_x5 h=>Dq 20 Y (JW (ov Y) (ov Y) ZdE Y Y h_x5)<|Z3 3 _ Y (by kernel_rfl) Y Y (fun hp'=>Zc<|ov Y)<|Z3 4 _ Y (by kernel_rfl) Y Y (fun hp'=>Zc<|ov Y)<|Z3 5 _ Y (by kernel_rfl) Y Y (fun hp'=>ZiH (ov Y) (ov Y) Y)<|Z3 17 _ Y (by kernel_rfl) Y Y (fun hp'=>Zc<|ov Y)<|Z3 18 _ Y (by kernel_rfl) Y Y (fun hp'=>Qj (ov Y) Zdx tI5 Y)<|Dw 22 21 Y (ZB (ov Y) Y Y) (Zj (ov Y) (ov Y) (Ze tS5) Y Y Y (arB h_x5) (Zb Y)<|arS h_x5) ?_ ?_
  ·
   refine Do 21 Y (Zj (ov Y) (ov Y) (Ze tS5) Y Y Y (arB h_x5) (Zb Y)<|arS h_x5)<|bE h fun x6 h_x6 h=>Dq 23 Y (JW (ov Y) (ov Y) ZdE Y Y h_x6)<|Do 24 Y (Zj (ov Y) (ov Y) (Ze tS5) Y Y Y (arB h_x6) (Zb Y)<|arS h_x6)<|Dd<|?_
   obtain rfl := rt h
   exact ZfQ [some 0] Y .nil (.cons Y (ro1 (by exact Eq.trans (b := 96) arL tZ_157.symm)<|rld<|arD fun _ => Y) .nil) Y Y<|QW rln
  ·
   refine Dq 22 Y (ZB (ov Y) Y Y)<|bE h fun x6 h_x6 h=>Dq 23 Y (JW (ov Y) (ov Y) ZdE Y Y h_x6)<|Do 24 Y (Zj (ov Y) (ov Y) (Ze tS5) Y Y Y (arB h_x6) (Zb Y)<|arS h_x6)<|Dd<|?_
   obtain rfl := rt h
   exact ZfQ [some 0] Y .nil (.cons Y (ro1 (by exact Eq.trans (b := 96) arL tZ_157.symm)<|rld<|arD fun _ => Y) .nil) Y Y<|QW rln
theorem ZhI {p : Vector Int 96} {f : Vector Int 64} {r : (Vector Int 96)} (h : Zdu p f = some r) :
 GSpec Tryz.prog gl0 111 [.ptr 0 1 0 0, .rp (List.map C40 f.toList) 0] [some ⟨157, [(List.map C5 p.toList)]⟩] (.tuple []) [some ⟨157, [(List.map C5 r.toList)]⟩] := by
 unfold Zdu at h
 replace h := Qm h
 refine QF (by kernel_rfl) Tryz.func111 Y Y<|?_
 intro w0 A W φ0
 refine Tr<|Rm Y<|Za<|Zg<|?_
 obtain ⟨r1, hl1, ho1⟩ := QU h
 refine L2 (fun o i=>⟨[(0, .ptr 0 1 0 0), (1, .rp (List.map C40 f.toList) 0), (5, .int .i64 i)], [some ⟨157, [(List.map C5 o.toList)]⟩]⟩) hl1 (ES [some 0]) fun n1 o i h=>?_
 unfold Zcu at h
 refine Tr<|R2 ZU Y<|Za<|Zh<|If h Y (fun h=>?_) fun h=>?_
 ·
  exact Zi<|Zh<|Zg<|K3 0 1 5 Y<|Tr<|Rm Y<|Ra Y<|Za<|K4 0 1 4 5 Y<|Zr<|Rm Y<|Rm Y<|Rm Y<|Rm Y<|R1 ZO Y<|bE h fun x h_x h=>Rq Y (Xe (ov Y) (ov Y) ZaE h_x)<|Rq Y (Zd (ov Y) ZbC<|QP<|XR (o := 0) (o' := (i.toNat * 1)) (Zz arL)<|XK h_x)<|bE h fun y h_y h=>Rx Y (ZG [0] (Zfc h_y) (.cons (ov Y) (.ptr _ _ _ Y)<|.cons (ov Y) (.dat Y)<|.cons (ov Y) (.dat Y) .nil) (.cons Y (ro1 (by exact Eq.trans (b := 96) arL tZ_157.symm)<|rld<|arD fun _ => Y) .nil) Y (.lent 0 (.inl Y) Y (ro1 (by exact Eq.trans (b := 96) arL tZ_157.symm)<|rld<|arD fun _ => Y) .nil) Y Y<|QW<|rld Y)<|Za<|K3 0 1 5 Y<|Zr<|R2 ZT Y<|Rm Y<|Za<|⟨_, h, ES [some 0]⟩
 ·
  refine ZJ<|?_
  replace h := lx h ▸ ho1
  obtain rfl := rt h
  exact ZfQ [some 0] Y .nil (.cons Y (ro1 (by exact Eq.trans (b := 96) arL tZ_157.symm)<|rld<|arD fun _ => Y) .nil) Y Y<|QW rln
theorem Zg8 {f : Vector Int 64} {r : (List Int) × Int} (h : ZaM f = some r) :
 CSpec Tryz.prog gl0 70 [.agg (List.map C40 f.toList)] (.tuple [.sl 5 (List.map R5 r.1), .int .i64 r.2]) := by
 unfold ZaM at h
 replace h := Qm h
 refine So Tryz.func70 Y fun w0 A=>Tr<|Rq Y (JG (cva<|ov Y) arL tZ_42<|arD fun _ => Y)<|Ra Y<|Ra Y<|Za<|Zh<|K1 1 Y<|Tr<|bE h fun y h_y h=>Rq Y (Zp (ZiB h_y)<|.cons (ov Y) (.b Y) .nil)<|Za<|If h Y (fun h=>?_) fun h=>?_
 ·
  refine K0<|Tr<|Ra Y<|Ra Y<|Za<|?_
  obtain rfl := rt h
  exact Zo (ZS Y (.two (.tmp Y<|View.nils 5)<|rb Y))
 ·
  refine Zi<|K1 1 Y<|Tr<|Rx Y (Z9 (row := (List.map C5 (Vector.replicate 96 0).toList)) 0 Y ZmB Y tZ_157)<|Za<|Tr<|bE h fun y2 h_y2 h=>Rx Y (ZG [0] (ZhI h_y2) (.cons (ov Y) (.ptr _ _ _ Y)<|.cons (ov Y) (.dat Y) .nil) (.cons Y (ro1 (by exact Eq.trans (b := 96) arL tZ_157.symm)<|rld<|arD fun _ => Y) .nil) Y (.lent 0 (.inl Y) Y (ro1 (by exact Eq.trans (b := 96) arL tZ_157.symm)<|rld<|arD fun _ => Y) .nil) Y Y<|QW<|rld Y)<|Za<|K1 4 Y<|Tr<|bE h fun l h_l h=>QZ (Ent.sel [none] (sr 4 Y (.frp ⟨Y, ⟨_, Y⟩, Y, (arD fun _ => Y)⟩) sn) (.row 157 .nil) Y Y)<|Rq Y (ZkA (f := C5) (ov Y) ZdE tZ_5 (Zz arL) Y on on h_l)<|Ra Y<|Ra Y<|Za<|?_
  obtain rfl := rt h
  exact Zo (ZS Y (.two (rb Y)<|rb Y))
theorem ZfF {s : List Int} {power : Int} {r : Int × Bool × (List Int)} (h : Xn s power = some r) :
 GSpec Tryz.prog gl0 74 [.own 0 s.length, .int .i64 power] [some ⟨5, List.map R5 s⟩] (.tuple [.int .i64 r.1, .bool r.2.1]) [some ⟨5, List.map R5 r.2.2⟩] := by
 unfold Xn at h
 replace h := Qm h
 refine QF (by kernel_rfl) Tryz.func74 Y Y<|?_
 intro w0 A W φ0
 refine Tr<|Ra Y<|Ra Y<|Za<|K2 0 1 Y<|Tr<|Rm Y<|Ra Y<|Za<|Zh<|K3 0 1 6 Y<|Tr<|Rm Y<|R2 Zbd Y<|Za<|K4 0 1 6 10 Y<|If h Y (fun h=>?_) fun h=>?_
 ·
  refine K3 0 1 6 Y<|Zr<|Rm Y<|Rm Y<|Rq Y (Zel (ov Y) Y Y Qp)<|bE h fun q h_q h=>Rq Y (Zge (ov Y) (ov Y) h_q)<|bE h fun u h_u h=>Rq Y (Zmw (ov Y) Y Y Qp on (oi<|ov Y) h_u)<|Ra Y<|Za<|I1 (fun o=>⟨[(1, .int .i64 power)], [some ⟨5, List.map R5 o⟩]⟩) h (fun h=>?_) fun o h=>?_
  ·
   refine K2 1 6 Y<|Tr<|Rm Y<|Rq Y (ZlR (ov Y) Y (List.length_map ..) Qp)<|Rm Y<|Za<|Zg<|?_
   obtain ⟨r1, hl1, ho1⟩ := QU h
   refine L2 (fun o2 i=>⟨[(1, .int .i64 power), (6, .osl 0 o2.length (Int.toNat 0) (Int.toNat (q - 0))), (17, .int .i64 ((Int.toNat (q - 0) : Nat) : Int)), (18, .int .i64 i)], [some ⟨5, List.map R5 o2⟩]⟩) hl1 (ES [some 0]<|sd 1 Y Y<|sr 6 Y (.osl _ _ _ Y)<|sd 17 Y Y<|sd 18 Y Y sn) fun n1 o2 i h=>?_
   unfold QO at h
   refine Tr<|R2 ZU Y<|Za<|Zh<|If h Y (fun h=>?_) fun h=>?_
   ·
    exact Zi<|Zh<|Zg<|K4 1 6 17 18 Y<|Tr<|Rm Y<|Ra Y<|Za<|K5 1 6 7 17 18 Y<|Zr<|Rm Y<|Rm Y<|bE h fun u2 h_u2 h=>bE h fun x2 h_x2 h=>Rq Y (Zk2 (ov Y) (ov Y) Qp Y Y (Zgi h_u).1 h_u2 h_x2)<|Rx Y (Xh (u' := 255) (ov Y) (ov Y) (Ze tS5) Y Y h_x2 Y (Zb Y) Y)<|Za<|K4 1 6 17 18 Y<|Zr<|R2 ZT Y<|Rm Y<|Za<|⟨_, h, ES [some 0]<|sd 1 Y Y<|sr 6 Y (Zn1 (Eq.symm<|(List.length_set ..).trans Y) Y)<|sd 17 Y Y<|sd 18 Y Y sn⟩
   ·
    refine ZJ<|?_
    replace h := lx h ▸ ho1
    exact ⟨_, h, ES [some 0]⟩
  ·
   refine Tr<|Rm Y<|R2 Zay Y<|Rq Y (ZlN (ov Y) (ov Y) Y)<|Rm Y<|R2 ZbA Y<|Ra Y<|Ra Y<|Za<|?_
   obtain rfl := rt h
   exact Zo<|JN [some 0] Y (.cons (.tmp Y)<|.cons (.tmp Y) .nil) (.cons Y (roM D5) .nil) Y Y<|QW<|rlc (.dat Y)<|rlc (.dat Y) rln
 ·
  refine Zi<|I1 (fun o3=>⟨[(1, .int .i64 power)], [some ⟨5, List.map R5 o3⟩]⟩) h (fun h=>?_) fun o3 h=>?_
  ·
   refine K2 1 6 Y<|Tr<|Rm Y<|Rq Y (Zel (ov Y) Y Y Qp)<|Rm Y<|Za<|Zg<|?_
   obtain ⟨r2, hl2, ho2⟩ := QU h
   refine L2 (fun o4 i2=>⟨[(1, .int .i64 power), (6, .own 0 o4.length), (17, .int .i64 (s.length : Int)), (18, .int .i64 i2)], [some ⟨5, List.map R5 o4⟩]⟩) hl2 (ES [some 0]) fun n2 o4 i2 h=>?_
   unfold QM at h
   refine Tr<|R2 ZU Y<|Za<|Zh<|If h Y (fun h=>?_) fun h=>?_
   ·
    exact Zi<|Zh<|Zg<|K4 1 6 17 18 Y<|Tr<|Rm Y<|Ra Y<|Za<|K5 1 6 7 17 18 Y<|Zr<|Rm Y<|Rm Y<|bE h fun x3 h_x3 h=>Rq Y (Qh (ov Y) (ov Y) Qp Y Y h_x3)<|Rx Y (Xh (u' := 255) (ov Y) (ov Y) (Ze tS5) Y Y h_x3 Y (Zb Y) Y)<|Za<|K4 1 6 17 18 Y<|Zr<|R2 ZT Y<|Rm Y<|Za<|⟨_, h, ES [some 0]<|sd 1 Y Y<|sr 6 Y (Zb2 (Eq.symm<|(List.length_set ..).trans Y) Y)<|sd 17 Y Y<|sd 18 Y Y sn⟩
   ·
    refine ZJ<|?_
    replace h := lx h ▸ ho2
    exact ⟨_, h, ES [some 0]⟩
  ·
   refine Tr<|Rm Y<|R2 Zay Y<|Rq Y (ZlN (ov Y) (ov Y) Y)<|Rm Y<|R2 ZbA Y<|Ra Y<|Ra Y<|Za<|?_
   obtain rfl := rt h
   exact Zo<|JN [some 0] Y (.cons (.tmp Y)<|.cons (.tmp Y) .nil) (.cons Y (roM D5) .nil) Y Y<|QW<|rlc (.dat Y)<|rlc (.dat Y) rln
theorem Zed {s : List Int} {at_ : Int} {data : List Int} {power : Int} {r : Int × Bool × (List Int)} (h : XI s at_ data power = some r) :
 GSpec Tryz.prog gl0 72 [.own 0 s.length, .int .i64 at_, .sl 5 (List.map R5 data), .int .i64 power] [some ⟨5, List.map R5 s⟩] (.tuple [.int .i64 r.1, .bool r.2.1]) [some ⟨5, List.map R5 r.2.2⟩] := by
 unfold XI at h
 replace h := Qm h
 refine QF (by kernel_rfl) Tryz.func72 Y Y<|?_
 intro w0 A W φ0
 refine Tr<|Ra Y<|Ra Y<|Za<|J2 (fun j => (.inr j)) (fun o power2=>⟨[(3, .int .i64 power2)], [some ⟨5, List.map R5 o⟩]⟩) h (fun h=>?_) fun o power2 h=>?_
 ·
  refine K4 0 1 2 3 Y<|Tr<|Rm Y<|Rl tZ_5 Qp Y<|Rm Y<|Za<|Zg<|?_
  obtain ⟨r1, hl1, ho1⟩ := QU h
  refine L3 (fun o2 power3 i=>⟨[(0, .own 0 o2.length), (1, .int .i64 at_), (3, .int .i64 power3), (12, .sl 5 (List.map R5 data)), (13, .int .i64 (data.length : Int)), (14, .int .i64 i)], [some ⟨5, List.map R5 o2⟩]⟩) hl1 (ES [some 0]) fun n1 o2 power3 i h=>?_
  unfold Xj at h
  refine Tr<|R2 ZU Y<|Za<|Zh<|If h Y (fun h=>?_) fun h=>?_
  ·
   refine Zi<|Zh<|Zg<|K6 0 1 3 12 13 14 Y<|Tr<|Rm Y<|bE h fun x h_x h=>Rq Y (Z4 (ov Y) (ov Y) Qp h_x)<|Rq Y (Zd (ov Y) tS5 Y)<|Ra Y<|Ra Y<|Za<|Zh<|K8 0 1 3 10 11 12 13 14 Y<|Tr<|Rm Y<|R2 Zbd Y<|Za<|K9 0 1 3 10 11 12 13 14 20 Y<|If h Y (fun h=>?_) fun h=>?_
   ·
    refine K4 0 1 10 11 Y<|Tr<|Rm Y<|Rm Y<|Rm Y<|R2 ZT Y<|bE h fun x2 h_x2 h=>Rq Y (Qh (ov Y) (ov Y) Qp Y Y h_x2)<|Rq Y (Qt (ov Y) Y Y h_x2 tS5 Y)<|Rm Y<|R2 ZfO Y<|R2 Za7 Y<|bE h fun x3 h_x3 h=>Rq Y (Qh (ov Y) (ov Y) Qp Y Y h_x3)<|Rx Y (Xh (u' := (XS .u8 x2 (bor .u8 x 15))) (ov Y) (ov Y) (Ze tS5) Y Y h_x3 Y (Zb Y) Y)<|Za<|K0<|Tr<|Ra Y<|Ra Y<|Za<|?_
    replace h := lx h ▸ ho1
    obtain rfl := rt h
    exact Zo<|JN [some 0] Y (.cons (.tmp Y)<|.cons (.tmp Y) .nil) (.cons Y (roM D5) .nil) Y Y<|QW<|rlc (.dat Y)<|rlc (.dat Y) rln
   ·
    exact Zi<|K8 0 1 3 10 11 12 13 14 Y<|Tr<|Rm Y<|Rm Y<|Rm Y<|R2 ZT Y<|bE h fun x4 h_x4 h=>Rq Y (Qh (ov Y) (ov Y) Qp Y Y h_x4)<|Rq Y (Qt (ov Y) Y Y h_x4 tS5 Y)<|Rm Y<|R2 Za7 Y<|bE h fun x5 h_x5 h=>Rq Y (Qh (ov Y) (ov Y) Qp Y Y h_x5)<|Rx Y (Xh (u' := (XS .u8 x4 x)) (ov Y) (ov Y) (Ze tS5) Y Y h_x5 Y (Zb Y) Y)<|Za<|K6 0 1 3 12 13 14 Y<|Zr<|Rm Y<|R2 Zay Y<|Ra Y<|Za<|K6 0 1 3 12 13 14 Y<|Zr<|R2 ZT Y<|Rm Y<|Za<|⟨_, h, ES [some 0]<|sr 0 Y (Zb2 (Eq.symm<|(List.length_set ..).trans Y) Y)<|sd 1 Y Y<|sd 3 Y Y<|sd 12 Y Y<|sd 13 Y Y<|sd 14 Y Y sn⟩
  ·
   refine ZJ<|?_
   replace h := lx h ▸ ho1
   exact ⟨_, h, ES [some 0]⟩
 ·
  replace h := elr h
  replace h := t2i h
  refine Tr<|Rm Y<|Ra Y<|Ra Y<|Za<|?_
  obtain rfl := rt h
  exact Zo<|JN [some 0] Y (.cons (.tmp Y)<|.cons (.tmp Y) .nil) (.cons Y (roM D5) .nil) Y Y<|QW<|rlc (.dat Y)<|rlc (.dat Y) rln
theorem Zc6 {b : ring_Recorder} {k : Int} {power : Int} {r : Int × Bool × ring_Recorder} (h : X6 b k power = some r) :
 GSpec Tryz.prog gl0 112 [.ptr 0 1 0 0, .int .i64 k, .int .i64 power] [some ⟨102, [[.own 1 b.bank.memories.length, .own 2 b.bank.spots.length, .int .i64 b.copies, .bool b.frozen, .bool b.stopped, .int .i64 b.last, .bool b.some_]]⟩, some ⟨26, List.map O26 b.bank.memories⟩, some ⟨105, List.map R105 b.bank.spots⟩] (.tuple [.int .i64 r.1, .bool r.2.1]) [some ⟨102, [[.own 3 r.2.2.bank.memories.length, .own 4 r.2.2.bank.spots.length, .int .i64 r.2.2.copies, .bool r.2.2.frozen, .bool r.2.2.stopped, .int .i64 r.2.2.last, .bool r.2.2.some_]]⟩, none, none, some ⟨26, List.map O26 r.2.2.bank.memories⟩, some ⟨105, List.map R105 r.2.2.bank.spots⟩] := by
 unfold X6 at h
 replace h := Qm h
 refine QF (by kernel_rfl) Tryz.func112 Y Y<|?_
 intro w0 A W φ0
 refine ZfN (Ent.sel [some 0, some 1, some 2, some 1, some 2] (sr 0 Y (.ptr (r' := 0) _ _ _ Y)<|sd 1 Y Y<|sd 2 Y Y sn) (.cons Y (ro1 (by exact tZ_102.symm)<|rlc (.own (r' := 3) _ Y)<|rlc (.own (r' := 4) _ Y)<|rlc (.dat Y)<|rlc (.dat Y)<|rlc (.dat Y)<|rlc (.dat Y)<|rlc (.dat Y) rln)<|.dead<|.dead<|.cons Y (roO XZ)<|.cons Y (roM D105) .nil) Y Y)<|QG [some ⟨102, [[.own 3 b.bank.memories.length, .own 4 b.bank.spots.length, .int .i64 b.copies, .bool b.frozen, .bool b.stopped, .int .i64 b.last, .bool b.some_]]⟩, none, none, some ⟨26, List.map O26 b.bank.memories⟩, some ⟨105, List.map R105 b.bank.spots⟩] Y<|Tr<|Ra Y<|Ra Y<|Za<|Zh<|K3 0 1 2 Y<|Qf (cw := md0) (by kernel_rfl)<|D1 0 Zc Y<|Dq 1 Y (ZB (ov Y) Y Y)<|Dq 2 Y (Zf (ov Y) Y Y Zc1)<|Dq 3 Y (Zs (ov Y) Y Y Y Zi6 Y)<|D1 4 Zc Y<|bE h fun x h_x h=>Dq 5 Y (Qh (ov Y) (ov Y) Zdq Y Y h_x)<|D1 6 Zc Y<|D1 7 Zc Y<|bE h fun y h_y h=>Dq 8 Y (Zco (ZbH h_y) .int<|.cons (ov Y) (View.ptrS (j := 0) (k := 2) Y Y Y (Nat.le_of_ble_eq_true Y)<|.cons (View.ownO Y Y XZ (fun x=>(D26 x).1) Zkd)<|.cons (View.ownM Y Y D105) .nil)<|.cons (ov Y) (Dat.view<|.b Y) .nil)<|D1 9 Ql Y<|D1 10 Ql Y<|Dd<|K5 0 1 2 8 9 Y<|Tr<|Rm Y<|Rm Y<|Rm Y<|bE h fun y2 h_y2 h=>Rq Y (Zco (Zb6 h_y2) .int<|.cons (ov Y) (View.ptrS (j := 0) (k := 2) Y Y Y (Nat.le_of_ble_eq_true Y)<|.cons (View.ownO Y Y XZ (fun x=>(D26 x).1) Zkd)<|.cons (View.ownM Y Y D105) .nil)<|.cons (ov Y) (Dat.view<|.b Y)<|.cons (ov Y) (Dat.view<|.b Y) .nil)<|Ra Y<|Za<|K6 0 1 2 8 9 10 Y<|Tr<|Rm Y<|Rq Y (ZB (ov Y) Y<|List.length_map ..)<|Rq Y (Zdc (ov Y) Y Y Zce)<|QZ (Ent.focusH (r := 3) (j := 3) (e' := 3) (g := R3) (ys := x.Wear) Y (ZD h_x).2 Y DR3)<|Rq Y (ZbX (ov Y) Y Y (ZD h_x).2 Zhb Y)<|Rm Y<|bE h fun x2 h_x2 h=>Rq Y (Qh (ov Y) (ov Y) QB Y Y h_x2)<|Rq Y (Qt (ov Y) Y Y h_x2 tS3 Y)<|R2 ZT Y<|bE h fun x3 h_x3 h=>Rq Y (Qh (ov Y) (ov Y) QB Y Y h_x3)<|Rx Y (Xh (u' := (i64 (x2 + 1))) (ov Y) (ov Y) (Ze tS3) Y Y h_x3 Y (Zb Y) Y)<|Zen [some ⟨102, [[.own 3 b.bank.memories.length, .own 4 b.bank.spots.length, .int .i64 b.copies, .bool b.frozen, .bool b.stopped, .int .i64 b.last, .bool b.some_]]⟩, none, none, some ⟨26, List.set (List.map O26 b.bank.memories) k.toNat [.int .i64 x.Slots, .int .i64 x.Limit, .osub 49 (List.map O49 x.Sectors), .own 5 x.Wear.length, .osub 4 (List.map R4 x.Bad)]⟩, some ⟨105, List.map R105 b.bank.spots⟩, some ⟨3, List.map R3 (x.Wear.set y.toNat (i64 (x2 + 1)))⟩] Y<|?_
 have h_x4 := XG (y := (api_Memory.mk x.Slots x.Limit x.Sectors (x.Wear.set y.toNat (i64 (x2 + 1))) x.Bad)) h_x
 have h_x5 := XG (y := (api_Memory.mk x.Slots x.Limit x.Sectors (x.Wear.set y.toNat (i64 (x2 + 1))) x.Bad)) h_x
 have h_x6 := XG (y := (api_Memory.mk x.Slots x.Limit x.Sectors (x.Wear.set y.toNat (i64 (x2 + 1))) x.Bad)) h_x
 have h_x7 := XG (y := (api_Memory.mk x.Slots x.Limit x.Sectors (x.Wear.set y.toNat (i64 (x2 + 1))) x.Bad)) h_x
 refine QZ (Ent.absorbH (r := 3) (j := 3) (q := 5) Y (ZD h_x).2 Y Y ((List.length_map ..).trans<|(List.length_set ..).trans Y) Y)<|QZ (Ent.closeH (r := 3) (y := (api_Memory.mk x.Slots x.Limit x.Sectors (x.Wear.set y.toNat (i64 (x2 + 1))) x.Bad)) Y Y)<|Za<|K6 0 1 2 8 9 10 Y<|QG [some ⟨102, [[.own 3 b.bank.memories.length, .own 4 b.bank.spots.length, .int .i64 b.copies, .bool b.frozen, .bool b.stopped, .int .i64 b.last, .bool b.some_]]⟩, none, none, some ⟨26, List.map O26 (b.bank.memories.set k.toNat (api_Memory.mk x.Slots x.Limit x.Sectors (x.Wear.set y.toNat (i64 (x2 + 1))) x.Bad))⟩, some ⟨105, List.map R105 b.bank.spots⟩, none] Y<|Tr<|Rm Y<|Rq Y (ZB (ov Y) Y<|(List.length_map ..).trans<|(List.length_set ..).trans Y)<|Rq Y (Zdc (ov Y) Y ((List.length_set ..).trans Y) Zx)<|QZ (Ent.focusH (r := 3) (j := 2) (e' := 49) (g := O49) (ys := x.Sectors) Y (ZD h_x4).2 Y QN)<|Rq Y (ZbX (ov Y) Y ((List.length_set ..).trans Y) (ZD h_x4).2 ZY Y)<|Rm Y<|bE h fun x8 h_x8 h=>Rq Y (Qh (ov Y) (ov Y) ZQ Y Y h_x8)<|QZ (Ent.focusH (r := 6) (j := 0) (e' := 5) (g := R5) (ys := x8) Y (ZD h_x8).2 Y DR5)<|Rq Y (ZbX (ov Y) Y Y (ZD h_x8).2 ZdQ Y)<|Rm Y<|bE h fun y3 h_y3 h=>Rx Y (ZG [7] (ZfF h_y3) (.cons (ov Y) (.own _ Y)<|.cons (ov Y) (.dat Y) .nil) (.cons Y (roM D5) .nil) Y (.keep Y Y<|.none<|.none<|.keep Y Y<|.keep Y Y<|.none<|.keep Y Y<|.lent 0 (.inl Y) Y (roM D5) .nil) Y Y<|QW<|rld Y)<|Rm Y<|Rq Y (Zn (ov Y) Y)<|Rq Y (Zn (ov Y) Y)<|Ra Y<|Ra Y<|Zen [some ⟨102, [[.own 3 b.bank.memories.length, .own 4 b.bank.spots.length, .int .i64 b.copies, .bool b.frozen, .bool b.stopped, .int .i64 b.last, .bool b.some_]]⟩, none, none, some ⟨26, List.set (List.map O26 (b.bank.memories.set k.toNat (api_Memory.mk x.Slots x.Limit x.Sectors (x.Wear.set y.toNat (i64 (x2 + 1))) x.Bad))) k.toNat [.int .i64 x.Slots, .int .i64 x.Limit, .own 6 x.Sectors.length, .osub 3 (List.map R3 (x.Wear.set y.toNat (i64 (x2 + 1)))), .osub 4 (List.map R4 x.Bad)]⟩, some ⟨105, List.map R105 b.bank.spots⟩, none, some ⟨49, List.set (List.map O49 x.Sectors) y.toNat [.own 7 x8.length]⟩, some ⟨5, List.map R5 y3.2.2⟩] Y<|?_
 have h_x9 := XG (y := y3.2.2) h_x8
 have h_x10 := XG (y := (api_Memory.mk x.Slots x.Limit (x.Sectors.set y.toNat y3.2.2) (x.Wear.set y.toNat (i64 (x2 + 1))) x.Bad)) h_x4
 have h_x11 := XG (y := (api_Memory.mk x.Slots x.Limit (x.Sectors.set y.toNat y3.2.2) (x.Wear.set y.toNat (i64 (x2 + 1))) x.Bad)) h_x4
 have h_x12 := XG (y := (api_Memory.mk x.Slots x.Limit (x.Sectors.set y.toNat y3.2.2) (x.Wear.set y.toNat (i64 (x2 + 1))) x.Bad)) h_x4
 have h_x13 := XG (y := (api_Memory.mk x.Slots x.Limit (x.Sectors.set y.toNat y3.2.2) (x.Wear.set y.toNat (i64 (x2 + 1))) x.Bad)) h_x4
 refine QZ (Ent.absorbH (r := 6) (j := 0) (q := 7) Y (ZD h_x8).2 Y Y ((List.length_map ..).trans<|Zfy h_y3) Y)<|QZ (Ent.closeH (r := 6) (y := y3.2.2) Y Y)<|QZ (Ent.absorbH (r := 3) (j := 2) (q := 6) Y (ZD h_x4).2 Y Y ((List.length_map ..).trans<|(List.length_set ..).trans Y) Y)<|QZ (Ent.closeH (r := 3) (y := (api_Memory.mk x.Slots x.Limit (x.Sectors.set y.toNat y3.2.2) (x.Wear.set y.toNat (i64 (x2 + 1))) x.Bad)) Y Y)<|Za<|Zh<|K7 0 1 2 8 9 10 11 Y<|QG [some ⟨102, [[.own 3 b.bank.memories.length, .own 4 b.bank.spots.length, .int .i64 b.copies, .bool b.frozen, .bool b.stopped, .int .i64 b.last, .bool b.some_]]⟩, none, none, some ⟨26, List.map O26 ((b.bank.memories.set k.toNat (api_Memory.mk x.Slots x.Limit x.Sectors (x.Wear.set y.toNat (i64 (x2 + 1))) x.Bad)).set k.toNat (api_Memory.mk x.Slots x.Limit (x.Sectors.set y.toNat y3.2.2) (x.Wear.set y.toNat (i64 (x2 + 1))) x.Bad))⟩, some ⟨105, List.map R105 b.bank.spots⟩, none, none, none] Y<|Tr<|Rm Y<|R1 Ji Y<|Za<|K7 0 1 2 8 9 10 47 Y<|If h Y (fun h=>?_) fun h=>?_
 ·
  refine K1 2 Y<|Tr<|Rm Y<|Ra Y<|Ra Y<|Za<|?_
  obtain rfl := rt h
  exact Zo<|JN [some 0, some 1, some 2, some 3, some 4] Y (.cons (.tmp Y)<|.cons (.tmp Y) .nil) (.cons Y (ro1 (by exact tZ_102.symm)<|rlc (Zb2 (Eq.symm<|(List.length_set ..).trans<|(List.length_set ..).trans Y) Y)<|rlc (.own _ Y)<|rlc (.dat Y)<|rlc (.dat Y)<|rlc (.dat Y)<|rlc (.dat Y)<|rlc (.dat Y) rln)<|.dead<|.dead<|.cons Y (roO XZ)<|.cons Y (roM D105) .nil) Y Y<|QW<|rlc (.dat Y)<|rlc (.dat Y) rln
 ·
  refine Zi<|I4 (fun memories spots power2 all=>⟨[(2, .int .i64 power2), (11, .bool all)], [some ⟨102, [[.own 3 memories.length, .own 4 spots.length, .int .i64 b.copies, .bool b.frozen, .bool b.stopped, .int .i64 b.last, .bool b.some_]]⟩, none, none, some ⟨26, List.map O26 memories⟩, some ⟨105, List.map R105 spots⟩]⟩) h (fun h=>?_) fun memories spots power2 all h=>?_
  ·
   refine Zh<|K6 0 1 2 8 9 10 Y<|bE h fun x14 h_x14 h=>ZfN (Ent.focusH (r := 3) (j := 2) (e' := 49) (g := O49) (ys := x14.Sectors) Y (ZD h_x14).2 Y QN)<|bE h fun x15 h_x15 h=>ZfN (Ent.focusH (r := 8) (j := 0) (e' := 5) (g := R5) (ys := x15) Y (ZD h_x15).2 Y DR5)<|Qf (cw := ⟨true, true, [some ⟨102, [[.own 3 b.bank.memories.length, .own 4 b.bank.spots.length, .int .i64 b.copies, .bool b.frozen, .bool b.stopped, .int .i64 b.last, .bool b.some_]]⟩, none, none, some ⟨26, List.set (List.map O26 ((b.bank.memories.set k.toNat (api_Memory.mk x.Slots x.Limit x.Sectors (x.Wear.set y.toNat (i64 (x2 + 1))) x.Bad)).set k.toNat (api_Memory.mk x.Slots x.Limit (x.Sectors.set y.toNat y3.2.2) (x.Wear.set y.toNat (i64 (x2 + 1))) x.Bad))) k.toNat [.int .i64 x14.Slots, .int .i64 x14.Limit, .own 8 x14.Sectors.length, .osub 3 (List.map R3 x14.Wear), .osub 4 (List.map R4 x14.Bad)]⟩, some ⟨105, List.map R105 b.bank.spots⟩, none, none, none, some ⟨49, List.set (List.map O49 x14.Sectors) y.toNat [.own 9 x15.length]⟩, some ⟨5, List.map R5 x15⟩], [], [9]⟩) (by kernel_rfl)<|D1 7 Zc Y<|Z3 0 _ Y (by kernel_rfl) Y Y (fun hp'=>Zc<|ov Y)<|XH 1 _ Y (by kernel_rfl) Y Y Y (EL.ext<|.keep<|.keep<|.keep<|.keep<|.keep<|.keep<|.keep<|.keep<|.keep<|.wr Y Y Y .nil) (fun hp' hx=>ZB (ov Y) (hx.get Y Y)<|((List.length_set ..).trans (List.length_map ..)).trans<|(List.length_set ..).trans<|(List.length_set ..).trans Y)<|XH 2 _ Y (by kernel_rfl) Y Y Y (EL.ext<|.keep<|.keep<|.keep<|.keep<|.keep<|.keep<|.keep<|.keep<|.keep<|.wr Y Y Y .nil) (fun hp' hx=>ZiM (ov Y) (hx.get Y Y) ((List.length_set ..).trans<|(List.length_set ..).trans Y) Zx)<|XH 3 _ Y (by kernel_rfl) Y Y Y (EL.ext<|.keep<|.keep<|.keep<|.keep<|.keep<|.keep<|.keep<|.keep<|.keep<|.wr Y Y Y .nil) (fun hp' hx=>ZbX (ov Y) (hx.get Y Y) ((List.length_set ..).trans<|(List.length_set ..).trans Y) (ZD h_x14).2 ZY Y)<|Z3 4 _ Y (by kernel_rfl) Y Y (fun hp'=>Zc<|ov Y)<|bE h fun x16 h_x16 h=>XH 5 _ Y (by kernel_rfl) Y Y Y (EL.ext<|.keep<|.keep<|.keep<|.keep<|.keep<|.keep<|.keep<|.keep<|.keep<|.wr Y Y Y .nil) (fun hp' hx=>Zj3 (ov Y) (ov Y) ZQ (hx.get Y Y) Y h_x16)<|XH 6 _ Y (by kernel_rfl) Y Y Y (EL.ext<|.keep<|.keep<|.keep<|.keep<|.keep<|.keep<|.keep<|.keep<|.keep<|.wr Y Y Y .nil) (fun hp' hx=>ZbX (ov Y) (hx.get Y Y) Y (ZD h_x15).2 ZdQ Y)<|Z3 9 _ Y (by kernel_rfl) Y Y (fun hp'=>Zc<|ov Y)<|bE h fun y4 h_y4 h=>JM 8 _ _ Y (by kernel_rfl) Y Y (fun h=>by cases h) (fun _=>by exact EL.ext (.keep <| .keep <| .keep <| .keep <| .keep <| .keep <| .keep <| .keep <| .keep <| .wr rfl rfl rfl <| .nil)) (Jc<|Zp (Zfi h_y4)<|.cons (ov Y) (.b Y) .nil)<|bE h fun y5 h_y5 h=>JM 10 _ _ Y (by kernel_rfl) Y Y (fun h=>by cases h) (fun _=>by exact EL.ext (.keep <| .keep <| .keep <| .keep <| .keep <| .keep <| .keep <| .keep <| .keep <| .wr rfl rfl ((List.length_map ..).trans (Eq.trans (Zar h_y5) (Eq.symm ((List.length_map ..).trans rfl)))) <| .nil)) (ZG [9] (Zed h_y5) (.cons (ov Y) (.own _ Y)<|.cons (ov Y) (.dat Y)<|.cons (ov Y) (.dat Y)<|.cons (ov Y) (.dat Y) .nil) (.cons Y (roM D5) .nil) Y (.keep Y Y<|.none<|.none<|.keep Y Y<|.keep Y Y<|.none<|.none<|.none<|.keep Y Y<|.lent 0 (.inl Y) Y (roM D5) .nil) Y Y<|QW<|rld Y)<|D1 11 Zc Y<|Dq 12 Y (Zn (ov Y) Y)<|Dq 13 Y (Zn (ov Y) Y)<|D1 14 Ql Y<|D1 15 Ql Y<|?_
   have h_x17 := XG (y := y5.2.2) h_x16
   have h_x18 := XG (y := (api_Memory.mk x14.Slots x14.Limit (x14.Sectors.set y.toNat y5.2.2) x14.Wear x14.Bad)) h_x10
   have h_x19 := XG (y := (api_Memory.mk x14.Slots x14.Limit (x14.Sectors.set y.toNat y5.2.2) x14.Wear x14.Bad)) h_x10
   have h_x20 := XG (y := (api_Memory.mk x14.Slots x14.Limit (x14.Sectors.set y.toNat y5.2.2) x14.Wear x14.Bad)) h_x10
   have h_x21 := XG (y := (api_Memory.mk x14.Slots x14.Limit (x14.Sectors.set y.toNat y5.2.2) x14.Wear x14.Bad)) h_x10
   refine ZX (by kernel_rfl) (Ent.trans (Ent.absorbH (r := 8) (j := 0) (q := 9) Y (ZD h_x15).2 Y Y ((List.length_map ..).trans<|Zar h_y5) Y)<|Ent.trans (Ent.closeH (r := 8) (y := y5.2.2) Y Y)<|Ent.trans (Ent.absorbH (r := 3) (j := 2) (q := 8) Y (ZD h_x14).2 Y Y ((List.length_map ..).trans<|(List.length_set ..).trans Y) Y)<|Ent.closeH (r := 3) (y := (api_Memory.mk x14.Slots x14.Limit (x14.Sectors.set y.toNat y5.2.2) x14.Wear x14.Bad)) Y Y)<|K5 0 1 2 9 11 Y<|QG [some ⟨102, [[.own 3 b.bank.memories.length, .own 4 b.bank.spots.length, .int .i64 b.copies, .bool b.frozen, .bool b.stopped, .int .i64 b.last, .bool b.some_]]⟩, none, none, some ⟨26, List.map O26 (((b.bank.memories.set k.toNat (api_Memory.mk x.Slots x.Limit x.Sectors (x.Wear.set y.toNat (i64 (x2 + 1))) x.Bad)).set k.toNat (api_Memory.mk x.Slots x.Limit (x.Sectors.set y.toNat y3.2.2) (x.Wear.set y.toNat (i64 (x2 + 1))) x.Bad)).set k.toNat (api_Memory.mk x14.Slots x14.Limit (x14.Sectors.set y.toNat y5.2.2) x14.Wear x14.Bad))⟩, some ⟨105, List.map R105 b.bank.spots⟩, none, none, none, none, none] Y<|Tr<|Rm Y<|Za<|If h Y (fun h=>?_) fun h=>?_
   ·
    exact K5 0 1 2 9 11 Y<|Zr<|Rm Y<|Rq Y (ZB (ov Y) Y Y)<|Rq Y (Zf (ov Y) Y Y Zey)<|Rq Y (Zs (ov Y) Y Y Y Zj4 Y)<|Rm Y<|Rm Y<|Rq Y (Xo (ys := [_, _]) Zkj Zka ZiF (.cons (cvs (ov Y)<|Zk Y) .nil) Y)<|bE h fun x22 h_x22 h=>Rq Y (Qh (ov Y) (ov Y) Zj7 Y Y h_x22)<|Rx Y (Xh (u' := (ring_spot.mk y 0)) (ov Y) (ov Y) (Zv Zgr Y) Y Y h_x22 Y (Zb Y) Y)<|Za<|⟨_, h, ES [some 0, some 1, some 2, some 3, some 4] (hhp := .cons Y (ro1 (by exact tZ_102.symm)<|rlc (Zb2 (Eq.symm<|(List.length_set ..).trans<|(List.length_set ..).trans<|(List.length_set ..).trans Y) Y)<|rlc (Zb2 (Eq.symm<|(List.length_set ..).trans Y) Y)<|rlc (.dat Y)<|rlc (.dat Y)<|rlc (.dat Y)<|rlc (.dat Y)<|rlc (.dat Y) rln)<|.dead<|.dead<|.cons Y (roO XZ)<|.cons Y (roM D105) .nil)⟩
   ·
    exact Zi<|⟨_, h, ES [some 0, some 1, some 2, some 3, some 4] (hhp := .cons Y (ro1 (by exact tZ_102.symm)<|rlc (Zb2 (Eq.symm<|(List.length_set ..).trans<|(List.length_set ..).trans<|(List.length_set ..).trans Y) Y)<|rlc (.own _ Y)<|rlc (.dat Y)<|rlc (.dat Y)<|rlc (.dat Y)<|rlc (.dat Y)<|rlc (.dat Y) rln)<|.dead<|.dead<|.cons Y (roO XZ)<|.cons Y (roM D105) .nil)⟩
  ·
   refine Tr<|Rm Y<|Rm Y<|Ra Y<|Ra Y<|Za<|?_
   obtain rfl := rt h
   exact Zo<|JN [some 0, some 1, some 2, some 3, some 4] Y (.cons (.tmp Y)<|.cons (.tmp Y) .nil) (.cons Y (ro1 (by exact tZ_102.symm)<|rlc (.own _ Y)<|rlc (.own _ Y)<|rlc (.dat Y)<|rlc (.dat Y)<|rlc (.dat Y)<|rlc (.dat Y)<|rlc (.dat Y) rln)<|.dead<|.dead<|.cons Y (roO XZ)<|.cons Y (roM D105) .nil) Y Y<|QW<|rlc (.dat Y)<|rlc (.dat Y) rln
theorem Zc0 {b : ring_Recorder} {k : Int} {data : List Int} {power : Int} {r : Int × Bool × ring_Recorder} (h : JO b k data power = some r) :
 GSpec Tryz.prog gl0 71 [.ptr 0 1 0 0, .int .i64 k, .slf 5 (List.map R5 data), .int .i64 power] [some ⟨102, [[.own 1 b.bank.memories.length, .own 2 b.bank.spots.length, .int .i64 b.copies, .bool b.frozen, .bool b.stopped, .int .i64 b.last, .bool b.some_]]⟩, some ⟨26, List.map O26 b.bank.memories⟩, some ⟨105, List.map R105 b.bank.spots⟩] (.tuple [.int .i64 r.1, .bool r.2.1]) [some ⟨102, [[.own 3 r.2.2.bank.memories.length, .own 4 r.2.2.bank.spots.length, .int .i64 r.2.2.copies, .bool r.2.2.frozen, .bool r.2.2.stopped, .int .i64 r.2.2.last, .bool r.2.2.some_]]⟩, none, none, some ⟨26, List.map O26 r.2.2.bank.memories⟩, some ⟨105, List.map R105 r.2.2.bank.spots⟩] := by
 unfold JO at h
 replace h := Qm h
 refine QF (by kernel_rfl) Tryz.func71 Y Y<|?_
 intro w0 A W φ0
 refine ZfN (Ent.sel [some 0, some 1, some 2, some 1, some 2] (sr 0 Y (.ptr (r' := 0) _ _ _ Y)<|sd 1 Y Y<|sd 2 Y Y<|sd 3 Y Y sn) (.cons Y (ro1 (by exact tZ_102.symm)<|rlc (.own (r' := 3) _ Y)<|rlc (.own (r' := 4) _ Y)<|rlc (.dat Y)<|rlc (.dat Y)<|rlc (.dat Y)<|rlc (.dat Y)<|rlc (.dat Y) rln)<|.dead<|.dead<|.cons Y (roO XZ)<|.cons Y (roM D105) .nil) Y Y)<|QG [some ⟨102, [[.own 3 b.bank.memories.length, .own 4 b.bank.spots.length, .int .i64 b.copies, .bool b.frozen, .bool b.stopped, .int .i64 b.last, .bool b.some_]]⟩, none, none, some ⟨26, List.map O26 b.bank.memories⟩, some ⟨105, List.map R105 b.bank.spots⟩] Y<|Tr<|Ra Y<|Ra Y<|Za<|J8 (fun j => (.inr j)) (fun memories spots copies frozen stopped last some_ power2=>⟨[(0, .ptr 0 1 0 0), (1, .int .i64 k), (2, .slf 5 (List.map R5 data)), (3, .int .i64 power2)], [some ⟨102, [[.own 3 memories.length, .own 4 spots.length, .int .i64 copies, .bool frozen, .bool stopped, .int .i64 last, .bool some_]]⟩, none, none, some ⟨26, List.map O26 memories⟩, some ⟨105, List.map R105 spots⟩]⟩) h (fun h=>?_) fun memories spots copies frozen stopped last some_ power2 h=>?_
 ·
  refine K4 0 1 2 3 Y<|Tr<|Rm Y<|Rm Y<|bE h fun y h_y h=>Rq Y (Zco (Zaz h_y) .bool<|.cons (ov Y) (View.ptrS (j := 0) (k := 2) Y Y Y (Nat.le_of_ble_eq_true Y)<|.cons (View.ownO Y Y XZ (fun x=>(D26 x).1) Zkd)<|.cons (View.ownM Y Y D105) .nil)<|.cons (ov Y) (Dat.view<|.b Y) .nil)<|Za<|K5 0 1 2 3 15 Y<|If h Y (fun h=>?_) fun h=>?_
  ·
   refine K4 0 1 2 3 Y<|Tr<|Ra Y<|Za<|Tr<|Rm Y<|Rm Y<|Rm Y<|bE h fun y2 h_y2 h=>Rx Y (ZG [0, 3, 4] (Zc6 h_y2) (.cons (ov Y) (.ptr _ _ _ Y)<|.cons (ov Y) (.dat Y)<|.cons (ov Y) (.dat Y) .nil) (.cons Y (ro1 (by exact tZ_102.symm)<|rlc (.own _ Y)<|rlc (.own _ Y)<|rlc (.dat Y)<|rlc (.dat Y)<|rlc (.dat Y)<|rlc (.dat Y)<|rlc (.dat Y) rln)<|.cons Y (roO XZ)<|.cons Y (roM D105) .nil) Y (.lent 0 (.inl Y) Y (ro1 (by exact tZ_102.symm)<|rlc (.own _<|.inr ⟨Nat.le_of_ble_eq_true Y, Y⟩)<|rlc (.own _<|.inr ⟨Nat.le_of_ble_eq_true Y, Y⟩)<|rlc (.dat Y)<|rlc (.dat Y)<|rlc (.dat Y)<|rlc (.dat Y)<|rlc (.dat Y) rln)<|.none<|.none<|.none<|.none<|.lent 3 (.inr ⟨Nat.le_of_ble_eq_true Y, Y⟩) Y (roO XZ)<|.lent 4 (.inr ⟨Nat.le_of_ble_eq_true Y, Y⟩) Y (roM D105) .nil) Y Y<|QW<|rld Y)<|Rm Y<|Rq Y (Zn (ov Y) Y)<|Rq Y (Zn (ov Y) Y)<|Ra Y<|Ra Y<|Za<|K5 0 1 2 3 10 Y<|QG [some ⟨102, [[.own 5 y2.2.2.bank.memories.length, .own 6 y2.2.2.bank.spots.length, .int .i64 y2.2.2.copies, .bool y2.2.2.frozen, .bool y2.2.2.stopped, .int .i64 y2.2.2.last, .bool y2.2.2.some_]]⟩, none, none, none, none, some ⟨26, List.map O26 y2.2.2.bank.memories⟩, some ⟨105, List.map R105 y2.2.2.bank.spots⟩] Y<|Tr<|Rm Y<|R1 Ji Y<|Za<|K5 0 1 2 3 24 Y<|If h Y (fun h=>?_) fun h=>?_
   ·
    refine K1 3 Y<|Tr<|Rm Y<|Ra Y<|Ra Y<|Za<|?_
    obtain rfl := rt h
    exact Zo<|JN [some 0, some 1, some 2, some 5, some 6] Y (.cons (.tmp Y)<|.cons (.tmp Y) .nil) (.cons Y (ro1 (by exact tZ_102.symm)<|rlc (.own _ Y)<|rlc (.own _ Y)<|rlc (.dat Y)<|rlc (.dat Y)<|rlc (.dat Y)<|rlc (.dat Y)<|rlc (.dat Y) rln)<|.dead<|.dead<|.cons Y (roO XZ)<|.cons Y (roM D105) .nil) Y Y<|QW<|rlc (.dat Y)<|rlc (.dat Y) rln
   ·
    exact Zi<|⟨_, h, ES [some 0, some 1, some 2, some 5, some 6] (hhp := .cons Y (ro1 (by exact tZ_102.symm)<|rlc (.own _ Y)<|rlc (.own _ Y)<|rlc (.dat Y)<|rlc (.dat Y)<|rlc (.dat Y)<|rlc (.dat Y)<|rlc (.dat Y) rln)<|.dead<|.dead<|.cons Y (roO XZ)<|.cons Y (roM D105) .nil)⟩
  ·
   exact Zi<|⟨_, h, ES [some 0, some 1, some 2, some 3, some 4] (hhp := .cons Y (ro1 (by exact tZ_102.symm)<|rlc (.own _ Y)<|rlc (.own _ Y)<|rlc (.dat Y)<|rlc (.dat Y)<|rlc (.dat Y)<|rlc (.dat Y)<|rlc (.dat Y) rln)<|.dead<|.dead<|.cons Y (roO XZ)<|.cons Y (roM D105) .nil)⟩
 ·
  replace h := elr h
  replace h := t8i h
  refine Tr<|Rm Y<|Rq Y (ZB (ov Y) Y Y)<|Rq Y (Zf (ov Y) Y Y Zey)<|Rq Y (Zs (ov Y) Y Y Y Zj4 Y)<|Rm Y<|bE h fun x h_x h=>Rq Y (Qh (ov Y) (ov Y) Zj7 Y Y h_x)<|Ra Y<|Za<|Zh<|K5 0 1 2 3 11 Y<|bE h fun x2 h_x2 h=>ZfN (Ent.focusH (r := 3) (j := 2) (e' := 49) (g := O49) (ys := x2.Sectors) Y (ZD h_x2).2 Y QN)<|bE h fun x3 h_x3 h=>ZfN (Ent.focusH (r := 5) (j := 0) (e' := 5) (g := R5) (ys := x3) Y (ZD h_x3).2 Y DR5)<|Qf (cw := ⟨true, true, [some ⟨102, [[.own 3 memories.length, .own 4 spots.length, .int .i64 copies, .bool frozen, .bool stopped, .int .i64 last, .bool some_]]⟩, none, none, some ⟨26, List.set (List.map O26 memories) k.toNat [.int .i64 x2.Slots, .int .i64 x2.Limit, .own 5 x2.Sectors.length, .osub 3 (List.map R3 x2.Wear), .osub 4 (List.map R4 x2.Bad)]⟩, some ⟨105, List.map R105 spots⟩, some ⟨49, List.set (List.map O49 x2.Sectors) x.sector.toNat [.own 6 x3.length]⟩, some ⟨5, List.map R5 x3⟩], [], [6]⟩) (by kernel_rfl)<|Z3 0 _ Y (by kernel_rfl) Y Y (fun hp'=>Zc<|ov Y)<|XH 1 _ Y (by kernel_rfl) Y Y Y (EL.ext<|.keep<|.keep<|.keep<|.keep<|.keep<|.keep<|.wr Y Y Y .nil) (fun hp' hx=>ZB (ov Y) (hx.get Y Y) Y)<|XH 2 _ Y (by kernel_rfl) Y Y Y (EL.ext<|.keep<|.keep<|.keep<|.keep<|.keep<|.keep<|.wr Y Y Y .nil) (fun hp' hx=>Zf (ov Y) (hx.get Y Y) Y Zc1)<|XH 3 _ Y (by kernel_rfl) Y Y Y (EL.ext<|.keep<|.keep<|.keep<|.keep<|.keep<|.keep<|.wr Y Y Y .nil) (fun hp' hx=>Zs (ov Y) (hx.get Y Y) Y Y Zi6 Y)<|Z3 4 _ Y (by kernel_rfl) Y Y (fun hp'=>Zc<|ov Y)<|bE h fun x4 h_x4 h=>XH 5 _ Y (by kernel_rfl) Y Y Y (EL.ext<|.keep<|.keep<|.keep<|.keep<|.keep<|.keep<|.wr Y Y Y .nil) (fun hp' hx=>Zj3 (ov Y) (ov Y) Zdq (hx.get Y Y) Y h_x4)<|XH 6 _ Y (by kernel_rfl) Y Y Y (EL.ext<|.keep<|.keep<|.keep<|.keep<|.keep<|.keep<|.wr Y Y Y .nil) (fun hp' hx=>ZiM (ov Y) (hx.get Y Y) Y Zx)<|XH 7 _ Y (by kernel_rfl) Y Y Y (EL.ext<|.keep<|.keep<|.keep<|.keep<|.keep<|.keep<|.wr Y Y Y .nil) (fun hp' hx=>ZbX (ov Y) (hx.get Y Y) Y (ZD h_x2).2 ZY Y)<|Z3 8 _ Y (by kernel_rfl) Y Y (fun hp'=>Zc<|ov Y)<|XH 9 _ Y (by kernel_rfl) Y Y Y (EL.ext<|.keep<|.keep<|.keep<|.keep<|.keep<|.keep<|.wr Y Y Y .nil) (fun hp' hx=>ZB (ov Y) (hx.get Y Y)<|List.length_map ..)<|XH 10 _ Y (by kernel_rfl) Y Y Y (EL.ext<|.keep<|.keep<|.keep<|.keep<|.keep<|.keep<|.wr Y Y Y .nil) (fun hp' hx=>Zdc (ov Y) (hx.get Y Y) Y Zfx)<|XH 11 _ Y (by kernel_rfl) Y Y Y (EL.ext<|.keep<|.keep<|.keep<|.keep<|.keep<|.keep<|.wr Y Y Y .nil) (fun hp' hx=>Qt (ov Y) (hx.get Y Y) Y h_x tS3 Y)<|bE h fun x5 h_x5 h=>XH 12 _ Y (by kernel_rfl) Y Y Y (EL.ext<|.keep<|.keep<|.keep<|.keep<|.keep<|.keep<|.wr Y Y Y .nil) (fun hp' hx=>Zj3 (ov Y) (ov Y) ZQ (hx.get Y Y) Y h_x5)<|XH 13 _ Y (by kernel_rfl) Y Y Y (EL.ext<|.keep<|.keep<|.keep<|.keep<|.keep<|.keep<|.wr Y Y Y .nil) (fun hp' hx=>ZbX (ov Y) (hx.get Y Y) Y (ZD h_x3).2 ZdQ Y)<|Z3 14 _ Y (by kernel_rfl) Y Y (fun hp'=>Zc<|ov Y)<|XH 15 _ Y (by kernel_rfl) Y Y Y (EL.ext<|.keep<|.keep<|.keep<|.keep<|.keep<|.keep<|.wr Y Y Y .nil) (fun hp' hx=>ZB (ov Y) (hx.get Y Y)<|List.length_map ..)<|XH 16 _ Y (by kernel_rfl) Y Y Y (EL.ext<|.keep<|.keep<|.keep<|.keep<|.keep<|.keep<|.wr Y Y Y .nil) (fun hp' hx=>Zdc (ov Y) (hx.get Y Y) Y ZgE)<|XH 17 _ Y (by kernel_rfl) Y Y Y (EL.ext<|.keep<|.keep<|.keep<|.keep<|.keep<|.keep<|.wr Y Y Y .nil) (fun hp' hx=>Qt (ov Y) (hx.get Y Y) Y h_x tS3 Y)<|Z3 18 _ Y (by kernel_rfl) Y Y (fun hp'=>Zmy (ov Y) (ov Y) Y)<|Z3 19 _ Y (by kernel_rfl) Y Y (fun hp'=>ZiH (ov Y) (ov Y) Y)<|Z3 20 _ Y (by kernel_rfl) Y Y (fun hp'=>Zc<|ov Y)<|Z3 23 _ Y (by kernel_rfl) Y Y (fun hp'=>Zc<|ov Y)<|JM 21 (.sl 5<|List.map R5 ([0] : List Int)) _ Y (by kernel_rfl) Y Y (fun h=>by cases h) (fun _=>by exact EL.ext (.keep <| .keep <| .keep <| .keep <| .keep <| .keep <| .wr rfl rfl rfl <| .nil)) (Jc<|Jh Qp (.cons (cvs (ov Y)<|Zk Y) Y (.cons (.b Y) .nil) .nil) Y Y)<|bE h fun l h_l h=>JM 22 _ _ Y (by kernel_rfl) Y Y (fun h=>by cases h) (fun _=>by exact EL.ext (.keep <| .keep <| .keep <| .keep <| .keep <| .keep <| .wr rfl rfl rfl <| .nil)) (Jc<|ZkN (f := R5) (ov Y) (Qs (ov Y) tZ_5) Qp Y Y (fun x=>(D5 x).2) h_l)<|bE h fun y3 h_y3 h=>JM 24 _ _ Y (by kernel_rfl) Y Y (fun h=>by cases h) (fun _=>by exact EL.ext (.keep <| .keep <| .keep <| .keep <| .keep <| .keep <| .wr rfl rfl ((List.length_map ..).trans (Eq.trans (Zar h_y3) (Eq.symm ((List.length_map ..).trans rfl)))) <| .nil)) (ZG [6] (Zed h_y3) (.cons (ov Y) (.own _ Y)<|.cons (ov Y) (.dat Y)<|.cons (ov Y) (.dat Y)<|.cons (ov Y) (.dat Y) .nil) (.cons Y (roM D5) .nil) Y (.keep Y Y<|.none<|.none<|.keep Y Y<|.keep Y Y<|.keep Y Y<|.lent 0 (.inl Y) Y (roM D5) .nil) Y Y<|QW<|rld Y)<|D1 25 Zc Y<|Dq 26 Y (Zn (ov Y) Y)<|Dq 27 Y (Zn (ov Y) Y)<|D1 28 Ql Y<|D1 29 Ql Y<|?_
  have h_x6 := XG (y := y3.2.2) h_x5
  have h_x7 := XG (y := (api_Memory.mk x2.Slots x2.Limit (x2.Sectors.set x.sector.toNat y3.2.2) x2.Wear x2.Bad)) h_x4
  have h_x8 := XG (y := (api_Memory.mk x2.Slots x2.Limit (x2.Sectors.set x.sector.toNat y3.2.2) x2.Wear x2.Bad)) h_x4
  refine ZX (by kernel_rfl) (Ent.trans (Ent.absorbH (r := 5) (j := 0) (q := 6) Y (ZD h_x3).2 Y Y ((List.length_map ..).trans<|Zar h_y3) Y)<|Ent.trans (Ent.closeH (r := 5) (y := y3.2.2) Y Y)<|Ent.trans (Ent.absorbH (r := 3) (j := 2) (q := 5) Y (ZD h_x2).2 Y Y ((List.length_map ..).trans<|(List.length_set ..).trans Y) Y)<|Ent.closeH (r := 3) (y := (api_Memory.mk x2.Slots x2.Limit (x2.Sectors.set x.sector.toNat y3.2.2) x2.Wear x2.Bad)) Y Y)<|K3 3 11 12 Y<|QG [some ⟨102, [[.own 3 memories.length, .own 4 spots.length, .int .i64 copies, .bool frozen, .bool stopped, .int .i64 last, .bool some_]]⟩, none, none, some ⟨26, List.map O26 (memories.set k.toNat (api_Memory.mk x2.Slots x2.Limit (x2.Sectors.set x.sector.toNat y3.2.2) x2.Wear x2.Bad))⟩, some ⟨105, List.map R105 spots⟩, none, none] Y<|Tr<|Rm Y<|Rq Y (ZB (ov Y) Y<|List.length_map ..)<|Rq Y (Zdc (ov Y) Y Y ZgE)<|Rq Y (Qt (ov Y) Y Y h_x tS3 Y)<|R2 ZT Y<|Rq Y (ZB (ov Y) Y<|List.length_map ..)<|Rq Y (Zdc (ov Y) Y Y ZgE)<|Rx Y (Xh (u' := (ring_spot.mk x.sector (i64 (x.slot + 1)))) (ov Y) (ov Y) (Ze tS3) Y Y h_x Y (Zb Y) Y)<|Za<|K2 3 12 Y<|QG [some ⟨102, [[.own 3 memories.length, .own 4 spots.length, .int .i64 copies, .bool frozen, .bool stopped, .int .i64 last, .bool some_]]⟩, none, none, some ⟨26, List.map O26 (memories.set k.toNat (api_Memory.mk x2.Slots x2.Limit (x2.Sectors.set x.sector.toNat y3.2.2) x2.Wear x2.Bad))⟩, some ⟨105, List.map R105 (spots.set k.toNat (ring_spot.mk x.sector (i64 (x.slot + 1))))⟩, none, none] Y<|Tr<|Rm Y<|Rm Y<|Ra Y<|Ra Y<|Za<|?_
  obtain rfl := rt h
  exact Zo<|JN [some 0, some 1, some 2, some 3, some 4] Y (.cons (.tmp Y)<|.cons (.tmp Y) .nil) (.cons Y (ro1 (by exact tZ_102.symm)<|rlc (Zb2 (Eq.symm<|(List.length_set ..).trans Y) Y)<|rlc (Zb2 (Eq.symm<|(List.length_set ..).trans Y) Y)<|rlc (.dat Y)<|rlc (.dat Y)<|rlc (.dat Y)<|rlc (.dat Y)<|rlc (.dat Y) rln)<|.dead<|.dead<|.cons Y (roO XZ)<|.cons Y (roM D105) .nil) Y Y<|QW<|rlc (.dat Y)<|rlc (.dat Y) rln
theorem Zdz {r_ : ring_Recorder} {f : Vector Int 64} {power : Int} {r : Int × Bool × Int × ring_Recorder} (h : Xv r_ f power = some r) :
 GSpec Tryz.prog gl0 17 [.ptr 0 1 0 0, .agg (List.map C40 f.toList), .int .i64 power] [some ⟨102, [[.own 1 r_.bank.memories.length, .own 2 r_.bank.spots.length, .int .i64 r_.copies, .bool r_.frozen, .bool r_.stopped, .int .i64 r_.last, .bool r_.some_]]⟩, some ⟨26, List.map O26 r_.bank.memories⟩, some ⟨105, List.map R105 r_.bank.spots⟩] (.tuple [.int .i64 r.1, .bool r.2.1, .int .i64 r.2.2.1]) [some ⟨102, [[.own 3 r.2.2.2.bank.memories.length, .own 4 r.2.2.2.bank.spots.length, .int .i64 r.2.2.2.copies, .bool r.2.2.2.frozen, .bool r.2.2.2.stopped, .int .i64 r.2.2.2.last, .bool r.2.2.2.some_]]⟩, none, none, some ⟨26, List.map O26 r.2.2.2.bank.memories⟩, some ⟨105, List.map R105 r.2.2.2.bank.spots⟩] := by
 unfold Xv at h
 replace h := Qm h
 refine QF (by kernel_rfl) Tryz.func17 Y Y<|?_
 intro w0 A W φ0
 refine ZfN (Ent.sel [some 0, some 1, some 2, some 1, some 2] (sr 0 Y (.ptr (r' := 0) _ _ _ Y)<|sr 1 Y (ZaG<|rld<|arD fun _ => Y)<|sd 2 Y Y sn) (.cons Y (ro1 (by exact tZ_102.symm)<|rlc (.own (r' := 3) _ Y)<|rlc (.own (r' := 4) _ Y)<|rlc (.dat Y)<|rlc (.dat Y)<|rlc (.dat Y)<|rlc (.dat Y)<|rlc (.dat Y) rln)<|.dead<|.dead<|.cons Y (roO XZ)<|.cons Y (roM D105) .nil) Y Y)<|QG [some ⟨102, [[.own 3 r_.bank.memories.length, .own 4 r_.bank.spots.length, .int .i64 r_.copies, .bool r_.frozen, .bool r_.stopped, .int .i64 r_.last, .bool r_.some_]]⟩, none, none, some ⟨26, List.map O26 r_.bank.memories⟩, some ⟨105, List.map R105 r_.bank.spots⟩] Y<|Tr<|Rq Y (JG (cva<|ov Y) arL tZ_42<|arD fun _ => Y)<|Ra Y<|Ra Y<|Ra Y<|Za<|Zh<|K3 0 2 4 Y<|Tr<|Rm Y<|Rm Y<|bE h fun y h_y h=>Rq Y (Zco (ZeV h_y) .int<|.cons (ov Y) (View.ptrS (j := 0) (k := 7) Y Y Y (Nat.le_of_ble_eq_true Y)<|.cons (View.ownO Y Y XZ (fun x=>(D26 x).1) Zkd)<|.cons (View.ownM Y Y D105)<|.cons (Dat.view<|.b Y)<|.cons (Dat.view<|.b Y)<|.cons (Dat.view<|.b Y)<|.cons (Dat.view<|.b Y)<|.cons (Dat.view<|.b Y) .nil)<|.cons (ov Y) (Dat.view<|.b Y) .nil)<|Ra Y<|Za<|K4 0 2 4 9 Y<|Tr<|Rm Y<|R2 Xa Y<|Za<|K5 0 2 4 9 23 Y<|If h Y (fun h=>?_) fun h=>?_
 ·
  refine K1 9 Y<|Tr<|Rm Y<|Ra Y<|Ra Y<|Ra Y<|Za<|?_
  obtain rfl := rt h
  exact Zo<|JN [some 0, some 1, some 2, some 3, some 4] Y (.cons (.tmp Y)<|.cons (.tmp Y)<|.cons (.tmp Y) .nil) (.cons Y (ro1 (by exact tZ_102.symm)<|rlc (.own _ Y)<|rlc (.own _ Y)<|rlc (.dat Y)<|rlc (.dat Y)<|rlc (.dat Y)<|rlc (.dat Y)<|rlc (.dat Y) rln)<|.dead<|.dead<|.cons Y (roO XZ)<|.cons Y (roM D105) .nil) Y Y<|QW<|rlc (.dat Y)<|rlc (.dat Y)<|rlc (.dat Y) rln
 ·
  refine Zi<|Zh<|K3 0 2 4 Y<|Tr<|Rq Y (Qb (ov Y) Ju (Q4<|Zz arL) arL)<|bE h fun y2 h_y2 h=>Rq Y (Zp (Zfj h_y2)<|.cons (ov Y) (.aggB<|arD fun _ => Y) .nil)<|Rl tZ_149 Zef Y<|R2 ZbA Y<|Za<|K4 0 2 4 28 Y<|If h Y (fun h=>?_) fun h=>?_
  ·
   refine K0<|Tr<|Ra Y<|Ra Y<|Ra Y<|Za<|?_
   obtain rfl := rt h
   exact Zo<|JN [some 0, some 1, some 2, some 3, some 4] Y (.cons (.tmp Y)<|.cons (.tmp Y)<|.cons (.tmp Y) .nil) (.cons Y (ro1 (by exact tZ_102.symm)<|rlc (.own _ Y)<|rlc (.own _ Y)<|rlc (.dat Y)<|rlc (.dat Y)<|rlc (.dat Y)<|rlc (.dat Y)<|rlc (.dat Y) rln)<|.dead<|.dead<|.cons Y (roO XZ)<|.cons Y (roM D105) .nil) Y Y<|QW<|rlc (.dat Y)<|rlc (.dat Y)<|rlc (.dat Y) rln
  ·
   refine Zi<|K3 0 2 4 Y<|Tr<|Rq Y (Qb (ov Y) Ju (Q4<|Zz arL) arL)<|bE h fun y3 h_y3 h=>Rq Y (Zp (ZeH h_y3)<|.cons (ov Y) (.aggB<|arD fun _ => Y) .nil)<|Rm Y<|Rq Y (Zn (ov Y) Y)<|Rq Y (Zn (ov Y) Y)<|Ra Y<|Ra Y<|Za<|Zh<|K4 0 2 4 10 Y<|Qf (cw := md0) (by kernel_rfl)<|D1 0 Zc Y<|D1 1 Zc Y<|Dq 2 Y (ZB (ov Y) Y Y)<|Dq 3 Y (Zf (ov Y) Y Y ZdP)<|Dq 4 Y (Zf (ov Y) Y Y Zc1)<|Dq 5 Y (Zs (ov Y) Y Y Y Zi6 Y)<|Dq 6 Y (Zel (ov Y) Y Y Zdq)<|D1 7 Zc Y<|Dq 8 Y (ZB (ov Y) Y Y)<|Dq 9 Y (Zf (ov Y) Y Y Zmd)<|Dq 10 Y (Zs (ov Y) Y Y Y tS3 Y)<|bE h fun y4 h_y4 h=>Dq 11 Y (Zp (ZhA h_y4)<|.cons (ov Y) (.b Y)<|.cons (ov Y) (.b Y)<|.cons (ov Y) (.b Y) .nil)<|D1 12 Ql Y<|Dd<|Zh<|K5 0 2 4 10 12 Y<|Tr<|Rm Y<|Rq Y (ZB (ov Y) Y Y)<|Rq Y (Zf (ov Y) Y Y ZdP)<|Rm Y<|bE h fun y5 h_y5 h=>Rq Y (Zco (Zf5 h_y5) .int<|.cons (ov Y) (View.ptrS (j := 0) (k := 2) Y Y Y (Nat.le_of_ble_eq_true Y)<|.cons (View.ownO Y Y XZ (fun x=>(D26 x).1) Zkd)<|.cons (View.ownM Y Y D105) .nil)<|.cons (ov Y) (Dat.view<|.b Y) .nil)<|Ra Y<|Za<|K6 0 2 4 10 12 13 Y<|Tr<|Rm Y<|R2 Xa Y<|Za<|K7 0 2 4 10 12 13 52 Y<|If h Y (fun h=>?_) fun h=>?_
   ·
    refine K1 13 Y<|Tr<|Rm Y<|Ra Y<|Ra Y<|Ra Y<|Za<|?_
    obtain rfl := rt h
    exact Zo<|JN [some 0, some 1, some 2, some 3, some 4] Y (.cons (.tmp Y)<|.cons (.tmp Y)<|.cons (.tmp Y) .nil) (.cons Y (ro1 (by exact tZ_102.symm)<|rlc (.own _ Y)<|rlc (.own _ Y)<|rlc (.dat Y)<|rlc (.dat Y)<|rlc (.dat Y)<|rlc (.dat Y)<|rlc (.dat Y) rln)<|.dead<|.dead<|.cons Y (roO XZ)<|.cons Y (roM D105) .nil) Y Y<|QW<|rlc (.dat Y)<|rlc (.dat Y)<|rlc (.dat Y) rln
   ·
    refine Zi<|K5 0 2 4 10 12 Y<|Tr<|Rq Y (Qb (ov Y) Ju (Q4<|Zz arL) arL)<|bE h fun y6 h_y6 h=>Rq Y (Zp (Zg8 h_y6)<|.cons (ov Y) (.aggB<|arD fun _ => Y) .nil)<|Rm Y<|Rq Y (Zn (ov Y) Y)<|Rq Y (Zn (ov Y) Y)<|Ra Y<|Ra Y<|Za<|J8 (fun j => (.inr j)) (fun memories spots copies frozen stopped last some_ power2=>⟨[(0, .ptr 0 1 0 0), (2, .int .i64 power2), (10, .int .i64 y3.1)], [some ⟨102, [[.own 3 memories.length, .own 4 spots.length, .int .i64 copies, .bool frozen, .bool stopped, .int .i64 last, .bool some_]]⟩, none, none, some ⟨26, List.map O26 memories⟩, some ⟨105, List.map R105 spots⟩]⟩) h (fun h=>?_) fun memories spots copies frozen stopped last some_ power2 h=>?_
    ·
     refine K5 0 2 10 12 14 Y<|Tr<|Rm Y<|Rl tZ_3 QB Y<|Rm Y<|Za<|Zg<|?_
     obtain ⟨r1, hl1, ho1⟩ := QU h
     refine L9 (fun memories2 spots2 copies2 frozen2 stopped2 last2 some_2 power3 i=>⟨[(0, .ptr 0 1 0 0), (2, .int .i64 power3), (10, .int .i64 y3.1), (14, .sl 5 (List.map R5 y6.1)), (59, .sl 3 (List.map R3 y4)), (60, .int .i64 (y4.length : Int)), (61, .int .i64 i)], [some ⟨102, [[.own 3 memories2.length, .own 4 spots2.length, .int .i64 copies2, .bool frozen2, .bool stopped2, .int .i64 last2, .bool some_2]]⟩, none, none, some ⟨26, List.map O26 memories2⟩, some ⟨105, List.map R105 spots2⟩]⟩) hl1 (ES [some 0, some 1, some 2, some 3, some 4] (hhp := .cons Y (ro1 (by exact tZ_102.symm)<|rlc (.own _ Y)<|rlc (.own _ Y)<|rlc (.dat Y)<|rlc (.dat Y)<|rlc (.dat Y)<|rlc (.dat Y)<|rlc (.dat Y) rln)<|.dead<|.dead<|.cons Y (roO XZ)<|.cons Y (roM D105) .nil)) fun n1 memories2 spots2 copies2 frozen2 stopped2 last2 some_2 power3 i h=>?_
     unfold Xy at h
     refine Tr<|R2 ZU Y<|Za<|Zh<|If h Y (fun h=>?_) fun h=>?_
     ·
      refine Zi<|Zh<|Zg<|K7 0 2 10 14 59 60 61 Y<|Tr<|bE h fun x h_x h=>Rq Y (Z4 (ov Y) (ov Y) QB h_x)<|Rq Y (Zd (ov Y) tS3 Y)<|Ra Y<|Za<|K8 0 2 10 14 17 59 60 61 Y<|Tr<|Ra Y<|Za<|Zh<|Qf (cw := ⟨true, false, [], [], []⟩) (by kernel_rfl)<|D1 0 Zc Y<|Dq 1 Y (ZB (ov Y) Y Y)<|Dq 2 Y (Zf (ov Y) Y Y ZdP)<|D1 3 Zc Y<|D1 4 Zc Y<|D1 5 Zc Y<|Dq 6 Y (Zii (Qs (ov Y) tZ_5) Qp<|Zek _ _)<|D1 7 Zc Y<|Dq 8 Y (Zii (Qs (ov Y) tZ_5) Qp<|Zek _ _)<|bE h fun l h_l h=>Dq 9 Y (ZkH (ov Y) Qp (ov Y) (ov Y) h_l)<|D1 10 Zc Y<|bE h fun y7 h_y7 h=>Do 11 Y (ZG [0, 3, 4] (Zc0 h_y7) (.cons (ov Y) (.ptr _ _ _ Y)<|.cons (ov Y) (.dat Y)<|.cons (ov Y) (.dat Y)<|.cons (ov Y) (.dat Y) .nil) (.cons Y (ro1 (by exact tZ_102.symm)<|rlc (.own _ Y)<|rlc (.own _ Y)<|rlc (.dat Y)<|rlc (.dat Y)<|rlc (.dat Y)<|rlc (.dat Y)<|rlc (.dat Y) rln)<|.cons Y (roO XZ)<|.cons Y (roM D105) .nil) Y (.lent 0 (.inl Y) Y (ro1 (by exact tZ_102.symm)<|rlc (.own _<|.inr ⟨Nat.le_of_ble_eq_true Y, Y⟩)<|rlc (.own _<|.inr ⟨Nat.le_of_ble_eq_true Y, Y⟩)<|rlc (.dat Y)<|rlc (.dat Y)<|rlc (.dat Y)<|rlc (.dat Y)<|rlc (.dat Y) rln)<|.none<|.none<|.none<|.none<|.lent 3 (.inr ⟨Nat.le_of_ble_eq_true Y, Y⟩) Y (roO XZ)<|.lent 4 (.inr ⟨Nat.le_of_ble_eq_true Y, Y⟩) Y (roM D105) .nil) Y Y<|QW<|rld Y)<|D1 12 Zc Y<|Dq 13 Y (Zn (ov Y) Y)<|Dq 14 Y (Zn (ov Y) Y)<|D1 15 Ql Y<|D1 16 Ql Y<|Dd<|K8 0 2 10 14 18 59 60 61 Y<|QG [some ⟨102, [[.own 5 y7.2.2.bank.memories.length, .own 6 y7.2.2.bank.spots.length, .int .i64 y7.2.2.copies, .bool y7.2.2.frozen, .bool y7.2.2.stopped, .int .i64 y7.2.2.last, .bool y7.2.2.some_]]⟩, none, none, none, none, some ⟨26, List.map O26 y7.2.2.bank.memories⟩, some ⟨105, List.map R105 y7.2.2.bank.spots⟩] Y<|Tr<|Rm Y<|R1 Ji Y<|Za<|K8 0 2 10 14 59 60 61 81 Y<|If h Y (fun h=>?_) fun h=>?_
      ·
       refine K2 0 2 Y<|Tr<|Rm Y<|Rq Y (ZB (ov Y) Y Y)<|Rq Y (Zf (ov Y) Y Y Zky)<|Rx Y (Zj (ov Y) (ov Y) (Ze tS4) Y Y Y (Nat.le_of_ble_eq_true Y) (Zb Y) Y)<|Za<|K1 2 Y<|QG [some ⟨102, [[.own 5 y7.2.2.bank.memories.length, .own 6 y7.2.2.bank.spots.length, .int .i64 y7.2.2.copies, .bool y7.2.2.frozen, .bool true, .int .i64 y7.2.2.last, .bool y7.2.2.some_]]⟩, none, none, none, none, some ⟨26, List.map O26 y7.2.2.bank.memories⟩, some ⟨105, List.map R105 y7.2.2.bank.spots⟩] Y<|Tr<|Rm Y<|Ra Y<|Ra Y<|Ra Y<|Za<|?_
       replace h := lx h ▸ ho1
       obtain rfl := rt h
       exact Zo<|JN [some 0, some 1, some 2, some 5, some 6] Y (.cons (.tmp Y)<|.cons (.tmp Y)<|.cons (.tmp Y) .nil) (.cons Y (ro1 (by exact tZ_102.symm)<|rlc (.own _ Y)<|rlc (.own _ Y)<|rlc (.dat Y)<|rlc (.dat Y)<|rlc (.dat Y)<|rlc (.dat Y)<|rlc (.dat Y) rln)<|.dead<|.dead<|.cons Y (roO XZ)<|.cons Y (roM D105) .nil) Y Y<|QW<|rlc (.dat Y)<|rlc (.dat Y)<|rlc (.dat Y) rln
      ·
       exact Zi<|K7 0 2 10 14 59 60 61 Y<|Zr<|R2 ZT Y<|Rm Y<|Za<|⟨_, h, ES [some 0, some 1, some 2, some 5, some 6] (hhp := .cons Y (ro1 (by exact tZ_102.symm)<|rlc (.own _ Y)<|rlc (.own _ Y)<|rlc (.dat Y)<|rlc (.dat Y)<|rlc (.dat Y)<|rlc (.dat Y)<|rlc (.dat Y) rln)<|.dead<|.dead<|.cons Y (roO XZ)<|.cons Y (roM D105) .nil)⟩
     ·
      refine ZJ<|?_
      replace h := lx h ▸ ho1
      exact ⟨_, h, ES [some 0, some 1, some 2, some 3, some 4] (hhp := .cons Y (ro1 (by exact tZ_102.symm)<|rlc (.own _ Y)<|rlc (.own _ Y)<|rlc (.dat Y)<|rlc (.dat Y)<|rlc (.dat Y)<|rlc (.dat Y)<|rlc (.dat Y) rln)<|.dead<|.dead<|.cons Y (roO XZ)<|.cons Y (roM D105) .nil)⟩
    ·
     replace h := elr h
     replace h := t8i h
     refine Tr<|Rm Y<|Rm Y<|Rm Y<|Rq Y (ZB (ov Y) Y Y)<|Rq Y (Zf (ov Y) Y Y Zl3)<|Rx Y (Zj (ov Y) (ov Y) (Ze tS3) Y Y Y (Nat.le_of_ble_eq_true Y) (Zb Y) Y)<|Rq Y (ZB (ov Y) Y Y)<|Rq Y (Zf (ov Y) Y Y Zl2)<|Rx Y (Zj (ov Y) (ov Y) (Ze tS4) Y Y Y (Nat.le_of_ble_eq_true Y) (Zb Y) Y)<|Za<|K1 2 Y<|QG [some ⟨102, [[.own 3 memories.length, .own 4 spots.length, .int .i64 copies, .bool frozen, .bool stopped, .int .i64 y3.1, .bool true]]⟩, none, none, some ⟨26, List.map O26 memories⟩, some ⟨105, List.map R105 spots⟩] Y<|Tr<|Rm Y<|Ra Y<|Ra Y<|Ra Y<|Za<|?_
     obtain rfl := rt h
     exact Zo<|JN [some 0, some 1, some 2, some 3, some 4] Y (.cons (.tmp Y)<|.cons (.tmp Y)<|.cons (.tmp Y) .nil) (.cons Y (ro1 (by exact tZ_102.symm)<|rlc (.own _ Y)<|rlc (.own _ Y)<|rlc (.dat Y)<|rlc (.dat Y)<|rlc (.dat Y)<|rlc (.dat Y)<|rlc (.dat Y) rln)<|.dead<|.dead<|.cons Y (roO XZ)<|.cons Y (roM D105) .nil) Y Y<|QW<|rlc (.dat Y)<|rlc (.dat Y)<|rlc (.dat Y) rln
theorem Zhv {l : List api_Memory} {r : (List api_Memory)} (h : Ja l = some r) :
 CSpec Tryz.prog gl0 63 [.sl 26 (List.map R26 l)] (.sl 26 (List.map R26 r)) := by
 unfold Ja at h
 replace h := Qm h
 refine So Tryz.func63 Y fun w0 A=>Tr<|Ra Y<|Za<|K1 0 Y<|Tr<|Ra Y<|Za<|I1 (fun out=>⟨[(3, .own 0 out.length)], [some ⟨26, List.map O26 out⟩]⟩) h (fun h=>?_) fun out h=>?_
 ·
  refine Tr<|Rm Y<|Rl tZ_26 Zdq Y<|Rm Y<|Za<|Zg<|?_
  obtain ⟨r1, hl1, ho1⟩ := QU h
  refine L2 (fun out2 i=>⟨[(3, .own 0 out2.length), (6, .sl 26 (List.map R26 l)), (7, .int .i64 (l.length : Int)), (8, .int .i64 i)], [some ⟨26, List.map O26 out2⟩]⟩) hl1 (ES [none]) fun n1 out2 i h=>?_
  unfold JL at h
  refine Tr<|R2 ZU Y<|Za<|Zh<|If h Y (fun h=>?_) fun h=>?_
  ·
   exact Zi<|Zh<|Zg<|K4 3 6 7 8 Y<|Tr<|bE h fun x h_x h=>Rq Y (Z4 (ov Y) (ov Y) Zdq h_x)<|Rq Y (Qb (ov Y) QA Y Y)<|Rx Y (Z9 (row := [_, _, _, _, _]) 1 Y ZaP Y tZ_26)<|Rx Y (Zj (ov Y) (ov Y) (Zv QA Y) Y Y Y (Nat.le_of_ble_eq_true Y) (Zb Y) Y)<|Za<|K5 3 5 6 7 8 Y<|QG [some ⟨26, List.map O26 out2⟩, some ⟨26, [[.int .i64 x.Slots, .int .i64 x.Limit, .sl 49 (List.map R49 x.Sectors), .sl 3 (List.map R3 x.Wear), .sl 4 (List.map R4 x.Bad)]]⟩] Y<|Zr<|Rm Y<|Rq Y (Qo (ov Y) Y Y Y QA Y Y)<|bE h fun y h_y h=>Rx Y (ZG [] (J6 h_y) (.cons (ov Y) (ZaG<|rld Y) .nil) .nil Y (.keep Y Y<|.keep Y Y<|.lent 0 (.inr ⟨Nat.le_of_ble_eq_true Y, Y⟩) Y (roO QN)<|.lent 1 (.inr ⟨Nat.le_of_ble_eq_true Y, Y⟩) Y (roM D3)<|.lent 2 (.inr ⟨Nat.le_of_ble_eq_true Y, Y⟩) Y (roM D4) .nil) Y Y<|ZaG<|rlc (.dat Y)<|rlc (.dat Y)<|rlc (.own _<|.inr ⟨Nat.le_of_ble_eq_true Y, Y⟩)<|rlc (.own _<|.inr ⟨Nat.le_of_ble_eq_true Y, Y⟩)<|rlc (.own _<|.inr ⟨Nat.le_of_ble_eq_true Y, Y⟩) rln)<|Rx Y (Qk (r := 5) Y Zdq (.cons (cva<|ov Y) Y .nil) Y Y)<|bE h fun l2 h_l2 h=>Rx Y (ZA (f := O26) (ov Y) (ZW (o := ⟨26, [[.int .i64 y.Slots, .int .i64 y.Limit, .own 2 y.Sectors.length, .own 3 y.Wear.length, .own 4 y.Bad.length]]⟩) (ov Y) Y Y tZ_26) Zdq Y Y (Zb Y) Y h_l2)<|Ra Y<|Zen [some ⟨26, List.set (List.map O26 l2) out2.length [.int .i64 y.Slots, .int .i64 y.Limit, .own 2 y.Sectors.length, .own 3 y.Wear.length, .own 4 y.Bad.length]⟩, some ⟨26, [[.int .i64 x.Slots, .int .i64 x.Limit, .sl 49 (List.map R49 x.Sectors), .sl 3 (List.map R3 x.Wear), .sl 4 (List.map R4 x.Bad)]]⟩, some ⟨49, List.map O49 y.Sectors⟩, some ⟨3, List.map R3 y.Wear⟩, some ⟨4, List.map R4 y.Bad⟩, some ⟨26, [[.int .i64 y.Slots, .int .i64 y.Limit, .own 2 y.Sectors.length, .own 3 y.Wear.length, .own 4 y.Bad.length]]⟩] Y<|QZ (Ent.absorbH (r := 0) (j := 2) (q := 2) Y (Zm h_l2) Y Y (List.length_map ..) Y)<|QZ (Ent.absorbH (r := 0) (j := 3) (q := 3) Y (Zm h_l2) Y Y (List.length_map ..) Y)<|QZ (Ent.absorbH (r := 0) (j := 4) (q := 4) Y (Zm h_l2) Y Y (List.length_map ..) Y)<|QZ (Ent.closeS (r := 0) Y (Zm h_l2) Y)<|Za<|K4 3 6 7 8 Y<|QG [some ⟨26, List.map O26 l2⟩, some ⟨26, [[.int .i64 x.Slots, .int .i64 x.Limit, .sl 49 (List.map R49 x.Sectors), .sl 3 (List.map R3 x.Wear), .sl 4 (List.map R4 x.Bad)]]⟩, none, none, none, some ⟨26, [[.int .i64 y.Slots, .int .i64 y.Limit, .own 2 y.Sectors.length, .own 3 y.Wear.length, .own 4 y.Bad.length]]⟩] Y<|Zr<|R2 ZT Y<|Rm Y<|Za<|⟨_, h, ES [some 0] (hhp := .cons Y (roO XZ) .nil)⟩
  ·
   refine ZJ<|?_
   replace h := lx h ▸ ho1
   exact ⟨_, h, ES [some 0] (hhp := .cons Y (roO XZ) .nil)⟩
 ·
  refine Tr<|Rm Y<|Ra Y<|Za<|?_
  obtain rfl := rt h
  exact Zo (ZS Y (.one<|.tmp Y<|View.ownO Y Y XZ (fun x=>(D26 x).1) Zkd))
end Go.Proofs.YtnlmjeleocelgaaGreatDoor
