/- A text of the proof: a verified executor of the program form, or the contracts of the functions that the law reaches. -/
import Derived.Test.YtnlmjeleocelgaaGreatDoorOkRb
set_option linter.all false
namespace Go.Proofs.YtnlmjeleocelgaaGreatDoor
open Go Go.Vx
set_option maxRecDepth 10000
set_option maxHeartbeats 1000000
set_option linter.unusedVariables false
theorem Zf9 {s : List Int} {i : Int} {r : (Vector Int 97)} (h : Jy s i = some r) :
 CSpec Tryz.prog gl0 77 [.sl 5 (List.map R5 s), .int .i64 i] (.rp (List.map C5 r.toList) 0) := by
 unfold Jy at h
 replace h := Qk h
 refine So Tryz.func77 Y fun w0 A=>Tr<|Ra Y<|Za<|K2 0 1 Y<|Tr<|Rm Y<|R2 Zds Y<|R2 ZF Y<|Ra Y<|Za<|K2 0 5 Y<|Tr<|Rm Y<|Rm Y<|Rm Y<|R2 ZF Y<|bE h fun l h_l h=>Rq Y (Zgj (ov Y) QF (oi<|ov Y) (oi<|ov Y) h_l)<|bE h fun v h_v h=>Rq Y (Zlv (f := C5) (ov Y) ZlX tZ_5 Y h_v)<|Ra Y<|Za<|?_
 obtain rfl := rt h
 exact Zo (ZG Y (.one<|rb Y))
theorem Zdt {s : List Int} {f : Int → Option Bool} {r : Int} {f_f : FuncId} {f_c : List AV} (f_d : f_c.all datB = true) (f_h : ∀ (z0 : Int) z, f z0 = some z → CSpec Tryz.prog gl0 f_f ([.int .u8 z0] ++ f_c) (.bool z)) (h : Qs s f = some r) :
 CSpec Tryz.prog gl0 138 [.sl 5 (List.map R5 s), .fn f_f f_c] (.int .i64 r) := by
 unfold Qs at h
 replace h := Qk h
 refine So Tryz.func138 Y fun w0 A=>Tr<|Ra Y<|Za<|J0 (fun j => (.inr j)) ⟨[], []⟩ h (fun h=>?_) fun h=>?_
 ·
  refine K2 0 1 Y<|Tr<|Rm Y<|Rl tZ_5 QF Y<|Rm Y<|Za<|Ze<|?_
  obtain ⟨r1, hl1, ho1⟩ := QE h
  refine L1 (fun i=>⟨[(0, .sl 5 (List.map R5 s)), (1, .fn f_f f_c), (7, .int .i64 (s.length : Int)), (8, .int .i64 i)], []⟩) hl1 (ES []<|sd 0 Y Y<|sr 1 Y (rFn<|rld f_d)<|sd 7 Y Y<|sd 8 Y Y sn) fun n1 i h=>?_
  unfold Z0 at h
  refine Tr<|R2 ZD Y<|Za<|Zg<|If h Y (fun h=>?_) fun h=>?_
  ·
   refine Zf<|Zg<|Ze<|K4 0 1 7 8 Y<|Tr<|Rm Y<|Ra Y<|Za<|K5 0 1 5 7 8 Y<|Tr<|Rm Y<|Rm Y<|Rm Y<|bE h fun x h_x h=>Rq Y (ZS (ov Y) (ov Y) QF h_x)<|Rq Y (Zd (ov Y) tS5 Y)<|bE h fun y h_y h=>Rq Y (Zfw (ov Y) f_d (f_h _ _ h_y)<|.cons (ov Y) (.b Y) .nil)<|Za<|K6 0 1 5 7 8 16 Y<|If h Y (fun h=>?_) fun h=>?_
   ·
    refine K1 5 Y<|Tr<|Rm Y<|Ra Y<|Za<|?_
    replace h := lx h ▸ ho1
    obtain rfl := rt h
    exact Zo (ZG Y (.one<|rb Y))
   ·
    exact Zf<|K4 0 1 7 8 Y<|Zp<|R2 ZF Y<|Rm Y<|Za<|⟨_, h, ES []<|sd 0 Y Y<|sr 1 Y (rFn<|rld f_d)<|sd 7 Y Y<|sd 8 Y Y sn⟩
  ·
   refine Zz<|?_
   replace h := lx h ▸ ho1
   exact ⟨(), h, ES []⟩
 ·
  replace h := elr h
  replace h := t0i h
  refine Tr<|Ra Y<|Za<|?_
  obtain rfl := rt h
  exact Zo (ZG Y (.one<|rb Y))
theorem Zca {s : List Int} {f : Int → Option Bool} {r : Bool} {f_f : FuncId} {f_c : List AV} (f_d : f_c.all datB = true) (f_h : ∀ (z0 : Int) z, f z0 = some z → CSpec Tryz.prog gl0 f_f ([.int .u8 z0] ++ f_c) (.bool z)) (h : ZZ s f = some r) :
 CSpec Tryz.prog gl0 116 [.sl 5 (List.map R5 s), .fn f_f f_c] (.bool r) := by
 unfold ZZ at h
 replace h := Qk h
 refine So Tryz.func116 Y fun w0 A=>Tr<|Ra Y<|Za<|Tr<|Rm Y<|Rm Y<|bE h fun y h_y h=>Rq Y (Zn (Zdt f_d f_h h_y)<|.cons (ov Y) (.b Y)<|.cons (ov Y) (Dat.fnC<|.refl fun x hx => .b<|List.all_eq_true.1 f_d x hx) .nil)<|R2 ZhA Y<|Ra Y<|Za<|?_
 obtain rfl := rt h
 exact Zo (ZG Y (.one<|rb Y))
theorem ZhZ {b : Int} {r : Bool} (h : XJ b = some r) :
 CSpec Tryz.prog gl0 117 [.int .u8 b] (.bool r) := by
 unfold XJ at h
 replace h := Qk h
 refine So Tryz.func117 Y fun w0 A=>Tr<|Ra Y<|Za<|Tr<|Rm Y<|R2 Q2 Y<|Ra Y<|Za<|?_
 obtain rfl := rt h
 exact Zo (ZG Y (.one<|rb Y))
theorem Zfy {p : Vector Int 97} {r : Int} (h : Jw p = some r) :
 CSpec Tryz.prog gl0 78 [.rp (List.map C5 p.toList) 0] (.int .i64 r) := by
 unfold Jw at h
 replace h := Qk h
 refine So Tryz.func78 Y fun w0 A=>Tr<|Ra Y<|Za<|Zg<|Ze<|K1 0 Y<|Tr<|Rm Y<|R1 ZQ Y<|bE h fun x h_x h=>Rq Y (QM (ov Y) (ov Y) ZlX h_x)<|Rq Y (Zd (ov Y) tS5<|Qn<|Xe (o := 0) (o' := ((Int.toNat 96) * 1)) (Zq arL)<|Q9 h_x)<|R2 Zaw Y<|Ra Y<|Za<|K2 0 3 Y<|If h Y (fun h=>?_) fun h=>?_
 ·
  refine K0<|Tr<|Ra Y<|Za<|?_
  obtain rfl := rt h
  exact Zo (ZG Y (.one<|rb Y))
 ·
  refine K1 0 Y<|Tr<|Rm Y<|R1 ZQ Y<|bE h fun l h_l h=>Rq Y (Zl2 (f := C5) (ov Y) ZlX tZ_5 (Zq arL) Y on on h_l)<|bE h fun y h_y h=>Rq Y (Zn (Zca Y (fun z0 _ hz=>ZhZ hz) h_y)<|.cons (ov Y) (.b Y)<|.cons (ov Y) .fn .nil)<|Ra Y<|Za<|K1 9 Y<|If h Y (fun h=>?_) fun h=>?_
  ·
   refine K0<|Tr<|Ra Y<|Za<|?_
   obtain rfl := rt h
   exact Zo (ZG Y (.one<|rb Y))
  ·
   refine Zf<|K0<|Tr<|Ra Y<|Za<|?_
   obtain rfl := rt h
   exact Zo (ZG Y (.one<|rb Y))
theorem Zie {m : api_Memory} {r : ring_spot} (h : Zbs m = some r) :
 CSpec Tryz.prog gl0 64 [.agg [.int .i64 m.Slots, .int .i64 m.Limit, .sl 49 (List.map R49 m.Sectors), .sl 3 (List.map R3 m.Wear), .sl 4 (List.map R4 m.Bad)]] (.agg [.int .i64 r.sector, .int .i64 r.slot]) := by
 unfold Zbs at h
 replace h := Qk h
 refine So Tryz.func64 Y fun w0 A=>Tr<|Rq Y (ZbM (cva<|ov Y) Y tZ_26 Y)<|Rx Y (Z3 (row := [_, _]) 0 Y Zkc Y tZ_105)<|Za<|K2 1 2 Y<|Tr<|Rq Y (Z6 (ov Y) X5 Y Y)<|bE h fun y h_y h=>Rq Y (Zn (ZfJ h_y)<|.cons (ov Y) (.aggB Y) .nil)<|Ra Y<|Za<|Zg<|K3 1 2 3 Y<|Tr<|Rm Y<|Rl tZ_3 QK Y<|R2 Zaw Y<|Za<|K4 1 2 3 10 Y<|If h Y (fun h=>?_) fun h=>?_
 ·
  refine K1 2 Y<|Tr<|Rq Y (Xm (ys := [_, _]) Zlw ZlG Zkc (.cons (cvs (ov Y)<|Zk Y) .nil) Y)<|Rx Y (Zl (ov Y) (ov Y) (Zv Zhv Y) Y Y Y (Nat.le_of_ble_eq_true Y) (Zb Y) Y)<|Za<|?_
  obtain rfl := rt h
  exact Zo (ZG Y (.one<|.agg Y Y Y Y Zhv Y Y<|pwB Y))
 ·
  refine Zf<|K3 1 2 3 Y<|Tr<|Rm Y<|Rm Y<|Rl tZ_3 QK Y<|R2 Za4 Y<|bE h fun x h_x h=>Rq Y (ZS (ov Y) (ov Y) QK h_x)<|Rq Y (Zd (ov Y) tS3 Y)<|Rq Y (Xm (ys := [_, _]) Zlw ZlG Zkc (.cons (cvs (ov Y)<|Zk Y) .nil) Y)<|Rx Y (Z3 (row := [_, _]) 1 Y Zkc Y tZ_105)<|Rx Y (Zl (ov Y) (ov Y) (Zv Zhv Y) Y Y Y (Nat.le_of_ble_eq_true Y) (Zb Y) Y)<|Za<|I1 (fun slot=>⟨[(2, .ptr 0 1 0 0), (4, .ptr 1 1 0 0)], [some ⟨105, [[.int .i64 0, .int .i64 0]]⟩, some ⟨105, [[.int .i64 x, .int .i64 slot]]⟩]⟩) h (fun h=>?_) fun slot h=>?_
  ·
   refine K3 1 2 4 Y<|Tr<|Rq Y (ZU (ov Y) ZeK)<|Rq Y (Zd (ov Y) tS3 Y)<|Rm Y<|Za<|Ze<|?_
   obtain ⟨r1, hl1, ho1⟩ := QE h
   refine L2 (fun slot2 i=>⟨[(1, .rp [.int .i64 m.Slots, .int .i64 m.Limit, .sl 49 (List.map R49 m.Sectors), .sl 3 (List.map R3 m.Wear), .sl 4 (List.map R4 m.Bad)] 0), (2, .ptr 0 1 0 0), (4, .ptr 1 1 0 0), (20, .int .i64 m.Slots), (21, .int .i64 i)], [some ⟨105, [[.int .i64 0, .int .i64 0]]⟩, some ⟨105, [[.int .i64 x, .int .i64 slot2]]⟩]⟩) hl1 (ES [some 0, some 1]) fun n1 slot2 i h=>?_
   unfold Zbb at h
   refine Tr<|R2 ZD Y<|Za<|Zg<|If h Y (fun h=>?_) fun h=>?_
   ·
    refine Zf<|Zg<|Ze<|K5 1 2 4 20 21 Y<|Tr<|Rm Y<|Ra Y<|Za<|K6 1 2 4 5 20 21 Y<|Tr<|Rq Y (ZU (ov Y) ZP)<|Rq Y (Zd (ov Y) Qw Y)<|Rq Y (Zi (ov Y) Y Y Zgy)<|Rq Y (Zw (ov Y) Y Y Y tS3 Y)<|bE h fun x2 h_x2 h=>Rq Y (ZS (ov Y) (ov Y) Qm h_x2)<|Rq Y (Zd (ov Y) ZfN Y)<|Rm Y<|bE h fun y2 h_y2 h=>Rq Y (Zn (Zf9 h_y2)<|.cons (ov Y) (.b Y)<|.cons (ov Y) (.b Y) .nil)<|bE h fun y3 h_y3 h=>Rq Y (Zn (Zfy h_y3)<|.cons (ov Y) (.b Y) .nil)<|R2 Q2 Y<|Za<|K7 1 2 4 5 20 21 33 Y<|If h Y (fun h=>?_) fun h=>?_
    ·
     exact K6 1 2 4 5 20 21 Y<|Zp<|Rm Y<|R2 ZF Y<|Rq Y (Zi (ov Y) Y Y Zhp)<|Rx Y (Zl (ov Y) (ov Y) (Zh tS3) Y Y Y (Nat.le_of_ble_eq_true Y) (Zb Y) Y)<|Za<|K5 1 2 4 20 21 Y<|Zp<|R2 ZF Y<|Rm Y<|Za<|⟨_, h, ES [some 0, some 1]⟩
    ·
     exact Zf<|K5 1 2 4 20 21 Y<|Zp<|R2 ZF Y<|Rm Y<|Za<|⟨_, h, ES [some 0, some 1]⟩
   ·
    refine Zz<|?_
    replace h := lx h ▸ ho1
    exact ⟨_, h, ES [some 0, some 1]⟩
  ·
   refine Tr<|Rq Y (Qe (ov Y) Y Y Y Zhv Y Y)<|Rx Y (Zl (ov Y) (ov Y) (Zv Zhv Y) Y Y Y (Nat.le_of_ble_eq_true Y) (Zb Y) Y)<|Za<|?_
   obtain rfl := rt h
   exact Zo (ZG Y (.one<|.agg Y Y Y Y Zhv Y Y<|pwB Y))
theorem Zfz {l : List api_Memory} {copies : Int} {r : (Int) ⊕ (ring_Recorder × Int)} (h : ZbN l copies = some r) :
 GSpec Tryz.prog gl0 15 [.sl 26 (List.map R26 l), .int .i64 copies] [] (Sum.elim (fun r => .tuple [.lit (.pointer none), .int .i64 r]) (fun r => .tuple [.ptr 0 1 0 0, .int .i64 r.2]) r) (Sum.elim (fun r => []) (fun r => [some ⟨102, [[.own 1 r.1.bank.memories.length, .own 2 r.1.bank.spots.length, .int .i64 r.1.copies, .bool r.1.frozen, .bool r.1.stopped, .int .i64 r.1.last, .bool r.1.some_]]⟩, some ⟨26, List.map O26 r.1.bank.memories⟩, some ⟨105, List.map R105 r.1.bank.spots⟩]) r) := by
 unfold ZbN at h
 replace h := Qk h
 refine QZ (by kernel_rfl) Tryz.func15 Y Y<|?_
 intro w0 A W φ0
 refine Tr<|Ra Y<|Ra Y<|Za<|Zg<|K2 0 1 Y<|Tr<|Rm Y<|bE h fun y h_y h=>Rq Y (Zn (Zc4 h_y)<|.cons (ov Y) (.b Y) .nil)<|Ra Y<|Za<|K3 0 1 6 Y<|Tr<|Rm Y<|R2 Q2 Y<|Za<|K4 0 1 6 17 Y<|If h Y (fun h=>?_) fun h=>?_
 ·
  refine K1 6 Y<|Tr<|Rm Y<|Ra Y<|Ra Y<|Za<|?_
  obtain rfl := rt h
  exact Zo<|ZbQ [] Y (.cons (.tmp Y)<|.cons (.tmp Y) .nil) .nil Y Y<|Xz<|rlc (.dat Y)<|rlc (.dat Y) rln
 ·
  refine Zf<|Zg<|K2 0 1 Y<|Tr<|Rm Y<|Rm Y<|Rl tZ_26 Zaz Y<|bE h fun y2 h_y2 h=>Rq Y (Zn (QG h_y2)<|.cons (ov Y) (.b Y)<|.cons (ov Y) (.b Y)<|.cons (ov Y) (.b Y) .nil)<|R1 XN Y<|Za<|K3 0 1 23 Y<|If h Y (fun h=>?_) fun h=>?_
  ·
   refine K0<|Tr<|Ra Y<|Ra Y<|Za<|?_
   obtain rfl := rt h
   exact Zo<|ZbQ [] Y (.cons (.tmp Y)<|.cons (.tmp Y) .nil) .nil Y Y<|Xz<|rlc (.dat Y)<|rlc (.dat Y) rln
  ·
   refine Zf<|K2 0 1 Y<|Tr<|Rm Y<|Rq Y (Xm (ys := [_, _, _, _, _, _, _]) Zpo Zpv Zqx (.cons (cvs (ov Y)<|Zk Y) .nil) Y)<|Rx Y (Zl6 0 Y (ov Y) Zp8 Y)<|Ra Y<|Za<|K2 0 7 Y<|Tr<|Rm Y<|Rm Y<|bE h fun y3 h_y3 h=>Rx Y (ZO [] (Zhn h_y3) (.cons (ov Y) (.dat Y) .nil) .nil Y (.keep Y Y<|.lent 0 (.inr ⟨Nat.le_of_ble_eq_true Y, Y⟩) Y (roO Jn) .nil) Y Y<|.own _<|.inr ⟨Nat.le_of_ble_eq_true Y, Y⟩)<|Rq Y (ZA (ov Y) Y Y)<|Rq Y (Zi (ov Y) Y Y Zew)<|Rq Y (Zi (ov Y) Y Y ZdS)<|Rx Y (Zl (ov Y) (ov Y) (Zh Zku) Y Y Y (Nat.le_of_ble_eq_true Y) (Zb Y) Y)<|Za<|I2 (fun spots frozen=>⟨[(7, .ptr 0 1 0 0)], [some ⟨102, [[.own 1 y3.length, .own 2 spots.length, .int .i64 copies, .bool frozen, .bool false, .int .i64 0, .bool false]]⟩, some ⟨26, List.map O26 y3⟩, some ⟨105, List.map R105 spots⟩]⟩) h (fun h=>?_) fun spots frozen h=>?_
   ·
    refine K1 7 Y<|XC [some ⟨102, [[.own 1 y3.length, .nils, .int .i64 copies, .bool false, .bool false, .int .i64 0, .bool false]]⟩, some ⟨26, List.map O26 y3⟩] Y<|Tr<|Rm Y<|Rq Y (ZA (ov Y) Y Y)<|Rq Y (Zi (ov Y) Y Y Zew)<|Rq Y (Zi (ov Y) Y Y ZdS)<|Rq Y (Zw (ov Y) Y Y Y Zku Y)<|Rq Y (Zc0 (ov Y) Y Y Zaz)<|Rm Y<|Za<|Ze<|?_
    obtain ⟨r1, hl1, ho1⟩ := QE h
    refine L3 (fun spots2 frozen2 i=>⟨[(7, .ptr 0 1 0 0), (37, .own 1 y3.length), (38, .int .i64 (y3.length : Int)), (39, .int .i64 i)], [some ⟨102, [[.own 1 y3.length, .own 2 spots2.length, .int .i64 copies, .bool frozen2, .bool false, .int .i64 0, .bool false]]⟩, some ⟨26, List.map O26 y3⟩, some ⟨105, List.map R105 spots2⟩]⟩) hl1 (ES [some 0, some 1, none] (hhp := .cons Y (ro1 (by exact tZ_102.symm)<|rlc (.own _ Y)<|rlc (.row Y)<|rlc (.dat Y)<|rlc (.dat Y)<|rlc (.dat Y)<|rlc (.dat Y)<|rlc (.dat Y) rln)<|.cons Y (roO Jn)<|.row 105 .nil)) fun n1 spots2 frozen2 i h=>?_
    unfold Zdc at h
    refine Tr<|R2 ZD Y<|Za<|Zg<|If h Y (fun h=>?_) fun h=>?_
    ·
     refine Zf<|Zg<|Ze<|K4 7 37 38 39 Y<|Tr<|bE h fun x h_x h=>Rq Y (Qh (ov Y) (ov Y) Zaz Y Y h_x)<|Xn (Ent.focusH (r := 1) (j := 2) (e' := 49) (g := O49) (ys := x.Sectors) Y (ZH h_x).2 Y Jm)<|Xn (Ent.focusI (r := 1) (j := 3) (e' := 3) (g := R3) (ys := x.Wear) Y (ZH h_x).2 Y DR3)<|Xn (Ent.focusI (r := 1) (j := 4) (e' := 4) (g := R4) (ys := x.Bad) Y (ZH h_x).2 Y DR4)<|Rq Y (Zm1 (ov Y) Y Y (ZH h_x).2 X5 Y Y)<|Rx Y (Z3 (row := [_, _, _, _, _]) 6 Y Zdx Y tZ_26)<|Rx Y (Zl (ov Y) (ov Y) (Zv X5 Y) Y Y Y (Nat.le_of_ble_eq_true Y) (Zb Y) Y)<|ZfY [some ⟨102, [[.own 1 y3.length, .own 2 spots2.length, .int .i64 copies, .bool frozen2, .bool false, .int .i64 0, .bool false]]⟩, some ⟨26, List.set (List.map O26 y3) i.toNat [.int .i64 x.Slots, .int .i64 x.Limit, .own 3 x.Sectors.length, .own 4 x.Wear.length, .own 5 x.Bad.length]⟩, some ⟨105, List.map R105 spots2⟩, some ⟨49, List.map O49 x.Sectors⟩, some ⟨3, List.map R3 x.Wear⟩, some ⟨4, List.map R4 x.Bad⟩, some ⟨26, [[.int .i64 x.Slots, .int .i64 x.Limit, .own 3 x.Sectors.length, .own 4 x.Wear.length, .own 5 x.Bad.length]]⟩] Y<|Za<|K5 7 9 37 38 39 Y<|Tr<|Rq Y (Qe (ov Y) Y Y Y X5 Y Y)<|bE h fun y4 h_y4 h=>Rq Y (ZdL (Zie h_y4) (.agg<|by simp only [List.mem_cons, List.not_mem_nil, or_false, forall_eq_or_imp, forall_eq]; exact ⟨.int, .int⟩)<|.cons (ov Y) (View.aggL<|.cons (Dat.view<|.b Y)<|.cons (Dat.view<|.b Y)<|.cons (View.ownO Y Y Jm (fun x=>(D49 x).1) Zpb)<|.cons (View.ownM Y Y D3)<|.cons (View.ownM Y Y D4) .nil) .nil)<|Rx Y (Z3 (row := [_, _]) 7 Y Zkc Y tZ_105)<|Rx Y (Zl (ov Y) (ov Y) (Zv Zhv Y) Y Y Y (Nat.le_of_ble_eq_true Y) (Zb Y) Y)<|ZfY [some ⟨102, [[.own 1 y3.length, .own 2 spots2.length, .int .i64 copies, .bool frozen2, .bool false, .int .i64 0, .bool false]]⟩, some ⟨26, List.set (List.map O26 y3) i.toNat [.int .i64 x.Slots, .int .i64 x.Limit, .own 3 x.Sectors.length, .own 4 x.Wear.length, .own 5 x.Bad.length]⟩, some ⟨105, List.map R105 spots2⟩, some ⟨49, List.map O49 x.Sectors⟩, some ⟨3, List.map R3 x.Wear⟩, some ⟨4, List.map R4 x.Bad⟩, some ⟨26, [[.int .i64 x.Slots, .int .i64 x.Limit, .own 3 x.Sectors.length, .own 4 x.Wear.length, .own 5 x.Bad.length]]⟩, some ⟨105, [[.int .i64 y4.sector, .int .i64 y4.slot]]⟩] Y<|Za<|Zg<|K6 7 9 10 37 38 39 Y<|Qd (cw := md0) (by kernel_rfl)<|D1 1 Zc Y<|Dq 2 Y (ZA (ov Y) Y Y)<|Dq 3 Y (Zi (ov Y) Y Y Zew)<|Dq 4 Y (Zi (ov Y) Y Y Zfg)<|Dq 5 Y (Zw (ov Y) Y Y Y ZlF Y)<|Dq 6 Y (Qe (ov Y) Y Y Y Zhv Y Y)<|Zoh 7 (.sl 105<|List.map R105 ([y4] : List ring_spot)) Y (by kernel_rfl) Y Y (Xw Zlz (.cons (cva<|ov Y) Y (pwD Y) .nil) Y Y)<|Qc 0 _ Y (by kernel_rfl) Y Y (fun hp'=>Zc<|ov Y)<|bE h fun l2 h_l2 h=>Do 8 Y (Qo (ov Y) (QD (ov Y) tZ_105) Zlz Y Y Y (fun _=>Zb Y) Y h_l2)<|Dq 9 Y (ZA (ov Y) Y Y)<|Dq 10 Y (Zi (ov Y) Y Y Zew)<|Dq 11 Y (Zi (ov Y) Y Y Zfg)<|Do 12 Y (Zl (ov Y) (ov Y) (Zh ZlF) Y Y Y (Nat.le_of_ble_eq_true Y) (Zb Y) Y)<|Dd<|K6 7 9 10 37 38 39 Y<|XC [some ⟨102, [[.own 1 y3.length, .own 2 l2.length, .int .i64 copies, .bool frozen2, .bool false, .int .i64 0, .bool false]]⟩, some ⟨26, List.set (List.map O26 y3) i.toNat [.int .i64 x.Slots, .int .i64 x.Limit, .own 3 x.Sectors.length, .own 4 x.Wear.length, .own 5 x.Bad.length]⟩, some ⟨105, List.map R105 l2⟩, some ⟨49, List.map O49 x.Sectors⟩, some ⟨3, List.map R3 x.Wear⟩, some ⟨4, List.map R4 x.Bad⟩, some ⟨26, [[.int .i64 x.Slots, .int .i64 x.Limit, .own 3 x.Sectors.length, .own 4 x.Wear.length, .own 5 x.Bad.length]]⟩, some ⟨105, [[.int .i64 y4.sector, .int .i64 y4.slot]]⟩] Y<|Tr<|Rq Y (Zi (ov Y) Y Y Zgy)<|Rq Y (Zw (ov Y) Y Y Y tS3 Y)<|R2 ZhA Y<|Za<|K7 7 9 10 37 38 39 59 Y<|If h Y (fun h=>?_) fun h=>?_
     ·
      exact K6 7 9 10 37 38 39 Y<|Tr<|Rq Y (Zi (ov Y) Y Y ZP)<|Rq Y (Zw (ov Y) Y Y Y Qw Y)<|Rq Y (Zi (ov Y) Y Y Zgy)<|Rq Y (Zw (ov Y) Y Y Y tS3 Y)<|bE h fun x2 h_x2 h=>Rq Y (Qh (ov Y) (ov Y) Qm Y Y h_x2)<|Xn (Ent.focusH (r := 3) (j := 0) (e' := 5) (g := R5) (ys := x2) Y (ZH h_x2).2 Y DR5)<|Rq Y (Zdq (ov Y) Y Y (ZH h_x2).2 ZfN Y)<|bE h fun y5 h_y5 h=>Rq Y (ZdL (Zb6 h_y5) (.tuple<|by simp only [List.mem_cons, List.not_mem_nil, or_false, forall_eq_or_imp, forall_eq]; exact ⟨.int, .bool, .bool⟩)<|.cons (ov Y) (View.ownM Y Y D5) .nil)<|Rm Y<|Rq Y (Zj (ov Y) Y)<|Rq Y (Zj (ov Y) Y)<|Rq Y (Zj (ov Y) Y)<|Ra Y<|Ra Y<|Ra Y<|ZfY [some ⟨102, [[.own 1 y3.length, .own 2 l2.length, .int .i64 copies, .bool frozen2, .bool false, .int .i64 0, .bool false]]⟩, some ⟨26, List.set (List.map O26 y3) i.toNat [.int .i64 x.Slots, .int .i64 x.Limit, .own 3 x.Sectors.length, .own 4 x.Wear.length, .own 5 x.Bad.length]⟩, some ⟨105, List.map R105 l2⟩, some ⟨49, List.set (List.map O49 x.Sectors) y4.sector.toNat [.own 8 x2.length]⟩, some ⟨3, List.map R3 x.Wear⟩, some ⟨4, List.map R4 x.Bad⟩, some ⟨26, [[.int .i64 x.Slots, .int .i64 x.Limit, .own 3 x.Sectors.length, .own 4 x.Wear.length, .own 5 x.Bad.length]]⟩, some ⟨105, [[.int .i64 y4.sector, .int .i64 y4.slot]]⟩, some ⟨5, List.map R5 x2⟩] Y<|Xn (Ent.absorbH (r := 3) (j := 0) (q := 8) Y (ZH h_x2).2 Y Y (List.length_map ..) Y)<|Xn (Ent.closeS (r := 3) Y (ZH h_x2).2 Y)<|Xn (Ent.absorbH (r := 1) (j := 2) (q := 3) Y (ZH h_x).2 Y Y (List.length_map ..) Y)<|Xn (Ent.absorbH (r := 1) (j := 3) (q := 4) Y (ZH h_x).2 Y Y (List.length_map ..) Y)<|Xn (Ent.absorbH (r := 1) (j := 4) (q := 5) Y (ZH h_x).2 Y Y (List.length_map ..) Y)<|Xn (Ent.closeS (r := 1) Y (ZH h_x).2 Y)<|Za<|K5 7 12 37 38 39 Y<|XC [some ⟨102, [[.own 1 y3.length, .own 2 l2.length, .int .i64 copies, .bool frozen2, .bool false, .int .i64 0, .bool false]]⟩, some ⟨26, List.map O26 y3⟩, some ⟨105, List.map R105 l2⟩, none, none, none, some ⟨26, [[.int .i64 x.Slots, .int .i64 x.Limit, .own 3 x.Sectors.length, .own 4 x.Wear.length, .own 5 x.Bad.length]]⟩, some ⟨105, [[.int .i64 y4.sector, .int .i64 y4.slot]]⟩, none] Y<|Zp<|Rm Y<|Rm Y<|Rq Y (ZA (ov Y) Y Y)<|Rq Y (Zi (ov Y) Y Y ZkE)<|Rq Y (Zw (ov Y) Y Y Y tS4 Y)<|Rm Y<|Rq Y (.guarded (frozen2 == false) Y Y Y Y fun h => Zc<|ov Y)<|Rq Y (Zdw (ov Y) fun hp=>ow Y<|gF hp)<|Rq Y (ZA (ov Y) Y Y)<|Rq Y (Zi (ov Y) Y Y ZkE)<|Rx Y (Zl (ov Y) (ov Y) (Zh tS4) Y Y Y (Nat.le_of_ble_eq_true Y) (Zb Y) Y)<|Za<|K4 7 37 38 39 Y<|XC [some ⟨102, [[.own 1 y3.length, .own 2 l2.length, .int .i64 copies, .bool (frozen2 || y5.2.1), .bool false, .int .i64 0, .bool false]]⟩, some ⟨26, List.map O26 y3⟩, some ⟨105, List.map R105 l2⟩, none, none, none, some ⟨26, [[.int .i64 x.Slots, .int .i64 x.Limit, .own 3 x.Sectors.length, .own 4 x.Wear.length, .own 5 x.Bad.length]]⟩, some ⟨105, [[.int .i64 y4.sector, .int .i64 y4.slot]]⟩, none] Y<|Zp<|R2 ZF Y<|Rm Y<|Za<|⟨_, h, ES [some 0, some 1, some 2] (hhp := .cons Y (ro1 (by exact tZ_102.symm)<|rlc (.own _ Y)<|rlc (.own _ Y)<|rlc (.dat Y)<|rlc (.dat Y)<|rlc (.dat Y)<|rlc (.dat Y)<|rlc (.dat Y) rln)<|.cons Y (roO Jn)<|.cons Y (roM D105) .nil)⟩
     ·
      exact Zf<|K4 7 37 38 39 Y<|Zp<|R2 ZF Y<|Rm Y<|Xn (Ent.absorbH (r := 1) (j := 2) (q := 3) Y (ZH h_x).2 Y Y (List.length_map ..) Y)<|Xn (Ent.absorbH (r := 1) (j := 3) (q := 4) Y (ZH h_x).2 Y Y (List.length_map ..) Y)<|Xn (Ent.absorbH (r := 1) (j := 4) (q := 5) Y (ZH h_x).2 Y Y (List.length_map ..) Y)<|Xn (Ent.closeS (r := 1) Y (ZH h_x).2 Y)<|Za<|⟨_, h, ES [some 0, some 1, some 2] (hhp := .cons Y (ro1 (by exact tZ_102.symm)<|rlc (.own _ Y)<|rlc (.own _ Y)<|rlc (.dat Y)<|rlc (.dat Y)<|rlc (.dat Y)<|rlc (.dat Y)<|rlc (.dat Y) rln)<|.cons Y (roO Jn)<|.cons Y (roM D105) .nil)⟩
    ·
     refine Zz<|?_
     replace h := lx h ▸ ho1
     exact ⟨_, h, ES [some 0, some 1, some 2] (hhp := .cons Y (ro1 (by exact tZ_102.symm)<|rlc (.own _ Y)<|rlc (.own _ Y)<|rlc (.dat Y)<|rlc (.dat Y)<|rlc (.dat Y)<|rlc (.dat Y)<|rlc (.dat Y) rln)<|.cons Y (roO Jn)<|.cons Y (roM D105) .nil)⟩
   ·
    refine Tr<|Rm Y<|Ra Y<|Ra Y<|Za<|?_
    obtain rfl := rt h
    exact Zo<|ZbQ [some 0, some 1, some 2] Y (.cons (.tmp Y)<|.cons (.tmp Y) .nil) (.cons Y (ro1 (by exact tZ_102.symm)<|rlc (.own _ Y)<|rlc (.own _ Y)<|rlc (.dat Y)<|rlc (.dat Y)<|rlc (.dat Y)<|rlc (.dat Y)<|rlc (.dat Y) rln)<|.cons Y (roO Jn)<|.cons Y (roM D105) .nil) Y Y<|Xz<|rlc (.ptr _ _ _ Y)<|rlc (.dat Y) rln
theorem ZgO {l : List api_Memory} {copies : Int} {r : Int} (h : ZbN l copies = some (.inl r)) :
    GSpec Tryz.prog gl0 15 [.sl 26 (List.map R26 l), .int .i64 copies] [] (.tuple [.lit (.pointer none), .int .i64 r]) [] := Zfz h
theorem ZgB {l : List api_Memory} {copies : Int} {r : ring_Recorder × Int} (h : ZbN l copies = some (.inr r)) :
    GSpec Tryz.prog gl0 15 [.sl 26 (List.map R26 l), .int .i64 copies] [] (.tuple [.ptr 0 1 0 0, .int .i64 r.2]) [some ⟨102, [[.own 1 r.1.bank.memories.length, .own 2 r.1.bank.spots.length, .int .i64 r.1.copies, .bool r.1.frozen, .bool r.1.stopped, .int .i64 r.1.last, .bool r.1.some_]]⟩, some ⟨26, List.map O26 r.1.bank.memories⟩, some ⟨105, List.map R105 r.1.bank.spots⟩] := Zfz h
theorem ZfR {r_ : ring_Recorder} {power : Int} {r : Int} (h : Jg r_ power = some r) :
 CSpec Tryz.prog gl0 65 [.rp [.sl 26 (List.map R26 r_.bank.memories), .sl 105 (List.map R105 r_.bank.spots), .int .i64 r_.copies, .bool r_.frozen, .bool r_.stopped, .int .i64 r_.last, .bool r_.some_] 0, .int .i64 power] (.int .i64 r) := by
 unfold Jg at h
 replace h := Qk h
 refine So Tryz.func65 Y fun w0 A=>Tr<|Ra Y<|Za<|Zg<|Ze<|K2 0 1 Y<|Tr<|Rm Y<|R1 ZQ Y<|Rq Y (ZU (ov Y) Zmm)<|Rq Y (Zd (ov Y) tS4 Y)<|Ra Y<|Za<|K3 0 1 5 Y<|If h Y (fun h=>?_) fun h=>?_
 ·
  refine K0<|Tr<|Ra Y<|Za<|?_
  obtain rfl := rt h
  exact Zo (ZG Y (.one<|rb Y))
 ·
  refine K2 0 1 Y<|Tr<|Rm Y<|R1 ZQ Y<|Rq Y (ZU (ov Y) ZkE)<|Rq Y (Zd (ov Y) tS4 Y)<|Ra Y<|Za<|K2 1 10 Y<|If h Y (fun h=>?_) fun h=>?_
  ·
   refine K0<|Tr<|Ra Y<|Za<|?_
   obtain rfl := rt h
   exact Zo (ZG Y (.one<|rb Y))
  ·
   refine K1 1 Y<|Tr<|Rm Y<|bE h fun y h_y h=>Rq Y (Zn (QG h_y)<|.cons (ov Y) (.b Y)<|.cons (ov Y) (.b Y)<|.cons (ov Y) (.b Y) .nil)<|R1 XN Y<|Ra Y<|Za<|K1 15 Y<|If h Y (fun h=>?_) fun h=>?_
   ·
    refine K0<|Tr<|Ra Y<|Za<|?_
    obtain rfl := rt h
    exact Zo (ZG Y (.one<|rb Y))
   ·
    refine Zf<|K0<|Tr<|Ra Y<|Za<|?_
    obtain rfl := rt h
    exact Zo (ZG Y (.one<|rb Y))
theorem Zay {w : Int} {r : Int} (h : XU w = some r) :
 CSpec Tryz.prog gl0 104 [.int .u16 w] (.int .i64 r) := by
 unfold XU at h
 replace h := Qk h
 refine So Tryz.func104 Y fun w0 A=>Tr<|Ra Y<|Za<|Tr<|Rm Y<|R2 ZbO Y<|Rq Y (Z4 (ov Y) Zcx tI3 Y)<|Ra Y<|Za<|?_
 obtain rfl := rt h
 exact Zo (ZG Y (.one<|rb Y))
theorem ZeE {f : Vector Int 64} {r : Int} (h : XE f = some r) :
 CSpec Tryz.prog gl0 102 [.rp (List.map C40 f.toList) 0] (.int .i64 r) := by
 unfold XE at h
 replace h := Qk h
 refine So Tryz.func102 Y fun w0 A=>Tr<|Ra Y<|Za<|Zg<|Qd (cw := md0) (by kernel_rfl)<|D1 0 Zc Y<|D1 1 ZQ Y<|bE h fun x h_x h=>Dq 2 Y (QM (ov Y) (ov Y) Jk h_x)<|Dq 3 Y (Zd (ov Y) Zae<|Qn<|Xe (o := 0) (o' := ((Int.toNat 1) * 1)) (Zq arL)<|Q9 h_x)<|bE h fun y h_y h=>Dq 4 Y (Zn (Zay h_y)<|.cons (ov Y) (.b Y) .nil)<|D1 5 Zc Y<|D1 6 ZQ Y<|bE h fun x2 h_x2 h=>Dq 7 Y (QM (ov Y) (ov Y) Jk h_x2)<|Dq 8 Y (Zd (ov Y) Zae<|Qn<|Xe (o := 0) (o' := ((Int.toNat 2) * 1)) (Zq arL)<|Q9 h_x2)<|bE h fun y2 h_y2 h=>Dq 9 Y (Zn (Zay h_y2)<|.cons (ov Y) (.b Y) .nil)<|bE h fun q h_q h=>Dq 10 Y (Ze9 (ov Y) (ov Y) h_q)<|D2 11 ZgQ Y<|D1 12 Qp Y<|Dd<|?_
 obtain rfl := rt h
 exact Zo (ZG Y (.one<|rb Y))
theorem ZgG {x : Int} {r : Int} (h : JW x = some r) :
 CSpec Tryz.prog gl0 135 [.int .u16 x] (.int .i64 r) := by
 unfold JW at h
 replace h := Qk h
 refine So Tryz.func135 Y fun w0 A=>Tr<|Ra Y<|Za<|Zg<|Qd (cw := md0) (by kernel_rfl)<|D1 0 Zc Y<|bE h fun q h_q h=>Dq 1 Y (ZaU (ov Y) (ov Y) h_q)<|bE h fun b h_b h=>Dq 2 Y (Zll (ov Y) (ov Y) Zl7 h_b)<|D1 3 Zc Y<|D2 4 ZbO Y<|bE h fun b2 h_b2 h=>Dq 5 Y (Zll (ov Y) (ov Y) Zl7 h_b2)<|D2 6 ZF Y<|Dq 7 Y (Z4 (ov Y) tI5 tI3 Y)<|D1 8 Qp Y<|Dd<|?_
 obtain rfl := rt h
 exact Zo (ZG Y (.one<|rb Y))
theorem Ze8 {w : Int} {r : Bool} (h : Zbc w = some r) :
 CSpec Tryz.prog gl0 103 [.int .u16 w] (.bool r) := by
 unfold Zbc at h
 replace h := Qk h
 refine So Tryz.func103 Y fun w0 A=>Tr<|Ra Y<|Za<|Tr<|Rm Y<|R2 ZhU Y<|Rm Y<|Rq Y (.guarded ((decide (w ≤ 4095)) == true) Y Y Y Y fun h => Zc<|ov Y)<|bE h fun y h_y h=>Rq Y (.guarded ((decide (w ≤ 4095)) == true) Y Y Y Y fun h => Zn (ZgG<|gdT h_y h)<|.cons (ow Y h) (.b Y) .nil)<|bE h fun q h_q h=>Rq Y (.guarded ((decide (w ≤ 4095)) == true) Y Y Y Y fun h => Jr (ow Y h) (ov Y)<|gdT h_q h)<|Rq Y (.guarded ((decide (w ≤ 4095)) == true) Y Y Y Y fun h => Zaw (ow Y h)<|ov Y)<|Rq Y (Zb4 (ov Y) fun hp=>ow Y<|gT hp)<|Ra Y<|Za<|?_
 obtain rfl := rt h
 exact Zo (ZG Y (.one<|rb Y))
theorem ZjA {f : Vector Int 64} {r : Int} (h : ZaW f = some r) :
 CSpec Tryz.prog gl0 105 [.rp (List.map C40 f.toList) 0] (.int .i64 r) := by
 unfold ZaW at h
 replace h := Qk h
 refine So Tryz.func105 Y fun w0 A=>Tr<|Ra Y<|Za<|K1 0 Y<|Tr<|Ra Y<|Za<|I1 (fun n=>⟨[(3, .int .i64 n)], []⟩) h (fun h=>?_) fun n h=>?_
 ·
  refine Tr<|Rm Y<|Za<|Ze<|?_
  obtain ⟨r1, hl1, ho1⟩ := QE h
  refine L2 (fun n2 i=>⟨[(0, .rp (List.map C40 f.toList) 0), (3, .int .i64 n2), (5, .int .i64 i)], []⟩) hl1 (ES []) fun n1 n2 i h=>?_
  unfold X8 at h
  refine Tr<|R2 ZD Y<|Za<|Zg<|If h Y (fun h=>?_) fun h=>?_
  ·
   exact Zf<|Zg<|Ze<|K3 0 3 5 Y<|Tr<|Rm Y<|Ra Y<|Za<|K4 0 3 4 5 Y<|Zp<|Rm Y<|Rm Y<|Rm Y<|R2 ZF Y<|R1 ZQ Y<|bE h fun x h_x h=>Rq Y (QM (ov Y) (ov Y) Jk h_x)<|Rq Y (Zd (ov Y) Zae<|Qn<|Xe (o := 0) (o' := ((i64 (i + 1)).toNat * 1)) (Zq arL)<|Q9 h_x)<|bE h fun y h_y h=>Rq Y (Zn (Zay h_y)<|.cons (ov Y) (.b Y) .nil)<|R2 ZkH Y<|Ra Y<|Za<|K3 0 3 5 Y<|Zp<|R2 ZF Y<|Rm Y<|Za<|⟨_, h, ES []⟩
  ·
   refine Zz<|?_
   replace h := lx h ▸ ho1
   exact ⟨_, h, ES []⟩
 ·
  refine Tr<|Rm Y<|Ra Y<|Za<|?_
  obtain rfl := rt h
  exact Zo (ZG Y (.one<|rb Y))
theorem Zir {f : Vector Int 64} {r : Int} (h : JH f = some r) :
 CSpec Tryz.prog gl0 106 [.rp (List.map C40 f.toList) 0] (.int .i64 r) := by
 unfold JH at h
 replace h := Qk h
 refine So Tryz.func106 Y fun w0 A=>Tr<|Ra Y<|Za<|K1 0 Y<|Tr<|Ra Y<|Za<|I1 (fun n=>⟨[(3, .int .i64 n)], []⟩) h (fun h=>?_) fun n h=>?_
 ·
  refine Tr<|Rm Y<|Za<|Ze<|?_
  obtain ⟨r1, hl1, ho1⟩ := QE h
  refine L2 (fun n2 i=>⟨[(0, .rp (List.map C40 f.toList) 0), (3, .int .i64 n2), (7, .int .i64 i)], []⟩) hl1 (ES []) fun n1 n2 i h=>?_
  unfold Xv at h
  refine Tr<|R2 ZD Y<|Za<|Zg<|If h Y (fun h=>?_) fun h=>?_
  ·
   refine Zf<|I1 (fun n3=>⟨[(0, .rp (List.map C40 f.toList) 0), (3, .int .i64 n3), (7, .int .i64 i)], []⟩) h (fun h=>?_) fun n3 h=>?_
   ·
    refine Ze<|K3 0 3 7 Y<|Tr<|Rm Y<|Ra Y<|Za<|K4 0 3 4 7 Y<|Tr<|Ra Y<|Za<|Ze<|?_
    obtain ⟨r2, hl2, ho2⟩ := QE h
    refine L2 (fun n4 k=>⟨[(0, .rp (List.map C40 f.toList) 0), (3, .int .i64 n4), (4, .int .i64 i), (5, .int .i64 k), (7, .int .i64 i)], []⟩) hl2 (ES []) fun n2 n4 k h=>?_
    unfold Q5 at h
    refine Zg<|Tr<|Rm Y<|R2 ZhA Y<|Za<|K6 0 3 4 5 7 11 Y<|If h Y (fun h=>?_) fun h=>?_
    ·
     refine Zf<|Zg<|Ze<|K5 0 3 4 5 7 Y<|Tr<|Rm Y<|R2 ZbO Y<|R2 Q2 Y<|Ra Y<|Za<|K6 0 3 4 5 6 7 Y<|Tr<|Rm Y<|bE h fun q h_q h=>Rq Y (Ze9 (ov Y) (ov Y) h_q)<|R2 ZbO Y<|Ra Y<|Za<|K6 0 3 4 5 6 7 Y<|Tr<|Rm Y<|Rm Y<|Rm Y<|R1 ZQ Y<|bE h fun x h_x h=>Rq Y (QM (ov Y) (ov Y) Jk h_x)<|Rq Y (Zd (ov Y) Zae<|Qn<|Xe (o := 0) (o' := (i.toNat * 1)) (Zq arL)<|Q9 h_x)<|Rm Y<|bE h fun q2 h_q2 h=>Rq Y (ZaU (ov Y) (ov Y) h_q2)<|R2 ZbO Y<|R2 Zaw Y<|Rq Y (Zno .neq (by simp) (ov Y) (ov Y) tB4)<|Za<|K6 0 3 4 5 7 30 Y<|If h Y (fun h=>?_) fun h=>?_
     ·
      exact K5 0 3 4 5 7 Y<|Zp<|Rm Y<|R2 ZkH Y<|Ra Y<|Za<|K5 0 3 4 5 7 Y<|Zp<|Rm Y<|R2 Za4 Y<|Ra Y<|Za<|⟨_, h, ES []⟩
     ·
      exact Zf<|K5 0 3 4 5 7 Y<|Zp<|Rm Y<|R2 Za4 Y<|Ra Y<|Za<|⟨_, h, ES []⟩
    ·
     refine Zz<|?_
     replace h := lx h ▸ ho2
     exact ⟨_, h, ES []⟩
   ·
    exact Zp<|R2 ZF Y<|Rm Y<|Za<|⟨_, h, ES []⟩
  ·
   refine Zz<|?_
   replace h := lx h ▸ ho1
   exact ⟨_, h, ES []⟩
 ·
  refine Tr<|Rm Y<|Ra Y<|Za<|?_
  obtain rfl := rt h
  exact Zo (ZG Y (.one<|rb Y))
theorem Zf3 {f : Vector Int 64} {r : (List api_Flaw)} (h : J4 f = some r) :
 CSpec Tryz.prog gl0 66 [.agg (List.map C40 f.toList)] (.sl 149 (List.map R149 r)) := by
 unfold J4 at h
 replace h := Qk h
 refine So Tryz.func66 Y fun w0 A=>Tr<|Rq Y (ZbM (cva<|ov Y) arL tZ_42<|arD fun _ => Y)<|Ra Y<|Za<|K1 1 Y<|Tr<|Ra Y<|Za<|I1 (fun out=>⟨[(1, .rp (List.map C40 f.toList) 0), (3, .own 0 out.length)], [some ⟨149, List.map R149 out⟩]⟩) h (fun h=>?_) fun out h=>?_
 ·
  refine Tr<|Rq Y (Z6 (ov Y) QR (ZW<|Zq arL) arL)<|Rm Y<|Za<|Ze<|?_
  obtain ⟨r1, hl1, ho1⟩ := QE h
  refine L2 (fun out2 i=>⟨[(1, .rp (List.map C40 f.toList) 0), (3, .own 0 out2.length), (7, .agg (List.map C40 f.toList)), (8, .int .i64 i)], [some ⟨149, List.map R149 out2⟩]⟩) hl1 (ES [none]) fun n1 out2 i h=>?_
  unfold X6 at h
  refine Tr<|R2 ZD Y<|Za<|Zg<|If h Y (fun h=>?_) fun h=>?_
  ·
   refine Zf<|Zg<|Ze<|K4 1 3 7 8 Y<|Tr<|Rm Y<|bE h fun x h_x h=>Rq Y (Zif (ov Y) (ov Y) Jk Zae h_x)<|Ra Y<|Ra Y<|Za<|K6 1 3 4 5 7 8 Y<|Tr<|Rm Y<|R2 Za8 Y<|Za<|K6 1 3 4 7 8 13 Y<|If h Y (fun h=>?_) fun h=>?_
   ·
    exact K5 1 3 4 7 8 Y<|Zp<|Rm Y<|Rm Y<|Rq Y (Xm (ys := [_, _]) ZeO ZeP ZgT (.cons (cvs (ov Y)<|Zk Y)<|.cons (cvs (ov Y)<|Zk Y) .nil) Y)<|R_q (.sl 149<|List.map R149 ([(api_Flaw.mk i 5)] : List api_Flaw)) Y (Xw Zat (.cons (cva<|ov Y) Y (pwD Y) .nil) Y Y)<|bE h fun l h_l h=>Rx Y (Qo (ov Y) (QD (ov Y) tZ_149) Zat Y Y Y (fun _=>Zb Y) Y h_l)<|Ra Y<|Za<|K4 1 3 7 8 Y<|Zp<|R2 ZF Y<|Rm Y<|Za<|⟨_, h, ES [some 0]⟩
   ·
    exact Zf<|K4 1 3 7 8 Y<|Zp<|R2 ZF Y<|Rm Y<|Za<|⟨_, h, ES [some 0]⟩
  ·
   refine Zz<|?_
   replace h := lx h ▸ ho1
   exact ⟨_, h, ES [some 0]⟩
 ·
  refine Zg<|Tr<|Rm Y<|Rq Y (Zc0 (ov Y) Y Y Zat)<|R2 Za8 Y<|Za<|K3 1 3 22 Y<|If h Y (fun h=>?_) fun h=>?_
  ·
   refine K1 3 Y<|Tr<|Rm Y<|Ra Y<|Za<|?_
   obtain rfl := rt h
   exact Zo (ZG Y (.one<|.tmp Y<|View.ownM Y Y D149))
  ·
   refine Zf<|I1 (fun out3=>⟨[(1, .rp (List.map C40 f.toList) 0), (3, .own 0 out3.length)], [some ⟨149, List.map R149 out3⟩]⟩) h (fun h=>?_) fun out3 h=>?_
   ·
    refine Zg<|K2 1 3 Y<|Qd (cw := md0) (by kernel_rfl)<|bE h fun x2 h_x2 h=>Dq 0 Y (QM (ov Y) (ov Y) Jk h_x2)<|Dq 1 Y (Zd (ov Y) Zae<|Qn<|Xe (o := 0) (o' := ((Int.toNat 0) * 1)) (Zq arL)<|Q9 h_x2)<|bE h fun y h_y h=>Dq 2 Y (Zn (ZeE h_y)<|.cons (ov Y) (.b Y) .nil)<|bE h fun q h_q h=>Dq 3 Y (Jr (ov Y) (ov Y) h_q)<|bE h fun x3 h_x3 h=>Dq 4 Y (QM (og (v := gv_frame_syncs) (k := .u16) (f := C40) (by simp [gl0]) fun _=>Y) (ov Y) Zqh h_x3)<|Dq 5 Y (Zd (ov Y) Zae<|Qn<|Xe (o := 0) (o' := (q.toNat * 1)) (Zq arL)<|Q9 h_x3)<|D2 6 Q2 Y<|Dd<|K3 1 3 30 Y<|If h Y (fun h=>?_) fun h=>?_
    ·
     exact K2 1 3 Y<|Zp<|Rm Y<|Rq Y (Xm (ys := [_, _]) ZeO ZeP ZgT (.cons (cvs (ov Y)<|Zk Y)<|.cons (cvs (ov Y)<|Zk Y) .nil) Y)<|R_q (.sl 149<|List.map R149 ([(api_Flaw.mk 0 1)] : List api_Flaw)) Y (Xw Zat (.cons (cva<|ov Y) Y (pwD Y) .nil) Y Y)<|bE h fun l2 h_l2 h=>Rx Y (Qo (ov Y) (QD (ov Y) tZ_149) Zat Y Y Y (fun _=>Zb Y) Y h_l2)<|Ra Y<|Za<|⟨_, h, ES [some 0]⟩
    ·
     exact Zf<|⟨_, h, ES [some 0]⟩
   ·
    refine I1 (fun out4=>⟨[(1, .rp (List.map C40 f.toList) 0), (3, .own 0 out4.length)], [some ⟨149, List.map R149 out4⟩]⟩) h (fun h=>?_) fun out4 h=>?_
    ·
     refine Tr<|Ra Y<|Za<|Ze<|?_
     obtain ⟨r2, hl2, ho2⟩ := QE h
     refine L2 (fun out5 i2=>⟨[(1, .rp (List.map C40 f.toList) 0), (3, .own 0 out5.length), (6, .int .i64 i2)], [some ⟨149, List.map R149 out5⟩]⟩) hl2 (ES [some 0]) fun n2 out5 i2 h=>?_
     unfold Ja at h
     refine Zg<|Tr<|Rm Y<|R2 ZD Y<|Za<|K4 1 3 6 36 Y<|If h Y (fun h=>?_) fun h=>?_
     ·
      refine Zf<|Zg<|Ze<|K3 1 3 6 Y<|Tr<|Rm Y<|bE h fun x4 h_x4 h=>Rq Y (QM (ov Y) (ov Y) Jk h_x4)<|Rq Y (Zd (ov Y) Zae<|Qn<|Xe (o := 0) (o' := (i2.toNat * 1)) (Zq arL)<|Q9 h_x4)<|bE h fun y2 h_y2 h=>Rq Y (Zn (Ze8 h_y2)<|.cons (ov Y) (.b Y) .nil)<|R1 XN Y<|Za<|K4 1 3 6 43 Y<|If h Y (fun h=>?_) fun h=>?_
      ·
       exact K3 1 3 6 Y<|Zp<|Rm Y<|Rm Y<|Rq Y (Xm (ys := [_, _]) ZeO ZeP ZgT (.cons (cvs (ov Y)<|Zk Y)<|.cons (cvs (ov Y)<|Zk Y) .nil) Y)<|R_q (.sl 149<|List.map R149 ([(api_Flaw.mk i2 2)] : List api_Flaw)) Y (Xw Zat (.cons (cva<|ov Y) Y (pwD Y) .nil) Y Y)<|bE h fun l3 h_l3 h=>Rx Y (Qo (ov Y) (QD (ov Y) tZ_149) Zat Y Y Y (fun _=>Zb Y) Y h_l3)<|Ra Y<|Za<|K3 1 3 6 Y<|Zp<|Rm Y<|R2 ZF Y<|Ra Y<|Za<|⟨_, h, ES [some 0]⟩
      ·
       exact Zf<|K3 1 3 6 Y<|Zp<|Rm Y<|R2 ZF Y<|Ra Y<|Za<|⟨_, h, ES [some 0]⟩
     ·
      refine Zz<|?_
      replace h := lx h ▸ ho2
      exact ⟨_, h, ES [some 0]⟩
    ·
     refine I1 (fun out6=>⟨[(1, .rp (List.map C40 f.toList) 0), (3, .own 0 out6.length)], [some ⟨149, List.map R149 out6⟩]⟩) h (fun h=>?_) fun out6 h=>?_
     ·
      refine Tr<|bE h fun x5 h_x5 h=>Rq Y (QM (ov Y) (ov Y) Jk h_x5)<|Rq Y (Zd (ov Y) Zae<|Qn<|Xe (o := 0) (o' := ((Int.toNat 61) * 1)) (Zq arL)<|Q9 h_x5)<|bE h fun y3 h_y3 h=>Rq Y (Zn (Zay h_y3)<|.cons (ov Y) (.b Y) .nil)<|bE h fun y4 h_y4 h=>Rq Y (Zn (ZjA h_y4)<|.cons (ov Y) (.b Y) .nil)<|R2 Q2 Y<|Za<|K3 1 3 53 Y<|If h Y (fun h=>?_) fun h=>?_
      ·
       exact K2 1 3 Y<|Zp<|Rm Y<|Rq Y (Xm (ys := [_, _]) ZeO ZeP ZgT (.cons (cvs (ov Y)<|Zk Y)<|.cons (cvs (ov Y)<|Zk Y) .nil) Y)<|R_q (.sl 149<|List.map R149 ([(api_Flaw.mk 61 3)] : List api_Flaw)) Y (Xw Zat (.cons (cva<|ov Y) Y (pwD Y) .nil) Y Y)<|bE h fun l4 h_l4 h=>Rx Y (Qo (ov Y) (QD (ov Y) tZ_149) Zat Y Y Y (fun _=>Zb Y) Y h_l4)<|Ra Y<|Za<|⟨_, h, ES [some 0]⟩
      ·
       exact Zf<|⟨_, h, ES [some 0]⟩
     ·
      refine Zg<|Zg<|Qd (cw := md0) (by kernel_rfl)<|bE h fun x6 h_x6 h=>Dq 0 Y (QM (ov Y) (ov Y) Jk h_x6)<|Dq 1 Y (Zd (ov Y) Zae<|Qn<|Xe (o := 0) (o' := ((Int.toNat 62) * 1)) (Zq arL)<|Q9 h_x6)<|bE h fun y5 h_y5 h=>Dq 2 Y (Zn (Zay h_y5)<|.cons (ov Y) (.b Y) .nil)<|bE h fun q2 h_q2 h=>Dq 3 Y (Ze9 (ov Y) (ov Y) h_q2)<|bE h fun x7 h_x7 h=>Dq 4 Y (QM (ov Y) (ov Y) Jk h_x7)<|Dq 5 Y (Zd (ov Y) Zae<|Qn<|Xe (o := 0) (o' := ((Int.toNat 63) * 1)) (Zq arL)<|Q9 h_x7)<|bE h fun y6 h_y6 h=>Dq 6 Y (Zn (Zay h_y6)<|.cons (ov Y) (.b Y) .nil)<|D2 7 ZgQ Y<|bE h fun y7 h_y7 h=>Dq 8 Y (Zn (Zir h_y7)<|.cons (ov Y) (.b Y) .nil)<|D2 9 Q2 Y<|Dd<|K2 3 67 Y<|If h Y (fun h=>?_) fun h=>?_
      ·
       refine K1 3 Y<|Zp<|Rm Y<|Rq Y (Xm (ys := [_, _]) ZeO ZeP ZgT (.cons (cvs (ov Y)<|Zk Y)<|.cons (cvs (ov Y)<|Zk Y) .nil) Y)<|R_q (.sl 149<|List.map R149 ([(api_Flaw.mk 62 4)] : List api_Flaw)) Y (Xw Zat (.cons (cva<|ov Y) Y (pwD Y) .nil) Y Y)<|bE h fun l5 h_l5 h=>Rx Y (Qo (ov Y) (QD (ov Y) tZ_149) Zat Y Y Y (fun _=>Zb Y) Y h_l5)<|Ra Y<|Za<|K1 3 Y<|Tr<|Rm Y<|Ra Y<|Za<|?_
       obtain rfl := rt h
       exact Zo (ZG Y (.one<|.tmp Y<|View.ownM Y Y D149))
      ·
       refine Zf<|K1 3 Y<|Tr<|Rm Y<|Ra Y<|Za<|?_
       obtain rfl := rt h
       exact Zo (ZG Y (.one<|.tmp Y<|View.ownM Y Y D149))
theorem ZfF {f : Vector Int 64} {r : Int × Bool} (h : XZ f = some r) :
 CSpec Tryz.prog gl0 67 [.agg (List.map C40 f.toList)] (.tuple [.int .i64 r.1, .bool r.2]) := by
 unfold XZ at h
 replace h := Qk h
 refine So Tryz.func67 Y fun w0 A=>Tr<|Rq Y (ZbM (cva<|ov Y) arL tZ_42<|arD fun _ => Y)<|Ra Y<|Ra Y<|Za<|Zg<|K1 1 Y<|Tr<|bE h fun x h_x h=>Rq Y (QM (ov Y) (ov Y) Jk h_x)<|Rq Y (Zd (ov Y) Zae<|Qn<|Xe (o := 0) (o' := ((Int.toNat 1) * 1)) (Zq arL)<|Q9 h_x)<|bE h fun y h_y h=>Rq Y (Zn (Ze8 h_y)<|.cons (ov Y) (.b Y) .nil)<|R1 XN Y<|Rm Y<|bE h fun x2 h_x2 h=>Rq Y (.guarded ((!y) == false) Y Y Y Y fun h => QM (ov Y) (ov Y) Jk<|gdT h_x2 h)<|Rq Y (.guarded ((!y) == false) Y Y Y Y fun h => Zd (ow Y h) Zae<|Qn<|Xe (o := 0) (o' := ((Int.toNat 2) * 1)) (Zq arL)<|Q9<|gdT h_x2 h)<|bE h fun y2 h_y2 h=>Rq Y (.guarded ((!y) == false) Y Y Y Y fun h => Zn (Ze8<|gdT h_y2 h)<|.cons (ow Y h) (.b Y) .nil)<|Rq Y (.guarded ((!y) == false) Y Y Y Y fun h => XN<|ow Y h)<|Rq Y (Zdw (ov Y) fun hp=>ow Y<|gF hp)<|Za<|K2 1 13 Y<|If h Y (fun h=>?_) fun h=>?_
 ·
  refine K0<|Tr<|Ra Y<|Ra Y<|Za<|?_
  obtain rfl := rt h
  exact Zo (ZG Y (.two (rb Y)<|rb Y))
 ·
  refine Zf<|K1 1 Y<|Tr<|bE h fun y3 h_y3 h=>Rq Y (Zn (ZeE h_y3)<|.cons (ov Y) (.b Y) .nil)<|Ra Y<|Ra Y<|Za<|?_
  obtain rfl := rt h
  exact Zo (ZG Y (.two (rb Y)<|rb Y))
theorem ZiQ {number : Int} {memories : Int} {copies : Int} {r : (List Int)} (h : Zce number memories copies = some r) :
 CSpec Tryz.prog gl0 68 [.int .i64 number, .int .i64 memories, .int .i64 copies] (.sl 3 (List.map R3 r)) := by
 unfold Zce at h
 replace h := Qk h
 refine So Tryz.func68 Y fun w0 A=>Tr<|Ra Y<|Za<|K3 0 1 2 Y<|Tr<|Ra Y<|Za<|I1 (fun out=>⟨[(7, .own 0 out.length)], [some ⟨3, List.map R3 out⟩]⟩) h (fun h=>?_) fun out h=>?_
 ·
  refine Tr<|Rm Y<|Rm Y<|Za<|Ze<|?_
  obtain ⟨r1, hl1, ho1⟩ := QE h
  refine L2 (fun out2 i=>⟨[(0, .int .i64 number), (1, .int .i64 memories), (7, .own 0 out2.length), (9, .int .i64 copies), (10, .int .i64 i)], [some ⟨3, List.map R3 out2⟩]⟩) hl1 (ES [none]) fun n1 out2 i h=>?_
  unfold ZbI at h
  refine Tr<|R2 ZD Y<|Za<|Zg<|If h Y (fun h=>?_) fun h=>?_
  ·
   exact Zf<|Zg<|Ze<|K5 0 1 7 9 10 Y<|Tr<|Rm Y<|Ra Y<|Za<|K6 0 1 7 8 9 10 Y<|Zp<|Rm Y<|Rm Y<|Rm Y<|R2 ZF Y<|Rm Y<|bE h fun q h_q h=>Rq Y (Jr (ov Y) (ov Y) h_q)<|R_q (.sl 3<|List.map R3 ([q] : List Int)) Y (Xw QK (.cons (cvs (ov Y)<|Zk Y) Y (.cons (.b Y) .nil) .nil) Y Y)<|bE h fun l h_l h=>Rx Y (Qo (ov Y) (QD (ov Y) tZ_3) QK Y Y Y (fun _=>Zb Y) Y h_l)<|Ra Y<|Za<|K5 0 1 7 9 10 Y<|Zp<|R2 ZF Y<|Rm Y<|Za<|⟨_, h, ES [some 0]⟩
  ·
   refine Zz<|?_
   replace h := lx h ▸ ho1
   exact ⟨_, h, ES [some 0]⟩
 ·
  refine Tr<|Rm Y<|Ra Y<|Za<|?_
  obtain rfl := rt h
  exact Zo (ZG Y (.one<|.tmp Y<|View.ownM Y Y D3))
theorem Zbl {b : ring_bank} {k : Int} {r : Bool} (h : Xr b k = some r) :
 CSpec Tryz.prog gl0 107 [.rp [.sl 26 (List.map R26 b.memories), .sl 105 (List.map R105 b.spots)] 0, .int .i64 k] (.bool r) := by
 unfold Xr at h
 replace h := Qk h
 refine So Tryz.func107 Y fun w0 A=>Tr<|Ra Y<|Za<|Zg<|Qd (cw := md0) (by kernel_rfl)<|D1 0 Zc Y<|D1 1 ZQ Y<|Dq 2 Y (ZU (ov Y) Zfg)<|Dq 3 Y (Zd (ov Y) ZlF Y)<|D1 4 Zc Y<|bE h fun x h_x h=>Dq 5 Y (ZS (ov Y) (ov Y) Zlz h_x)<|Dq 6 Y (ZU (ov Y) Zgy)<|Dq 7 Y (Zd (ov Y) tS3 Y)<|D2 8 ZD Y<|D1 9 Zc Y<|Dq 10 Y (.guarded ((decide (x.sector < 0)) == false) Y Y Y Y fun h => Zc<|ov Y)<|Dq 11 Y (.guarded ((decide (x.sector < 0)) == false) Y Y Y Y fun h => ZQ<|ow Y h)<|Dq 12 Y (.guarded ((decide (x.sector < 0)) == false) Y Y Y Y fun h => ZU (ow Y h) Zfg)<|Dq 13 Y (.guarded ((decide (x.sector < 0)) == false) Y Y Y Y fun h => Zd (ow Y h) ZlF Y)<|Dq 14 Y (.guarded ((decide (x.sector < 0)) == false) Y Y Y Y fun h => Zc<|ov Y)<|bE h fun x2 h_x2 h=>Dq 15 Y (.guarded ((decide (x.sector < 0)) == false) Y Y Y Y fun h => ZS (ow Y h) (ow Y h) Zlz<|gdT h_x2 h)<|Dq 16 Y (.guarded ((decide (x.sector < 0)) == false) Y Y Y Y fun h => ZU (ow Y h) Zhp)<|Dq 17 Y (.guarded ((decide (x.sector < 0)) == false) Y Y Y Y fun h => Zd (ow Y h) tS3 Y)<|Dq 18 Y (.guarded ((decide (x.sector < 0)) == false) Y Y Y Y fun h => Zc<|ov Y)<|Dq 19 Y (.guarded ((decide (x.sector < 0)) == false) Y Y Y Y fun h => ZQ<|ow Y h)<|Dq 20 Y (.guarded ((decide (x.sector < 0)) == false) Y Y Y Y fun h => ZU (ow Y h) ZdS)<|Dq 21 Y (.guarded ((decide (x.sector < 0)) == false) Y Y Y Y fun h => Zd (ow Y h) Zku Y)<|Dq 22 Y (.guarded ((decide (x.sector < 0)) == false) Y Y Y Y fun h => Zc<|ov Y)<|bE h fun x3 h_x3 h=>Dq 23 Y (.guarded ((decide (x.sector < 0)) == false) Y Y Y Y fun h => ZS (ow Y h) (ow Y h) Zaz<|gdT h_x3 h)<|Dq 24 Y (.guarded ((decide (x.sector < 0)) == false) Y Y Y Y fun h => ZU (ow Y h) ZeK)<|Dq 25 Y (.guarded ((decide (x.sector < 0)) == false) Y Y Y Y fun h => Zd (ow Y h) tS3 Y)<|Dq 26 Y (.guarded ((decide (x.sector < 0)) == false) Y Y Y Y fun h => Zaw (ow Y h)<|ow Y h)<|Dq 27 Y (Zdw (ov Y) fun hp=>ow Y<|gF hp)<|D1 28 Qp Y<|Dd<|?_
 obtain rfl := rt h
 exact Zo (ZG Y (.one<|rb Y))
theorem Zcf {b : ring_bank} {k : Int} {r : Int} (h : Jd b k = some r) :
 CSpec Tryz.prog gl0 108 [.rp [.sl 26 (List.map R26 b.memories), .sl 105 (List.map R105 b.spots)] 0, .int .i64 k] (.int .i64 r) := by
 unfold Jd at h
 replace h := Qk h
 refine So Tryz.func108 Y fun w0 A=>Tr<|Ra Y<|Za<|K2 0 1 Y<|Tr<|Rm Y<|R1 ZQ Y<|Rq Y (ZU (ov Y) ZdS)<|Rq Y (Zd (ov Y) Zku Y)<|Rm Y<|bE h fun x h_x h=>Rq Y (ZS (ov Y) (ov Y) Zaz h_x)<|Rq Y (Z6 (ov Y) X5 Y Y)<|Rx Y (Z3 (row := [_, _, _, _, _]) 0 Y Zdx Y tZ_26)<|Rx Y (Zl (ov Y) (ov Y) (Zv X5 Y) Y Y Y (Nat.le_of_ble_eq_true Y) (Zb Y) Y)<|Za<|K3 0 1 5 Y<|Tr<|Rq Y (Zi (ov Y) Y Y ZP)<|Rq Y (Zw (ov Y) Y Y Y Qw Y)<|Rl tZ_49 Qm Y<|Ra Y<|Za<|J0 (fun j => (.inr j)) ⟨[], []⟩ h (fun h=>?_) fun h=>?_
 ·
  refine K4 0 1 5 6 Y<|Tr<|Rm Y<|Rm Y<|Za<|Ze<|?_
  obtain ⟨r1, hl1, ho1⟩ := QE h
  refine L1 (fun i=>⟨[(0, .rp [.sl 26 (List.map R26 b.memories), .sl 105 (List.map R105 b.spots)] 0), (1, .int .i64 k), (5, .ptr 0 1 0 0), (6, .int .i64 (x.Sectors.length : Int)), (19, .int .i64 (x.Sectors.length : Int)), (20, .int .i64 i)], [some ⟨26, [[.int .i64 x.Slots, .int .i64 x.Limit, .sl 49 (List.map R49 x.Sectors), .sl 3 (List.map R3 x.Wear), .sl 4 (List.map R4 x.Bad)]]⟩]⟩) hl1 (ES [some 0]) fun n1 i h=>?_
  unfold ZaI at h
  refine Tr<|R2 ZD Y<|Za<|Zg<|If h Y (fun h=>?_) fun h=>?_
  ·
   refine Zf<|Zg<|Ze<|K6 0 1 5 6 19 20 Y<|Tr<|Rm Y<|Ra Y<|Za<|K7 0 1 5 6 7 19 20 Y<|Tr<|Rm Y<|R1 ZQ Y<|Rq Y (ZU (ov Y) Zfg)<|Rq Y (Zd (ov Y) ZlF Y)<|Rm Y<|bE h fun x2 h_x2 h=>Rq Y (ZS (ov Y) (ov Y) Zlz h_x2)<|Rq Y (ZU (ov Y) Zgy)<|Rq Y (Zd (ov Y) tS3 Y)<|R2 ZF Y<|Rm Y<|R2 ZF Y<|Rm Y<|bE h fun q h_q h=>Rq Y (Jr (ov Y) (ov Y) h_q)<|Ra Y<|Za<|Zg<|K7 0 1 5 6 8 19 20 Y<|Qd (cw := md0) (by kernel_rfl)<|Dq 0 Y (Zi (ov Y) Y Y ZeI)<|Dq 1 Y (Zw (ov Y) Y Y Y ZjR Y)<|D1 2 Zc Y<|bE h fun x3 h_x3 h=>Dq 3 Y (ZS (ov Y) (ov Y) ZgF h_x3)<|Dq 4 Y (Zd (ov Y) tS4 Y)<|D1 5 XN Y<|D1 6 Zc Y<|Dq 7 Y (.guarded ((!x3) == true) Y Y Y Y fun h => Zi (ov Y) Y Y Zfx)<|Dq 8 Y (.guarded ((!x3) == true) Y Y Y Y fun h => Zw (ow Y h) Y Y Y ZkK Y)<|Dq 9 Y (.guarded ((!x3) == true) Y Y Y Y fun h => Zc<|ov Y)<|bE h fun x4 h_x4 h=>Dq 10 Y (.guarded ((!x3) == true) Y Y Y Y fun h => ZS (ow Y h) (ow Y h) QK<|gdT h_x4 h)<|Dq 11 Y (.guarded ((!x3) == true) Y Y Y Y fun h => Zd (ow Y h) tS3 Y)<|Dq 12 Y (.guarded ((!x3) == true) Y Y Y Y fun h => Zi (ov Y) Y Y Zjz)<|Dq 13 Y (.guarded ((!x3) == true) Y Y Y Y fun h => Zw (ow Y h) Y Y Y tS3 Y)<|Dq 14 Y (.guarded ((!x3) == true) Y Y Y Y fun h => ZD (ow Y h)<|ow Y h)<|Dq 15 Y (Zb4 (ov Y) fun hp=>ow Y<|gT hp)<|Dd<|K8 0 1 5 6 8 19 20 51 Y<|If h Y (fun h=>?_) fun h=>?_
   ·
    refine K1 8 Y<|Tr<|Rm Y<|Ra Y<|Za<|?_
    replace h := lx h ▸ ho1
    obtain rfl := rt h
    exact Zo (ZG Y (.one<|rb Y))
   ·
    exact Zf<|K6 0 1 5 6 19 20 Y<|Zp<|R2 ZF Y<|Rm Y<|Za<|⟨_, h, ES [some 0]⟩
  ·
   refine Zz<|?_
   replace h := lx h ▸ ho1
   exact ⟨(), h, ES []⟩
 ·
  replace h := elr h
  replace h := t0i h
  refine Tr<|Ra Y<|Za<|?_
  obtain rfl := rt h
  exact Zo (ZG Y (.one<|rb Y))
theorem ZcC {b : ring_bank} {k : Int} {sector : Int} {r : Int} (h : Xp b k sector = some r) :
 CSpec Tryz.prog gl0 109 [.rp [.sl 26 (List.map R26 b.memories), .sl 105 (List.map R105 b.spots)] 0, .int .i64 k, .int .i64 sector] (.int .i64 r) := by
 unfold Xp at h
 replace h := Qk h
 refine So Tryz.func109 Y fun w0 A=>Tr<|Ra Y<|Za<|K3 0 1 2 Y<|Tr<|Ra Y<|Za<|I1 (fun most=>⟨[(7, .int .i64 most)], []⟩) h (fun h=>?_) fun most h=>?_
 ·
  refine Tr<|Rm Y<|R1 ZQ Y<|Rq Y (ZU (ov Y) ZdS)<|Rq Y (Zd (ov Y) Zku Y)<|Rm Y<|bE h fun x h_x h=>Rq Y (ZS (ov Y) (ov Y) Zaz h_x)<|Rq Y (ZU (ov Y) ZP)<|Rq Y (Zd (ov Y) Qw Y)<|Rl tZ_49 Qm Y<|Rm Y<|Za<|Ze<|?_
  obtain ⟨r1, hl1, ho1⟩ := QE h
  refine L2 (fun most2 i=>⟨[(2, .int .i64 sector), (7, .int .i64 most2), (20, .sl 49 (List.map R49 x.Sectors)), (21, .int .i64 (x.Sectors.length : Int)), (22, .int .i64 i)], []⟩) hl1 (ES []) fun n1 most2 i h=>?_
  unfold Jl at h
  refine Tr<|R2 ZD Y<|Za<|Zg<|If h Y (fun h=>?_) fun h=>?_
  ·
   refine Zf<|Zg<|Ze<|K5 2 7 20 21 22 Y<|Tr<|Rm Y<|bE h fun x2 h_x2 h=>Rq Y (ZS (ov Y) (ov Y) Qm h_x2)<|Rq Y (Zd (ov Y) ZfN Y)<|Ra Y<|Ra Y<|Za<|K7 2 7 8 9 20 21 22 Y<|Tr<|Rm Y<|bE h fun y h_y h=>Rq Y (Zn (Zb6 h_y)<|.cons (ov Y) (.b Y) .nil)<|Rm Y<|Rq Y (Zj (ov Y) Y)<|Rq Y (Zj (ov Y) Y)<|Rq Y (Zj (ov Y) Y)<|Ra Y<|Ra Y<|Ra Y<|Za<|K8 2 7 8 10 12 20 21 22 Y<|Tr<|Rm Y<|Rm Y<|Rq Y (.guarded (y.2.2 == true) Y Y Y Y fun h => Zc<|ov Y)<|Rq Y (.guarded (y.2.2 == true) Y Y Y Y fun h => Zc<|ov Y)<|Rq Y (.guarded (y.2.2 == true) Y Y Y Y fun h => Q2 (ow Y h)<|ow Y h)<|Rq Y (Zb4 (ov Y) fun hp=>ow Y<|gT hp)<|Za<|K7 2 7 10 20 21 22 38 Y<|If h Y (fun h=>?_) fun h=>?_
   ·
    exact K6 2 7 10 20 21 22 Y<|Zp<|Rm Y<|Rm Y<|Rq Y (Zk6 (ov Y) (ov Y) Y)<|Ra Y<|Za<|K5 2 7 20 21 22 Y<|Zp<|R2 ZF Y<|Rm Y<|Za<|⟨_, h, ES []⟩
   ·
    exact Zf<|K5 2 7 20 21 22 Y<|Zp<|R2 ZF Y<|Rm Y<|Za<|⟨_, h, ES []⟩
  ·
   refine Zz<|?_
   replace h := lx h ▸ ho1
   exact ⟨_, h, ES []⟩
 ·
  refine Tr<|Rm Y<|R2 ZF Y<|Ra Y<|Za<|?_
  obtain rfl := rt h
  exact Zo (ZG Y (.one<|rb Y))
theorem Zhl {b : ring_bank} {l : List Int} {r : Int} (h : Zaq b l = some r) :
 CSpec Tryz.prog gl0 69 [.rp [.sl 26 (List.map R26 b.memories), .sl 105 (List.map R105 b.spots)] 0, .sl 3 (List.map R3 l)] (.int .i64 r) := by
 unfold Zaq at h
 replace h := Qk h
 refine So Tryz.func69 Y fun w0 A=>Tr<|Ra Y<|Za<|J0 (fun j => (.inr j)) ⟨[(0, .rp [.sl 26 (List.map R26 b.memories), .sl 105 (List.map R105 b.spots)] 0), (1, .sl 3 (List.map R3 l))], []⟩ h (fun h=>?_) fun h=>?_
 ·
  refine K2 0 1 Y<|Tr<|Rm Y<|Rl tZ_3 QK Y<|Rm Y<|Za<|Ze<|?_
  obtain ⟨r1, hl1, ho1⟩ := QE h
  refine L1 (fun i=>⟨[(0, .rp [.sl 26 (List.map R26 b.memories), .sl 105 (List.map R105 b.spots)] 0), (1, .sl 3 (List.map R3 l)), (9, .sl 3 (List.map R3 l)), (10, .int .i64 (l.length : Int)), (11, .int .i64 i)], []⟩) hl1 (ES []) fun n1 i h=>?_
  unfold Zaj at h
  refine Tr<|R2 ZD Y<|Za<|Zg<|If h Y (fun h=>?_) fun h=>?_
  ·
   refine Zf<|Zg<|Ze<|K5 0 1 9 10 11 Y<|Tr<|bE h fun x h_x h=>Rq Y (ZS (ov Y) (ov Y) QK h_x)<|Rq Y (Zd (ov Y) tS3 Y)<|Ra Y<|Za<|K6 0 1 6 9 10 11 Y<|Tr<|Rm Y<|Rm Y<|bE h fun y h_y h=>Rq Y (Zn (Zbl h_y)<|.cons (ov Y) (.b Y)<|.cons (ov Y) (.b Y) .nil)<|Rm Y<|Rq Y (.guarded (y == true) Y Y Y Y fun h => Zc<|ov Y)<|Rq Y (.guarded (y == true) Y Y Y Y fun h => Zc<|ov Y)<|bE h fun y2 h_y2 h=>Rq Y (.guarded (y == true) Y Y Y Y fun h => Zn (Zcf<|gdT h_y2 h)<|.cons (ow Y h) (.b Y)<|.cons (ow Y h) (.b Y) .nil)<|Rq Y (.guarded (y == true) Y Y Y Y fun h => ZD (ow Y h)<|ov Y)<|Rq Y (Zb4 (ov Y) fun hp=>ow Y<|gT hp)<|Za<|K6 0 1 9 10 11 23 Y<|If h Y (fun h=>?_) fun h=>?_
   ·
    refine K0<|Tr<|Ra Y<|Za<|?_
    replace h := lx h ▸ ho1
    obtain rfl := rt h
    exact Zo (ZG Y (.one<|rb Y))
   ·
    exact Zf<|K5 0 1 9 10 11 Y<|Zp<|R2 ZF Y<|Rm Y<|Za<|⟨_, h, ES []⟩
  ·
   refine Zz<|?_
   replace h := lx h ▸ ho1
   exact ⟨(), h, ES []⟩
 ·
  replace h := elr h
  replace h := t0i h
  refine J0 (fun j => (.inr j)) ⟨[], []⟩ h (fun h=>?_) fun h=>?_
  ·
   refine Tr<|Rm Y<|Rl tZ_3 QK Y<|Rm Y<|Za<|Ze<|?_
   obtain ⟨r2, hl2, ho2⟩ := QE h
   refine L1 (fun i2=>⟨[(0, .rp [.sl 26 (List.map R26 b.memories), .sl 105 (List.map R105 b.spots)] 0), (25, .sl 3 (List.map R3 l)), (26, .int .i64 (l.length : Int)), (27, .int .i64 i2)], []⟩) hl2 (ES []) fun n2 i2 h=>?_
   unfold Zab at h
   refine Tr<|R2 ZD Y<|Za<|Zg<|If h Y (fun h=>?_) fun h=>?_
   ·
    refine Zf<|Zg<|Ze<|K4 0 25 26 27 Y<|Tr<|bE h fun x2 h_x2 h=>Rq Y (ZS (ov Y) (ov Y) QK h_x2)<|Rq Y (Zd (ov Y) tS3 Y)<|Ra Y<|Za<|K5 0 8 25 26 27 Y<|Tr<|Rm Y<|Rm Y<|bE h fun y3 h_y3 h=>Rq Y (Zn (Zbl h_y3)<|.cons (ov Y) (.b Y)<|.cons (ov Y) (.b Y) .nil)<|Rm Y<|Rq Y (.guarded (y3 == true) Y Y Y Y fun h => Zc<|ov Y)<|Rq Y (.guarded (y3 == true) Y Y Y Y fun h => Zc<|ov Y)<|Rq Y (.guarded (y3 == true) Y Y Y Y fun h => Zc<|ov Y)<|Rq Y (.guarded (y3 == true) Y Y Y Y fun h => Zc<|ov Y)<|bE h fun y4 h_y4 h=>Rq Y (.guarded (y3 == true) Y Y Y Y fun h => Zn (Zcf<|gdT h_y4 h)<|.cons (ow Y h) (.b Y)<|.cons (ow Y h) (.b Y) .nil)<|bE h fun y5 h_y5 h=>Rq Y (.guarded (y3 == true) Y Y Y Y fun h => Zn (ZcC<|gdT h_y5 h)<|.cons (ow Y h) (.b Y)<|.cons (ow Y h) (.b Y)<|.cons (ow Y h) (.b Y) .nil)<|Rq Y (.guarded (y3 == true) Y Y Y Y fun h => Za8 (ow Y h)<|ov Y)<|Rq Y (Zb4 (ov Y) fun hp=>ow Y<|gT hp)<|Za<|K5 0 25 26 27 42 Y<|If h Y (fun h=>?_) fun h=>?_
    ·
     refine K0<|Tr<|Ra Y<|Za<|?_
     replace h := lx h ▸ ho2
     obtain rfl := rt h
     exact Zo (ZG Y (.one<|rb Y))
    ·
     exact Zf<|K4 0 25 26 27 Y<|Zp<|R2 ZF Y<|Rm Y<|Za<|⟨_, h, ES []⟩
   ·
    refine Zz<|?_
    replace h := lx h ▸ ho2
    exact ⟨(), h, ES []⟩
  ·
   replace h := elr h
   replace h := t0i h
   refine Tr<|Ra Y<|Za<|?_
   obtain rfl := rt h
   exact Zo (ZG Y (.one<|rb Y))
theorem Zj1 {f : Vector Int 64} {r : Bool} (h : Zel f = some r) :
 CSpec Tryz.prog gl0 110 [.rp (List.map C40 f.toList) 0] (.bool r) := by
 unfold Zel at h
 replace h := Qk h
 refine So Tryz.func110 Y fun w0 A=>Tr<|Ra Y<|Za<|J0 (fun j => (.inr j)) ⟨[], []⟩ h (fun h=>?_) fun h=>?_
 ·
  refine K1 0 Y<|Tr<|Rm Y<|Za<|Ze<|?_
  obtain ⟨r1, hl1, ho1⟩ := QE h
  refine L1 (fun i=>⟨[(0, .rp (List.map C40 f.toList) 0), (4, .int .i64 i)], []⟩) hl1 (ES []) fun n1 i h=>?_
  unfold Zde at h
  refine Tr<|R2 ZD Y<|Za<|Zg<|If h Y (fun h=>?_) fun h=>?_
  ·
   refine Zf<|Zg<|Ze<|K2 0 4 Y<|Tr<|Rm Y<|Ra Y<|Za<|K3 0 3 4 Y<|Tr<|Rm Y<|Rm Y<|R1 ZQ Y<|bE h fun x h_x h=>Rq Y (QM (ov Y) (ov Y) Jk h_x)<|Rq Y (Zd (ov Y) Zae<|Qn<|Xe (o := 0) (o' := (i.toNat * 1)) (Zq arL)<|Q9 h_x)<|R2 Za8 Y<|Za<|K3 0 4 12 Y<|If h Y (fun h=>?_) fun h=>?_
   ·
    refine K0<|Tr<|Ra Y<|Za<|?_
    replace h := lx h ▸ ho1
    obtain rfl := rt h
    exact Zo (ZG Y (.one<|rb Y))
   ·
    exact Zf<|K2 0 4 Y<|Zp<|R2 ZF Y<|Rm Y<|Za<|⟨_, h, ES []⟩
  ·
   refine Zz<|?_
   replace h := lx h ▸ ho1
   exact ⟨(), h, ES []⟩
 ·
  replace h := elr h
  replace h := t0i h
  refine Tr<|Ra Y<|Za<|?_
  obtain rfl := rt h
  exact Zo (ZG Y (.one<|rb Y))
theorem Zgf {p : Vector Int 96} {i : Int} {w : Int} {r : (Vector Int 96)} (h : Zau p i w = some r) :
 GSpec Tryz.prog gl0 136 [.ptr 0 1 0 0, .int .i64 i, .int .u16 w] [some ⟨157, [(List.map C5 p.toList)]⟩] (.tuple []) [some ⟨157, [(List.map C5 r.toList)]⟩] := by
 unfold Zau at h
 replace h := Qk h
 refine QZ (by kernel_rfl) Tryz.func136 Y Y<|?_
 intro w0 A W φ0
 refine Tr<|Rm Y<|bE h fun q h_q h=>Rq Y (Zc2 (ov Y) (ov Y) h_q)<|R2 Zds Y<|Ra Y<|Za<|Zg<|K4 0 1 2 6 Y<|Tr<|Rm Y<|bE h fun q2 h_q2 h=>Rq Y (Jr (ov Y) (ov Y) h_q2)<|R2 Zaw Y<|Za<|K4 0 2 6 12 Y<|If h Y (fun h=>?_) fun h=>?_
 ·
  refine Zg<|K3 0 2 6 Y<|Qd (cw := ⟨false, false, [], [20, 24], []⟩) (by kernel_rfl)<|D1 0 Zc Y<|D1 1 Zc Y<|D1 5 Zc Y<|bE h fun q3 h_q3 h=>Dq 6 Y (ZaU (ov Y) (ov Y) h_q3)<|Dq 7 Y (Z4 (ov Y) Zcx tI5 Y)<|D1 12 Zc Y<|D1 13 Zc Y<|D2 14 ZF Y<|Dq 15 Y (ZA (ov Y) Y Y)<|bE h fun x h_x h=>Dq 16 Y (JX (ov Y) (ov Y) ZeB Y Y h_x)<|Dq 17 Y (Zw (ov Y) Y Y Y tS5<|Qn<|Xe (o := 0) (o' := ((i64 ((i64 (q * 3)) + 1)).toNat * 1)) (Zq arL)<|Q9 h_x)<|Dq 20 Y (ZA (ov Y) Y Y)<|bE h fun x2 h_x2 h=>Dq 21 Y (JX (ov Y) (ov Y) ZeB Y Y h_x2)<|Qc 2 _ Y (by kernel_rfl) Y Y (fun hp'=>Zc<|ov Y)<|Qc 3 _ Y (by kernel_rfl) Y Y (fun hp'=>Zc<|ov Y)<|Qc 4 _ Y (by kernel_rfl) Y Y (fun hp'=>Zke (ov Y) (ov Y) Y)<|Qc 8 _ Y (by kernel_rfl) Y Y (fun hp'=>Zc<|ov Y)<|Qc 9 _ Y (by kernel_rfl) Y Y (fun hp'=>ZbO (ov Y)<|ov Y)<|bE h fun q4 h_q4 h=>Qc 10 _ Y (by kernel_rfl) Y Y (fun hp'=>Ze9 (ov Y) (ov Y) h_q4)<|Qc 11 _ Y (by kernel_rfl) Y Y (fun hp'=>Z4 (ov Y) Zcx tI5 Y)<|Qc 18 _ Y (by kernel_rfl) Y Y (fun hp'=>ZbO (ov Y)<|ov Y)<|Qc 19 _ Y (by kernel_rfl) Y Y (fun hp'=>ZgQ (ov Y)<|ov Y)<|Dw 23 22 Y (ZA (ov Y) Y Y) (Zl (ov Y) (ov Y) (Zh tS5) Y Y Y (arB h_x2) (Zb Y)<|arS h_x2) ?_ ?_
  ·
   refine Do 22 Y (Zl (ov Y) (ov Y) (Zh tS5) Y Y Y (arB h_x2) (Zb Y)<|arS h_x2)<|bE h fun x3 h_x3 h=>Dq 24 Y (JX (ov Y) (ov Y) ZeB Y Y h_x3)<|Do 25 Y (Zl (ov Y) (ov Y) (Zh tS5) Y Y Y (arB h_x3) (Zb Y)<|arS h_x3)<|Dd<|?_
   obtain rfl := rt h
   exact Zo<|ZbQ [some 0] Y .nil (.cons Y (ro1 (by exact Eq.trans (b := 96) arL tZ_157.symm)<|rld<|arD fun _ => Y) .nil) Y Y<|Xz rln
  ·
   refine Dq 23 Y (ZA (ov Y) Y Y)<|bE h fun x3 h_x3 h=>Dq 24 Y (JX (ov Y) (ov Y) ZeB Y Y h_x3)<|Do 25 Y (Zl (ov Y) (ov Y) (Zh tS5) Y Y Y (arB h_x3) (Zb Y)<|arS h_x3)<|Dd<|?_
   obtain rfl := rt h
   exact Zo<|ZbQ [some 0] Y .nil (.cons Y (ro1 (by exact Eq.trans (b := 96) arL tZ_157.symm)<|rld<|arD fun _ => Y) .nil) Y Y<|Xz rln
 ·
  refine Zf<|K3 0 2 6 Y<|Qd (cw := ⟨false, false, [], [52, 55], []⟩) (by kernel_rfl)<|D1 0 Zc Y<|D1 1 Zc Y<|D2 2 ZF Y<|D1 6 Zc Y<|D1 7 Zc Y<|D2 8 ZF Y<|Dq 9 Y (ZA (ov Y) Y Y)<|bE h fun x4 h_x4 h=>Dq 10 Y (JX (ov Y) (ov Y) ZeB Y Y h_x4)<|Dq 11 Y (Zw (ov Y) Y Y Y tS5<|Qn<|Xe (o := 0) (o' := ((i64 ((i64 (q * 3)) + 1)).toNat * 1)) (Zq arL)<|Q9 h_x4)<|D2 12 ZbO Y<|D1 13 Zc Y<|bE h fun q5 h_q5 h=>Dq 14 Y (ZaU (ov Y) (ov Y) h_q5)<|Dq 15 Y (Z4 (ov Y) Zcx tI5 Y)<|D2 16 ZgQ Y<|Dq 19 Y (ZA (ov Y) Y Y)<|bE h fun x5 h_x5 h=>Dq 20 Y (JX (ov Y) (ov Y) ZeB Y Y h_x5)<|Qc 3 _ Y (by kernel_rfl) Y Y (fun hp'=>Zc<|ov Y)<|Qc 4 _ Y (by kernel_rfl) Y Y (fun hp'=>Zc<|ov Y)<|Qc 5 _ Y (by kernel_rfl) Y Y (fun hp'=>Zke (ov Y) (ov Y) Y)<|Qc 17 _ Y (by kernel_rfl) Y Y (fun hp'=>Zc<|ov Y)<|Qc 18 _ Y (by kernel_rfl) Y Y (fun hp'=>Z4 (ov Y) Zcx tI5 Y)<|Dw 22 21 Y (ZA (ov Y) Y Y) (Zl (ov Y) (ov Y) (Zh tS5) Y Y Y (arB h_x5) (Zb Y)<|arS h_x5) ?_ ?_
  ·
   refine Do 21 Y (Zl (ov Y) (ov Y) (Zh tS5) Y Y Y (arB h_x5) (Zb Y)<|arS h_x5)<|bE h fun x6 h_x6 h=>Dq 23 Y (JX (ov Y) (ov Y) ZeB Y Y h_x6)<|Do 24 Y (Zl (ov Y) (ov Y) (Zh tS5) Y Y Y (arB h_x6) (Zb Y)<|arS h_x6)<|Dd<|?_
   obtain rfl := rt h
   exact ZgV [some 0] Y .nil (.cons Y (ro1 (by exact Eq.trans (b := 96) arL tZ_157.symm)<|rld<|arD fun _ => Y) .nil) Y Y<|Xz rln
  ·
   refine Dq 22 Y (ZA (ov Y) Y Y)<|bE h fun x6 h_x6 h=>Dq 23 Y (JX (ov Y) (ov Y) ZeB Y Y h_x6)<|Do 24 Y (Zl (ov Y) (ov Y) (Zh tS5) Y Y Y (arB h_x6) (Zb Y)<|arS h_x6)<|Dd<|?_
   obtain rfl := rt h
   exact ZgV [some 0] Y .nil (.cons Y (ro1 (by exact Eq.trans (b := 96) arL tZ_157.symm)<|rld<|arD fun _ => Y) .nil) Y Y<|Xz rln
theorem ZiM {p : Vector Int 96} {f : Vector Int 64} {r : (Vector Int 96)} (h : Zeh p f = some r) :
 GSpec Tryz.prog gl0 111 [.ptr 0 1 0 0, .rp (List.map C40 f.toList) 0] [some ⟨157, [(List.map C5 p.toList)]⟩] (.tuple []) [some ⟨157, [(List.map C5 r.toList)]⟩] := by
 unfold Zeh at h
 replace h := Qk h
 refine QZ (by kernel_rfl) Tryz.func111 Y Y<|?_
 intro w0 A W φ0
 refine Tr<|Rm Y<|Za<|Ze<|?_
 obtain ⟨r1, hl1, ho1⟩ := QE h
 refine L2 (fun o i=>⟨[(0, .ptr 0 1 0 0), (1, .rp (List.map C40 f.toList) 0), (5, .int .i64 i)], [some ⟨157, [(List.map C5 o.toList)]⟩]⟩) hl1 (ES [some 0]) fun n1 o i h=>?_
 unfold Zc7 at h
 refine Tr<|R2 ZD Y<|Za<|Zg<|If h Y (fun h=>?_) fun h=>?_
 ·
  exact Zf<|Zg<|Ze<|K3 0 1 5 Y<|Tr<|Rm Y<|Ra Y<|Za<|K4 0 1 4 5 Y<|Zp<|Rm Y<|Rm Y<|Rm Y<|Rm Y<|R1 ZQ Y<|bE h fun x h_x h=>Rq Y (QM (ov Y) (ov Y) Jk h_x)<|Rq Y (Zd (ov Y) Zae<|Qn<|Xe (o := 0) (o' := (i.toNat * 1)) (Zq arL)<|Q9 h_x)<|bE h fun y h_y h=>Rx Y (ZO [0] (Zgf h_y) (.cons (ov Y) (.ptr _ _ _ Y)<|.cons (ov Y) (.dat Y)<|.cons (ov Y) (.dat Y) .nil) (.cons Y (ro1 (by exact Eq.trans (b := 96) arL tZ_157.symm)<|rld<|arD fun _ => Y) .nil) Y (.lent 0 (.inl Y) Y (ro1 (by exact Eq.trans (b := 96) arL tZ_157.symm)<|rld<|arD fun _ => Y) .nil) Y Y<|Xz<|rld Y)<|Za<|K3 0 1 5 Y<|Zp<|R2 ZF Y<|Rm Y<|Za<|⟨_, h, ES [some 0]⟩
 ·
  refine Zz<|?_
  replace h := lx h ▸ ho1
  obtain rfl := rt h
  exact ZgV [some 0] Y .nil (.cons Y (ro1 (by exact Eq.trans (b := 96) arL tZ_157.symm)<|rld<|arD fun _ => Y) .nil) Y Y<|Xz rln
theorem Zia {f : Vector Int 64} {r : (List Int) × Int} (h : Zbz f = some r) :
 CSpec Tryz.prog gl0 70 [.agg (List.map C40 f.toList)] (.tuple [.sl 5 (List.map R5 r.1), .int .i64 r.2]) := by
 unfold Zbz at h
 replace h := Qk h
 refine So Tryz.func70 Y fun w0 A=>Tr<|Rq Y (ZbM (cva<|ov Y) arL tZ_42<|arD fun _ => Y)<|Ra Y<|Ra Y<|Za<|Zg<|K1 1 Y<|Tr<|bE h fun y h_y h=>Rq Y (Zn (Zj1 h_y)<|.cons (ov Y) (.b Y) .nil)<|Za<|If h Y (fun h=>?_) fun h=>?_
 ·
  refine K0<|Tr<|Ra Y<|Ra Y<|Za<|?_
  obtain rfl := rt h
  exact Zo (ZG Y (.two (.tmp Y<|View.nils 5)<|rb Y))
 ·
  refine Zf<|K1 1 Y<|Tr<|Rx Y (Z3 (row := (List.map C5 (Vector.replicate 96 0).toList)) 0 Y ZoY Y tZ_157)<|Za<|Tr<|bE h fun y2 h_y2 h=>Rx Y (ZO [0] (ZiM h_y2) (.cons (ov Y) (.ptr _ _ _ Y)<|.cons (ov Y) (.dat Y) .nil) (.cons Y (ro1 (by exact Eq.trans (b := 96) arL tZ_157.symm)<|rld<|arD fun _ => Y) .nil) Y (.lent 0 (.inl Y) Y (ro1 (by exact Eq.trans (b := 96) arL tZ_157.symm)<|rld<|arD fun _ => Y) .nil) Y Y<|Xz<|rld Y)<|Za<|K1 4 Y<|Tr<|bE h fun l h_l h=>Xn (Ent.sel [none] (sr 4 Y (.frp ⟨Y, ⟨_, Y⟩, Y, (arD fun _ => Y)⟩) sn) (.row 157 .nil) Y Y)<|Rq Y (Zl2 (f := C5) (ov Y) ZeB tZ_5 (Zq arL) Y on on h_l)<|Ra Y<|Ra Y<|Za<|?_
  obtain rfl := rt h
  exact Zo (ZG Y (.two (rb Y)<|rb Y))
theorem ZgH {s : List Int} {power : Int} {r : Int × Bool × (List Int)} (h : Xu s power = some r) :
 GSpec Tryz.prog gl0 74 [.own 0 s.length, .int .i64 power] [some ⟨5, List.map R5 s⟩] (.tuple [.int .i64 r.1, .bool r.2.1]) [some ⟨5, List.map R5 r.2.2⟩] := by
 unfold Xu at h
 replace h := Qk h
 refine QZ (by kernel_rfl) Tryz.func74 Y Y<|?_
 intro w0 A W φ0
 refine Tr<|Ra Y<|Ra Y<|Za<|K2 0 1 Y<|Tr<|Rm Y<|Ra Y<|Za<|Zg<|K3 0 1 6 Y<|Tr<|Rm Y<|R2 Zaw Y<|Za<|K4 0 1 6 10 Y<|If h Y (fun h=>?_) fun h=>?_
 ·
  refine K3 0 1 6 Y<|Zp<|Rm Y<|Rm Y<|Rq Y (Zc0 (ov Y) Y Y QF)<|bE h fun q h_q h=>Rq Y (Zc2 (ov Y) (ov Y) h_q)<|bE h fun u h_u h=>Rq Y (Zo1 (ov Y) Y Y QF on (oi<|ov Y) h_u)<|Ra Y<|Za<|I1 (fun o=>⟨[(1, .int .i64 power)], [some ⟨5, List.map R5 o⟩]⟩) h (fun h=>?_) fun o h=>?_
  ·
   refine K2 1 6 Y<|Tr<|Rm Y<|Rq Y (ZnM (ov Y) Y (List.length_map ..) QF)<|Rm Y<|Za<|Ze<|?_
   obtain ⟨r1, hl1, ho1⟩ := QE h
   refine L2 (fun o2 i=>⟨[(1, .int .i64 power), (6, .osl 0 o2.length (Int.toNat 0) (Int.toNat (q - 0))), (17, .int .i64 ((Int.toNat (q - 0) : Nat) : Int)), (18, .int .i64 i)], [some ⟨5, List.map R5 o2⟩]⟩) hl1 (ES [some 0]<|sd 1 Y Y<|sr 6 Y (.osl _ _ _ Y)<|sd 17 Y Y<|sd 18 Y Y sn) fun n1 o2 i h=>?_
   unfold QU at h
   refine Tr<|R2 ZD Y<|Za<|Zg<|If h Y (fun h=>?_) fun h=>?_
   ·
    exact Zf<|Zg<|Ze<|K4 1 6 17 18 Y<|Tr<|Rm Y<|Ra Y<|Za<|K5 1 6 7 17 18 Y<|Zp<|Rm Y<|Rm Y<|bE h fun u2 h_u2 h=>bE h fun x2 h_x2 h=>Rq Y (ZnI (ov Y) (ov Y) QF Y Y (ZhM h_u).1 h_u2 h_x2)<|Rx Y (Xo (u' := 255) (ov Y) (ov Y) (Zh tS5) Y Y h_x2 Y (Zb Y) Y)<|Za<|K4 1 6 17 18 Y<|Zp<|R2 ZF Y<|Rm Y<|Za<|⟨_, h, ES [some 0]<|sd 1 Y Y<|sr 6 Y (ZqI (Eq.symm<|(List.length_set ..).trans Y) Y)<|sd 17 Y Y<|sd 18 Y Y sn⟩
   ·
    refine Zz<|?_
    replace h := lx h ▸ ho1
    exact ⟨_, h, ES [some 0]⟩
  ·
   refine Tr<|Rm Y<|R2 Za4 Y<|Rq Y (Zk6 (ov Y) (ov Y) Y)<|Rm Y<|R2 Za8 Y<|Ra Y<|Ra Y<|Za<|?_
   obtain rfl := rt h
   exact Zo<|ZbQ [some 0] Y (.cons (.tmp Y)<|.cons (.tmp Y) .nil) (.cons Y (roM D5) .nil) Y Y<|Xz<|rlc (.dat Y)<|rlc (.dat Y) rln
 ·
  refine Zf<|I1 (fun o3=>⟨[(1, .int .i64 power)], [some ⟨5, List.map R5 o3⟩]⟩) h (fun h=>?_) fun o3 h=>?_
  ·
   refine K2 1 6 Y<|Tr<|Rm Y<|Rq Y (Zc0 (ov Y) Y Y QF)<|Rm Y<|Za<|Ze<|?_
   obtain ⟨r2, hl2, ho2⟩ := QE h
   refine L2 (fun o4 i2=>⟨[(1, .int .i64 power), (6, .own 0 o4.length), (17, .int .i64 (s.length : Int)), (18, .int .i64 i2)], [some ⟨5, List.map R5 o4⟩]⟩) hl2 (ES [some 0]) fun n2 o4 i2 h=>?_
   unfold QX at h
   refine Tr<|R2 ZD Y<|Za<|Zg<|If h Y (fun h=>?_) fun h=>?_
   ·
    exact Zf<|Zg<|Ze<|K4 1 6 17 18 Y<|Tr<|Rm Y<|Ra Y<|Za<|K5 1 6 7 17 18 Y<|Zp<|Rm Y<|Rm Y<|bE h fun x3 h_x3 h=>Rq Y (Qh (ov Y) (ov Y) QF Y Y h_x3)<|Rx Y (Xo (u' := 255) (ov Y) (ov Y) (Zh tS5) Y Y h_x3 Y (Zb Y) Y)<|Za<|K4 1 6 17 18 Y<|Zp<|R2 ZF Y<|Rm Y<|Za<|⟨_, h, ES [some 0]<|sd 1 Y Y<|sr 6 Y (Zdv (Eq.symm<|(List.length_set ..).trans Y) Y)<|sd 17 Y Y<|sd 18 Y Y sn⟩
   ·
    refine Zz<|?_
    replace h := lx h ▸ ho2
    exact ⟨_, h, ES [some 0]⟩
  ·
   refine Tr<|Rm Y<|R2 Za4 Y<|Rq Y (Zk6 (ov Y) (ov Y) Y)<|Rm Y<|R2 Za8 Y<|Ra Y<|Ra Y<|Za<|?_
   obtain rfl := rt h
   exact Zo<|ZbQ [some 0] Y (.cons (.tmp Y)<|.cons (.tmp Y) .nil) (.cons Y (roM D5) .nil) Y Y<|Xz<|rlc (.dat Y)<|rlc (.dat Y) rln
theorem ZeV {s : List Int} {at_ : Int} {data : List Int} {power : Int} {r : Int × Bool × (List Int)} (h : X4 s at_ data power = some r) :
 GSpec Tryz.prog gl0 72 [.own 0 s.length, .int .i64 at_, .sl 5 (List.map R5 data), .int .i64 power] [some ⟨5, List.map R5 s⟩] (.tuple [.int .i64 r.1, .bool r.2.1]) [some ⟨5, List.map R5 r.2.2⟩] := by
 unfold X4 at h
 replace h := Qk h
 refine QZ (by kernel_rfl) Tryz.func72 Y Y<|?_
 intro w0 A W φ0
 refine Tr<|Ra Y<|Ra Y<|Za<|J2 (fun j => (.inr j)) (fun o power2=>⟨[(3, .int .i64 power2)], [some ⟨5, List.map R5 o⟩]⟩) h (fun h=>?_) fun o power2 h=>?_
 ·
  refine K4 0 1 2 3 Y<|Tr<|Rm Y<|Rl tZ_5 QF Y<|Rm Y<|Za<|Ze<|?_
  obtain ⟨r1, hl1, ho1⟩ := QE h
  refine L3 (fun o2 power3 i=>⟨[(0, .own 0 o2.length), (1, .int .i64 at_), (3, .int .i64 power3), (12, .sl 5 (List.map R5 data)), (13, .int .i64 (data.length : Int)), (14, .int .i64 i)], [some ⟨5, List.map R5 o2⟩]⟩) hl1 (ES [some 0]) fun n1 o2 power3 i h=>?_
  unfold Xs at h
  refine Tr<|R2 ZD Y<|Za<|Zg<|If h Y (fun h=>?_) fun h=>?_
  ·
   refine Zf<|Zg<|Ze<|K6 0 1 3 12 13 14 Y<|Tr<|Rm Y<|bE h fun x h_x h=>Rq Y (ZS (ov Y) (ov Y) QF h_x)<|Rq Y (Zd (ov Y) tS5 Y)<|Ra Y<|Ra Y<|Za<|Zg<|K8 0 1 3 10 11 12 13 14 Y<|Tr<|Rm Y<|R2 Zaw Y<|Za<|K9 0 1 3 10 11 12 13 14 20 Y<|If h Y (fun h=>?_) fun h=>?_
   ·
    refine K4 0 1 10 11 Y<|Tr<|Rm Y<|Rm Y<|Rm Y<|R2 ZF Y<|bE h fun x2 h_x2 h=>Rq Y (Qh (ov Y) (ov Y) QF Y Y h_x2)<|Rq Y (Qu (ov Y) Y Y h_x2 tS5 Y)<|Rm Y<|R2 ZgQ Y<|R2 ZbO Y<|bE h fun x3 h_x3 h=>Rq Y (Qh (ov Y) (ov Y) QF Y Y h_x3)<|Rx Y (Xo (u' := (Q1 .u8 x2 (bor .u8 x 15))) (ov Y) (ov Y) (Zh tS5) Y Y h_x3 Y (Zb Y) Y)<|Za<|K0<|Tr<|Ra Y<|Ra Y<|Za<|?_
    replace h := lx h ▸ ho1
    obtain rfl := rt h
    exact Zo<|ZbQ [some 0] Y (.cons (.tmp Y)<|.cons (.tmp Y) .nil) (.cons Y (roM D5) .nil) Y Y<|Xz<|rlc (.dat Y)<|rlc (.dat Y) rln
   ·
    exact Zf<|K8 0 1 3 10 11 12 13 14 Y<|Tr<|Rm Y<|Rm Y<|Rm Y<|R2 ZF Y<|bE h fun x4 h_x4 h=>Rq Y (Qh (ov Y) (ov Y) QF Y Y h_x4)<|Rq Y (Qu (ov Y) Y Y h_x4 tS5 Y)<|Rm Y<|R2 ZbO Y<|bE h fun x5 h_x5 h=>Rq Y (Qh (ov Y) (ov Y) QF Y Y h_x5)<|Rx Y (Xo (u' := (Q1 .u8 x4 x)) (ov Y) (ov Y) (Zh tS5) Y Y h_x5 Y (Zb Y) Y)<|Za<|K6 0 1 3 12 13 14 Y<|Zp<|Rm Y<|R2 Za4 Y<|Ra Y<|Za<|K6 0 1 3 12 13 14 Y<|Zp<|R2 ZF Y<|Rm Y<|Za<|⟨_, h, ES [some 0]<|sr 0 Y (Zdv (Eq.symm<|(List.length_set ..).trans Y) Y)<|sd 1 Y Y<|sd 3 Y Y<|sd 12 Y Y<|sd 13 Y Y<|sd 14 Y Y sn⟩
  ·
   refine Zz<|?_
   replace h := lx h ▸ ho1
   exact ⟨_, h, ES [some 0]⟩
 ·
  replace h := elr h
  replace h := t2i h
  refine Tr<|Rm Y<|Ra Y<|Ra Y<|Za<|?_
  obtain rfl := rt h
  exact Zo<|ZbQ [some 0] Y (.cons (.tmp Y)<|.cons (.tmp Y) .nil) (.cons Y (roM D5) .nil) Y Y<|Xz<|rlc (.dat Y)<|rlc (.dat Y) rln
theorem ZdQ {b : ring_Recorder} {k : Int} {power : Int} {r : Int × Bool × ring_Recorder} (h : Jx b k power = some r) :
 GSpec Tryz.prog gl0 112 [.ptr 0 1 0 0, .int .i64 k, .int .i64 power] [some ⟨102, [[.own 1 b.bank.memories.length, .own 2 b.bank.spots.length, .int .i64 b.copies, .bool b.frozen, .bool b.stopped, .int .i64 b.last, .bool b.some_]]⟩, some ⟨26, List.map O26 b.bank.memories⟩, some ⟨105, List.map R105 b.bank.spots⟩] (.tuple [.int .i64 r.1, .bool r.2.1]) [some ⟨102, [[.own 3 r.2.2.bank.memories.length, .own 4 r.2.2.bank.spots.length, .int .i64 r.2.2.copies, .bool r.2.2.frozen, .bool r.2.2.stopped, .int .i64 r.2.2.last, .bool r.2.2.some_]]⟩, none, none, some ⟨26, List.map O26 r.2.2.bank.memories⟩, some ⟨105, List.map R105 r.2.2.bank.spots⟩] := by
 unfold Jx at h
 replace h := Qk h
 refine QZ (by kernel_rfl) Tryz.func112 Y Y<|?_
 intro w0 A W φ0
 refine ZgW (Ent.sel [some 0, some 1, some 2, some 1, some 2] (sr 0 Y (.ptr (r' := 0) _ _ _ Y)<|sd 1 Y Y<|sd 2 Y Y sn) (.cons Y (ro1 (by exact tZ_102.symm)<|rlc (.own (r' := 3) _ Y)<|rlc (.own (r' := 4) _ Y)<|rlc (.dat Y)<|rlc (.dat Y)<|rlc (.dat Y)<|rlc (.dat Y)<|rlc (.dat Y) rln)<|.dead<|.dead<|.cons Y (roO Jn)<|.cons Y (roM D105) .nil) Y Y)<|XC [some ⟨102, [[.own 3 b.bank.memories.length, .own 4 b.bank.spots.length, .int .i64 b.copies, .bool b.frozen, .bool b.stopped, .int .i64 b.last, .bool b.some_]]⟩, none, none, some ⟨26, List.map O26 b.bank.memories⟩, some ⟨105, List.map R105 b.bank.spots⟩] Y<|Tr<|Ra Y<|Ra Y<|Za<|Zg<|K3 0 1 2 Y<|Qd (cw := md0) (by kernel_rfl)<|D1 0 Zc Y<|Dq 1 Y (ZA (ov Y) Y Y)<|Dq 2 Y (Zi (ov Y) Y Y ZdS)<|Dq 3 Y (Zw (ov Y) Y Y Y Zku Y)<|D1 4 Zc Y<|bE h fun x h_x h=>Dq 5 Y (Qh (ov Y) (ov Y) Zaz Y Y h_x)<|D1 6 Zc Y<|D1 7 Zc Y<|bE h fun y h_y h=>Dq 8 Y (ZdL (Zcf h_y) .int<|.cons (ov Y) (View.ptrS (j := 0) (k := 2) Y Y Y (Nat.le_of_ble_eq_true Y)<|.cons (View.ownO Y Y Jn (fun x=>(D26 x).1) ZlK)<|.cons (View.ownM Y Y D105) .nil)<|.cons (ov Y) (Dat.view<|.b Y) .nil)<|D1 9 Qp Y<|D1 10 Qp Y<|Dd<|K5 0 1 2 8 9 Y<|Tr<|Rm Y<|Rm Y<|Rm Y<|bE h fun y2 h_y2 h=>Rq Y (ZdL (ZcC h_y2) .int<|.cons (ov Y) (View.ptrS (j := 0) (k := 2) Y Y Y (Nat.le_of_ble_eq_true Y)<|.cons (View.ownO Y Y Jn (fun x=>(D26 x).1) ZlK)<|.cons (View.ownM Y Y D105) .nil)<|.cons (ov Y) (Dat.view<|.b Y)<|.cons (ov Y) (Dat.view<|.b Y) .nil)<|Ra Y<|Za<|K6 0 1 2 8 9 10 Y<|Tr<|Rm Y<|Rq Y (ZA (ov Y) Y<|List.length_map ..)<|Rq Y (Zbd (ov Y) Y Y Zfx)<|Xn (Ent.focusH (r := 3) (j := 3) (e' := 3) (g := R3) (ys := x.Wear) Y (ZH h_x).2 Y DR3)<|Rq Y (Zdq (ov Y) Y Y (ZH h_x).2 ZkK Y)<|Rm Y<|bE h fun x2 h_x2 h=>Rq Y (Qh (ov Y) (ov Y) QK Y Y h_x2)<|Rq Y (Qu (ov Y) Y Y h_x2 tS3 Y)<|R2 ZF Y<|bE h fun x3 h_x3 h=>Rq Y (Qh (ov Y) (ov Y) QK Y Y h_x3)<|Rx Y (Xo (u' := (i64 (x2 + 1))) (ov Y) (ov Y) (Zh tS3) Y Y h_x3 Y (Zb Y) Y)<|ZfY [some ⟨102, [[.own 3 b.bank.memories.length, .own 4 b.bank.spots.length, .int .i64 b.copies, .bool b.frozen, .bool b.stopped, .int .i64 b.last, .bool b.some_]]⟩, none, none, some ⟨26, List.set (List.map O26 b.bank.memories) k.toNat [.int .i64 x.Slots, .int .i64 x.Limit, .osub 49 (List.map O49 x.Sectors), .own 5 x.Wear.length, .osub 4 (List.map R4 x.Bad)]⟩, some ⟨105, List.map R105 b.bank.spots⟩, some ⟨3, List.map R3 (x.Wear.set y.toNat (i64 (x2 + 1)))⟩] Y<|?_
 have h_x4 := Ju (y := (api_Memory.mk x.Slots x.Limit x.Sectors (x.Wear.set y.toNat (i64 (x2 + 1))) x.Bad)) h_x
 have h_x5 := Ju (y := (api_Memory.mk x.Slots x.Limit x.Sectors (x.Wear.set y.toNat (i64 (x2 + 1))) x.Bad)) h_x
 have h_x6 := Ju (y := (api_Memory.mk x.Slots x.Limit x.Sectors (x.Wear.set y.toNat (i64 (x2 + 1))) x.Bad)) h_x
 have h_x7 := Ju (y := (api_Memory.mk x.Slots x.Limit x.Sectors (x.Wear.set y.toNat (i64 (x2 + 1))) x.Bad)) h_x
 refine Xn (Ent.absorbH (r := 3) (j := 3) (q := 5) Y (ZH h_x).2 Y Y ((List.length_map ..).trans<|(List.length_set ..).trans Y) Y)<|Xn (Ent.closeH (r := 3) (y := (api_Memory.mk x.Slots x.Limit x.Sectors (x.Wear.set y.toNat (i64 (x2 + 1))) x.Bad)) Y Y)<|Za<|K6 0 1 2 8 9 10 Y<|XC [some ⟨102, [[.own 3 b.bank.memories.length, .own 4 b.bank.spots.length, .int .i64 b.copies, .bool b.frozen, .bool b.stopped, .int .i64 b.last, .bool b.some_]]⟩, none, none, some ⟨26, List.map O26 (b.bank.memories.set k.toNat (api_Memory.mk x.Slots x.Limit x.Sectors (x.Wear.set y.toNat (i64 (x2 + 1))) x.Bad))⟩, some ⟨105, List.map R105 b.bank.spots⟩, none] Y<|Tr<|Rm Y<|Rq Y (ZA (ov Y) Y<|(List.length_map ..).trans<|(List.length_set ..).trans Y)<|Rq Y (Zbd (ov Y) Y ((List.length_set ..).trans Y) ZP)<|Xn (Ent.focusH (r := 3) (j := 2) (e' := 49) (g := O49) (ys := x.Sectors) Y (ZH h_x4).2 Y Jm)<|Rq Y (Zdq (ov Y) Y ((List.length_set ..).trans Y) (ZH h_x4).2 Qw Y)<|Rm Y<|bE h fun x8 h_x8 h=>Rq Y (Qh (ov Y) (ov Y) Qm Y Y h_x8)<|Xn (Ent.focusH (r := 6) (j := 0) (e' := 5) (g := R5) (ys := x8) Y (ZH h_x8).2 Y DR5)<|Rq Y (Zdq (ov Y) Y Y (ZH h_x8).2 ZfN Y)<|Rm Y<|bE h fun y3 h_y3 h=>Rx Y (ZO [7] (ZgH h_y3) (.cons (ov Y) (.own _ Y)<|.cons (ov Y) (.dat Y) .nil) (.cons Y (roM D5) .nil) Y (.keep Y Y<|.none<|.none<|.keep Y Y<|.keep Y Y<|.none<|.keep Y Y<|.lent 0 (.inl Y) Y (roM D5) .nil) Y Y<|Xz<|rld Y)<|Rm Y<|Rq Y (Zj (ov Y) Y)<|Rq Y (Zj (ov Y) Y)<|Ra Y<|Ra Y<|ZfY [some ⟨102, [[.own 3 b.bank.memories.length, .own 4 b.bank.spots.length, .int .i64 b.copies, .bool b.frozen, .bool b.stopped, .int .i64 b.last, .bool b.some_]]⟩, none, none, some ⟨26, List.set (List.map O26 (b.bank.memories.set k.toNat (api_Memory.mk x.Slots x.Limit x.Sectors (x.Wear.set y.toNat (i64 (x2 + 1))) x.Bad))) k.toNat [.int .i64 x.Slots, .int .i64 x.Limit, .own 6 x.Sectors.length, .osub 3 (List.map R3 (x.Wear.set y.toNat (i64 (x2 + 1)))), .osub 4 (List.map R4 x.Bad)]⟩, some ⟨105, List.map R105 b.bank.spots⟩, none, some ⟨49, List.set (List.map O49 x.Sectors) y.toNat [.own 7 x8.length]⟩, some ⟨5, List.map R5 y3.2.2⟩] Y<|?_
 have h_x9 := Ju (y := y3.2.2) h_x8
 have h_x10 := Ju (y := (api_Memory.mk x.Slots x.Limit (x.Sectors.set y.toNat y3.2.2) (x.Wear.set y.toNat (i64 (x2 + 1))) x.Bad)) h_x4
 have h_x11 := Ju (y := (api_Memory.mk x.Slots x.Limit (x.Sectors.set y.toNat y3.2.2) (x.Wear.set y.toNat (i64 (x2 + 1))) x.Bad)) h_x4
 have h_x12 := Ju (y := (api_Memory.mk x.Slots x.Limit (x.Sectors.set y.toNat y3.2.2) (x.Wear.set y.toNat (i64 (x2 + 1))) x.Bad)) h_x4
 have h_x13 := Ju (y := (api_Memory.mk x.Slots x.Limit (x.Sectors.set y.toNat y3.2.2) (x.Wear.set y.toNat (i64 (x2 + 1))) x.Bad)) h_x4
 refine Xn (Ent.absorbH (r := 6) (j := 0) (q := 7) Y (ZH h_x8).2 Y Y ((List.length_map ..).trans<|Zgz h_y3) Y)<|Xn (Ent.closeH (r := 6) (y := y3.2.2) Y Y)<|Xn (Ent.absorbH (r := 3) (j := 2) (q := 6) Y (ZH h_x4).2 Y Y ((List.length_map ..).trans<|(List.length_set ..).trans Y) Y)<|Xn (Ent.closeH (r := 3) (y := (api_Memory.mk x.Slots x.Limit (x.Sectors.set y.toNat y3.2.2) (x.Wear.set y.toNat (i64 (x2 + 1))) x.Bad)) Y Y)<|Za<|Zg<|K7 0 1 2 8 9 10 11 Y<|XC [some ⟨102, [[.own 3 b.bank.memories.length, .own 4 b.bank.spots.length, .int .i64 b.copies, .bool b.frozen, .bool b.stopped, .int .i64 b.last, .bool b.some_]]⟩, none, none, some ⟨26, List.map O26 ((b.bank.memories.set k.toNat (api_Memory.mk x.Slots x.Limit x.Sectors (x.Wear.set y.toNat (i64 (x2 + 1))) x.Bad)).set k.toNat (api_Memory.mk x.Slots x.Limit (x.Sectors.set y.toNat y3.2.2) (x.Wear.set y.toNat (i64 (x2 + 1))) x.Bad))⟩, some ⟨105, List.map R105 b.bank.spots⟩, none, none, none] Y<|Tr<|Rm Y<|R1 XN Y<|Za<|K7 0 1 2 8 9 10 47 Y<|If h Y (fun h=>?_) fun h=>?_
 ·
  refine K1 2 Y<|Tr<|Rm Y<|Ra Y<|Ra Y<|Za<|?_
  obtain rfl := rt h
  exact Zo<|ZbQ [some 0, some 1, some 2, some 3, some 4] Y (.cons (.tmp Y)<|.cons (.tmp Y) .nil) (.cons Y (ro1 (by exact tZ_102.symm)<|rlc (Zdv (Eq.symm<|(List.length_set ..).trans<|(List.length_set ..).trans Y) Y)<|rlc (.own _ Y)<|rlc (.dat Y)<|rlc (.dat Y)<|rlc (.dat Y)<|rlc (.dat Y)<|rlc (.dat Y) rln)<|.dead<|.dead<|.cons Y (roO Jn)<|.cons Y (roM D105) .nil) Y Y<|Xz<|rlc (.dat Y)<|rlc (.dat Y) rln
 ·
  refine Zf<|I4 (fun memories spots power2 all=>⟨[(2, .int .i64 power2), (11, .bool all)], [some ⟨102, [[.own 3 memories.length, .own 4 spots.length, .int .i64 b.copies, .bool b.frozen, .bool b.stopped, .int .i64 b.last, .bool b.some_]]⟩, none, none, some ⟨26, List.map O26 memories⟩, some ⟨105, List.map R105 spots⟩]⟩) h (fun h=>?_) fun memories spots power2 all h=>?_
  ·
   refine Zg<|K6 0 1 2 8 9 10 Y<|bE h fun x14 h_x14 h=>ZgW (Ent.focusH (r := 3) (j := 2) (e' := 49) (g := O49) (ys := x14.Sectors) Y (ZH h_x14).2 Y Jm)<|bE h fun x15 h_x15 h=>ZgW (Ent.focusH (r := 8) (j := 0) (e' := 5) (g := R5) (ys := x15) Y (ZH h_x15).2 Y DR5)<|Qd (cw := ⟨true, true, [some ⟨102, [[.own 3 b.bank.memories.length, .own 4 b.bank.spots.length, .int .i64 b.copies, .bool b.frozen, .bool b.stopped, .int .i64 b.last, .bool b.some_]]⟩, none, none, some ⟨26, List.set (List.map O26 ((b.bank.memories.set k.toNat (api_Memory.mk x.Slots x.Limit x.Sectors (x.Wear.set y.toNat (i64 (x2 + 1))) x.Bad)).set k.toNat (api_Memory.mk x.Slots x.Limit (x.Sectors.set y.toNat y3.2.2) (x.Wear.set y.toNat (i64 (x2 + 1))) x.Bad))) k.toNat [.int .i64 x14.Slots, .int .i64 x14.Limit, .own 8 x14.Sectors.length, .osub 3 (List.map R3 x14.Wear), .osub 4 (List.map R4 x14.Bad)]⟩, some ⟨105, List.map R105 b.bank.spots⟩, none, none, none, some ⟨49, List.set (List.map O49 x14.Sectors) y.toNat [.own 9 x15.length]⟩, some ⟨5, List.map R5 x15⟩], [], [9]⟩) (by kernel_rfl)<|D1 7 Zc Y<|Qc 0 _ Y (by kernel_rfl) Y Y (fun hp'=>Zc<|ov Y)<|Js 1 _ Y (by kernel_rfl) Y Y Y (EL.ext<|.keep<|.keep<|.keep<|.keep<|.keep<|.keep<|.keep<|.keep<|.keep<|.wr Y Y Y .nil) (fun hp' hx=>ZA (ov Y) (hx.get Y Y)<|((List.length_set ..).trans (List.length_map ..)).trans<|(List.length_set ..).trans<|(List.length_set ..).trans Y)<|Js 2 _ Y (by kernel_rfl) Y Y Y (EL.ext<|.keep<|.keep<|.keep<|.keep<|.keep<|.keep<|.keep<|.keep<|.keep<|.wr Y Y Y .nil) (fun hp' hx=>Zkf (ov Y) (hx.get Y Y) ((List.length_set ..).trans<|(List.length_set ..).trans Y) ZP)<|Js 3 _ Y (by kernel_rfl) Y Y Y (EL.ext<|.keep<|.keep<|.keep<|.keep<|.keep<|.keep<|.keep<|.keep<|.keep<|.wr Y Y Y .nil) (fun hp' hx=>Zdq (ov Y) (hx.get Y Y) ((List.length_set ..).trans<|(List.length_set ..).trans Y) (ZH h_x14).2 Qw Y)<|Qc 4 _ Y (by kernel_rfl) Y Y (fun hp'=>Zc<|ov Y)<|bE h fun x16 h_x16 h=>Js 5 _ Y (by kernel_rfl) Y Y Y (EL.ext<|.keep<|.keep<|.keep<|.keep<|.keep<|.keep<|.keep<|.keep<|.keep<|.wr Y Y Y .nil) (fun hp' hx=>ZlN (ov Y) (ov Y) Qm (hx.get Y Y) Y h_x16)<|Js 6 _ Y (by kernel_rfl) Y Y Y (EL.ext<|.keep<|.keep<|.keep<|.keep<|.keep<|.keep<|.keep<|.keep<|.keep<|.wr Y Y Y .nil) (fun hp' hx=>Zdq (ov Y) (hx.get Y Y) Y (ZH h_x15).2 ZfN Y)<|Qc 9 _ Y (by kernel_rfl) Y Y (fun hp'=>Zc<|ov Y)<|bE h fun y4 h_y4 h=>ZaG 8 _ _ Y (by kernel_rfl) Y Y (fun h=>by cases h) (fun _=>by exact EL.ext (.keep <| .keep <| .keep <| .keep <| .keep <| .keep <| .keep <| .keep <| .keep <| .wr rfl rfl rfl <| .nil)) (JG<|Zn (Zgc h_y4)<|.cons (ov Y) (.b Y) .nil)<|bE h fun y5 h_y5 h=>ZaG 10 _ _ Y (by kernel_rfl) Y Y (fun h=>by cases h) (fun _=>by exact EL.ext (.keep <| .keep <| .keep <| .keep <| .keep <| .keep <| .keep <| .keep <| .keep <| .wr rfl rfl ((List.length_map ..).trans (Eq.trans (Zbe h_y5) (Eq.symm ((List.length_map ..).trans rfl)))) <| .nil)) (ZO [9] (ZeV h_y5) (.cons (ov Y) (.own _ Y)<|.cons (ov Y) (.dat Y)<|.cons (ov Y) (.dat Y)<|.cons (ov Y) (.dat Y) .nil) (.cons Y (roM D5) .nil) Y (.keep Y Y<|.none<|.none<|.keep Y Y<|.keep Y Y<|.none<|.none<|.none<|.keep Y Y<|.lent 0 (.inl Y) Y (roM D5) .nil) Y Y<|Xz<|rld Y)<|D1 11 Zc Y<|Dq 12 Y (Zj (ov Y) Y)<|Dq 13 Y (Zj (ov Y) Y)<|D1 14 Qp Y<|D1 15 Qp Y<|?_
   have h_x17 := Ju (y := y5.2.2) h_x16
   have h_x18 := Ju (y := (api_Memory.mk x14.Slots x14.Limit (x14.Sectors.set y.toNat y5.2.2) x14.Wear x14.Bad)) h_x10
   have h_x19 := Ju (y := (api_Memory.mk x14.Slots x14.Limit (x14.Sectors.set y.toNat y5.2.2) x14.Wear x14.Bad)) h_x10
   have h_x20 := Ju (y := (api_Memory.mk x14.Slots x14.Limit (x14.Sectors.set y.toNat y5.2.2) x14.Wear x14.Bad)) h_x10
   have h_x21 := Ju (y := (api_Memory.mk x14.Slots x14.Limit (x14.Sectors.set y.toNat y5.2.2) x14.Wear x14.Bad)) h_x10
   refine Qx (by kernel_rfl) (Ent.trans (Ent.absorbH (r := 8) (j := 0) (q := 9) Y (ZH h_x15).2 Y Y ((List.length_map ..).trans<|Zbe h_y5) Y)<|Ent.trans (Ent.closeH (r := 8) (y := y5.2.2) Y Y)<|Ent.trans (Ent.absorbH (r := 3) (j := 2) (q := 8) Y (ZH h_x14).2 Y Y ((List.length_map ..).trans<|(List.length_set ..).trans Y) Y)<|Ent.closeH (r := 3) (y := (api_Memory.mk x14.Slots x14.Limit (x14.Sectors.set y.toNat y5.2.2) x14.Wear x14.Bad)) Y Y)<|K5 0 1 2 9 11 Y<|XC [some ⟨102, [[.own 3 b.bank.memories.length, .own 4 b.bank.spots.length, .int .i64 b.copies, .bool b.frozen, .bool b.stopped, .int .i64 b.last, .bool b.some_]]⟩, none, none, some ⟨26, List.map O26 (((b.bank.memories.set k.toNat (api_Memory.mk x.Slots x.Limit x.Sectors (x.Wear.set y.toNat (i64 (x2 + 1))) x.Bad)).set k.toNat (api_Memory.mk x.Slots x.Limit (x.Sectors.set y.toNat y3.2.2) (x.Wear.set y.toNat (i64 (x2 + 1))) x.Bad)).set k.toNat (api_Memory.mk x14.Slots x14.Limit (x14.Sectors.set y.toNat y5.2.2) x14.Wear x14.Bad))⟩, some ⟨105, List.map R105 b.bank.spots⟩, none, none, none, none, none] Y<|Tr<|Rm Y<|Za<|If h Y (fun h=>?_) fun h=>?_
   ·
    exact K5 0 1 2 9 11 Y<|Zp<|Rm Y<|Rq Y (ZA (ov Y) Y Y)<|Rq Y (Zi (ov Y) Y Y Zfg)<|Rq Y (Zw (ov Y) Y Y Y ZlF Y)<|Rm Y<|Rm Y<|Rq Y (Xm (ys := [_, _]) Zlw ZlG Zkc (.cons (cvs (ov Y)<|Zk Y) .nil) Y)<|bE h fun x22 h_x22 h=>Rq Y (Qh (ov Y) (ov Y) Zlz Y Y h_x22)<|Rx Y (Xo (u' := (ring_spot.mk y 0)) (ov Y) (ov Y) (Zv Zhv Y) Y Y h_x22 Y (Zb Y) Y)<|Za<|⟨_, h, ES [some 0, some 1, some 2, some 3, some 4] (hhp := .cons Y (ro1 (by exact tZ_102.symm)<|rlc (Zdv (Eq.symm<|(List.length_set ..).trans<|(List.length_set ..).trans<|(List.length_set ..).trans Y) Y)<|rlc (Zdv (Eq.symm<|(List.length_set ..).trans Y) Y)<|rlc (.dat Y)<|rlc (.dat Y)<|rlc (.dat Y)<|rlc (.dat Y)<|rlc (.dat Y) rln)<|.dead<|.dead<|.cons Y (roO Jn)<|.cons Y (roM D105) .nil)⟩
   ·
    exact Zf<|⟨_, h, ES [some 0, some 1, some 2, some 3, some 4] (hhp := .cons Y (ro1 (by exact tZ_102.symm)<|rlc (Zdv (Eq.symm<|(List.length_set ..).trans<|(List.length_set ..).trans<|(List.length_set ..).trans Y) Y)<|rlc (.own _ Y)<|rlc (.dat Y)<|rlc (.dat Y)<|rlc (.dat Y)<|rlc (.dat Y)<|rlc (.dat Y) rln)<|.dead<|.dead<|.cons Y (roO Jn)<|.cons Y (roM D105) .nil)⟩
  ·
   refine Tr<|Rm Y<|Rm Y<|Ra Y<|Ra Y<|Za<|?_
   obtain rfl := rt h
   exact Zo<|ZbQ [some 0, some 1, some 2, some 3, some 4] Y (.cons (.tmp Y)<|.cons (.tmp Y) .nil) (.cons Y (ro1 (by exact tZ_102.symm)<|rlc (.own _ Y)<|rlc (.own _ Y)<|rlc (.dat Y)<|rlc (.dat Y)<|rlc (.dat Y)<|rlc (.dat Y)<|rlc (.dat Y) rln)<|.dead<|.dead<|.cons Y (roO Jn)<|.cons Y (roM D105) .nil) Y Y<|Xz<|rlc (.dat Y)<|rlc (.dat Y) rln
theorem ZdN {b : ring_Recorder} {k : Int} {data : List Int} {power : Int} {r : Int × Bool × ring_Recorder} (h : Zao b k data power = some r) :
 GSpec Tryz.prog gl0 71 [.ptr 0 1 0 0, .int .i64 k, .slf 5 (List.map R5 data), .int .i64 power] [some ⟨102, [[.own 1 b.bank.memories.length, .own 2 b.bank.spots.length, .int .i64 b.copies, .bool b.frozen, .bool b.stopped, .int .i64 b.last, .bool b.some_]]⟩, some ⟨26, List.map O26 b.bank.memories⟩, some ⟨105, List.map R105 b.bank.spots⟩] (.tuple [.int .i64 r.1, .bool r.2.1]) [some ⟨102, [[.own 3 r.2.2.bank.memories.length, .own 4 r.2.2.bank.spots.length, .int .i64 r.2.2.copies, .bool r.2.2.frozen, .bool r.2.2.stopped, .int .i64 r.2.2.last, .bool r.2.2.some_]]⟩, none, none, some ⟨26, List.map O26 r.2.2.bank.memories⟩, some ⟨105, List.map R105 r.2.2.bank.spots⟩] := by
 unfold Zao at h
 replace h := Qk h
 refine QZ (by kernel_rfl) Tryz.func71 Y Y<|?_
 intro w0 A W φ0
 refine ZgW (Ent.sel [some 0, some 1, some 2, some 1, some 2] (sr 0 Y (.ptr (r' := 0) _ _ _ Y)<|sd 1 Y Y<|sd 2 Y Y<|sd 3 Y Y sn) (.cons Y (ro1 (by exact tZ_102.symm)<|rlc (.own (r' := 3) _ Y)<|rlc (.own (r' := 4) _ Y)<|rlc (.dat Y)<|rlc (.dat Y)<|rlc (.dat Y)<|rlc (.dat Y)<|rlc (.dat Y) rln)<|.dead<|.dead<|.cons Y (roO Jn)<|.cons Y (roM D105) .nil) Y Y)<|XC [some ⟨102, [[.own 3 b.bank.memories.length, .own 4 b.bank.spots.length, .int .i64 b.copies, .bool b.frozen, .bool b.stopped, .int .i64 b.last, .bool b.some_]]⟩, none, none, some ⟨26, List.map O26 b.bank.memories⟩, some ⟨105, List.map R105 b.bank.spots⟩] Y<|Tr<|Ra Y<|Ra Y<|Za<|J8 (fun j => (.inr j)) (fun memories spots copies frozen stopped last some_ power2=>⟨[(0, .ptr 0 1 0 0), (1, .int .i64 k), (2, .slf 5 (List.map R5 data)), (3, .int .i64 power2)], [some ⟨102, [[.own 3 memories.length, .own 4 spots.length, .int .i64 copies, .bool frozen, .bool stopped, .int .i64 last, .bool some_]]⟩, none, none, some ⟨26, List.map O26 memories⟩, some ⟨105, List.map R105 spots⟩]⟩) h (fun h=>?_) fun memories spots copies frozen stopped last some_ power2 h=>?_
 ·
  refine K4 0 1 2 3 Y<|Tr<|Rm Y<|Rm Y<|bE h fun y h_y h=>Rq Y (ZdL (Zbl h_y) .bool<|.cons (ov Y) (View.ptrS (j := 0) (k := 2) Y Y Y (Nat.le_of_ble_eq_true Y)<|.cons (View.ownO Y Y Jn (fun x=>(D26 x).1) ZlK)<|.cons (View.ownM Y Y D105) .nil)<|.cons (ov Y) (Dat.view<|.b Y) .nil)<|Za<|K5 0 1 2 3 15 Y<|If h Y (fun h=>?_) fun h=>?_
  ·
   refine K4 0 1 2 3 Y<|Tr<|Ra Y<|Za<|Tr<|Rm Y<|Rm Y<|Rm Y<|bE h fun y2 h_y2 h=>Rx Y (ZO [0, 3, 4] (ZdQ h_y2) (.cons (ov Y) (.ptr _ _ _ Y)<|.cons (ov Y) (.dat Y)<|.cons (ov Y) (.dat Y) .nil) (.cons Y (ro1 (by exact tZ_102.symm)<|rlc (.own _ Y)<|rlc (.own _ Y)<|rlc (.dat Y)<|rlc (.dat Y)<|rlc (.dat Y)<|rlc (.dat Y)<|rlc (.dat Y) rln)<|.cons Y (roO Jn)<|.cons Y (roM D105) .nil) Y (.lent 0 (.inl Y) Y (ro1 (by exact tZ_102.symm)<|rlc (.own _<|.inr ⟨Nat.le_of_ble_eq_true Y, Y⟩)<|rlc (.own _<|.inr ⟨Nat.le_of_ble_eq_true Y, Y⟩)<|rlc (.dat Y)<|rlc (.dat Y)<|rlc (.dat Y)<|rlc (.dat Y)<|rlc (.dat Y) rln)<|.none<|.none<|.none<|.none<|.lent 3 (.inr ⟨Nat.le_of_ble_eq_true Y, Y⟩) Y (roO Jn)<|.lent 4 (.inr ⟨Nat.le_of_ble_eq_true Y, Y⟩) Y (roM D105) .nil) Y Y<|Xz<|rld Y)<|Rm Y<|Rq Y (Zj (ov Y) Y)<|Rq Y (Zj (ov Y) Y)<|Ra Y<|Ra Y<|Za<|K5 0 1 2 3 10 Y<|XC [some ⟨102, [[.own 5 y2.2.2.bank.memories.length, .own 6 y2.2.2.bank.spots.length, .int .i64 y2.2.2.copies, .bool y2.2.2.frozen, .bool y2.2.2.stopped, .int .i64 y2.2.2.last, .bool y2.2.2.some_]]⟩, none, none, none, none, some ⟨26, List.map O26 y2.2.2.bank.memories⟩, some ⟨105, List.map R105 y2.2.2.bank.spots⟩] Y<|Tr<|Rm Y<|R1 XN Y<|Za<|K5 0 1 2 3 24 Y<|If h Y (fun h=>?_) fun h=>?_
   ·
    refine K1 3 Y<|Tr<|Rm Y<|Ra Y<|Ra Y<|Za<|?_
    obtain rfl := rt h
    exact Zo<|ZbQ [some 0, some 1, some 2, some 5, some 6] Y (.cons (.tmp Y)<|.cons (.tmp Y) .nil) (.cons Y (ro1 (by exact tZ_102.symm)<|rlc (.own _ Y)<|rlc (.own _ Y)<|rlc (.dat Y)<|rlc (.dat Y)<|rlc (.dat Y)<|rlc (.dat Y)<|rlc (.dat Y) rln)<|.dead<|.dead<|.cons Y (roO Jn)<|.cons Y (roM D105) .nil) Y Y<|Xz<|rlc (.dat Y)<|rlc (.dat Y) rln
   ·
    exact Zf<|⟨_, h, ES [some 0, some 1, some 2, some 5, some 6] (hhp := .cons Y (ro1 (by exact tZ_102.symm)<|rlc (.own _ Y)<|rlc (.own _ Y)<|rlc (.dat Y)<|rlc (.dat Y)<|rlc (.dat Y)<|rlc (.dat Y)<|rlc (.dat Y) rln)<|.dead<|.dead<|.cons Y (roO Jn)<|.cons Y (roM D105) .nil)⟩
  ·
   exact Zf<|⟨_, h, ES [some 0, some 1, some 2, some 3, some 4] (hhp := .cons Y (ro1 (by exact tZ_102.symm)<|rlc (.own _ Y)<|rlc (.own _ Y)<|rlc (.dat Y)<|rlc (.dat Y)<|rlc (.dat Y)<|rlc (.dat Y)<|rlc (.dat Y) rln)<|.dead<|.dead<|.cons Y (roO Jn)<|.cons Y (roM D105) .nil)⟩
 ·
  replace h := elr h
  replace h := t8i h
  refine Tr<|Rm Y<|Rq Y (ZA (ov Y) Y Y)<|Rq Y (Zi (ov Y) Y Y Zfg)<|Rq Y (Zw (ov Y) Y Y Y ZlF Y)<|Rm Y<|bE h fun x h_x h=>Rq Y (Qh (ov Y) (ov Y) Zlz Y Y h_x)<|Ra Y<|Za<|Zg<|K5 0 1 2 3 11 Y<|bE h fun x2 h_x2 h=>ZgW (Ent.focusH (r := 3) (j := 2) (e' := 49) (g := O49) (ys := x2.Sectors) Y (ZH h_x2).2 Y Jm)<|bE h fun x3 h_x3 h=>ZgW (Ent.focusH (r := 5) (j := 0) (e' := 5) (g := R5) (ys := x3) Y (ZH h_x3).2 Y DR5)<|Qd (cw := ⟨true, true, [some ⟨102, [[.own 3 memories.length, .own 4 spots.length, .int .i64 copies, .bool frozen, .bool stopped, .int .i64 last, .bool some_]]⟩, none, none, some ⟨26, List.set (List.map O26 memories) k.toNat [.int .i64 x2.Slots, .int .i64 x2.Limit, .own 5 x2.Sectors.length, .osub 3 (List.map R3 x2.Wear), .osub 4 (List.map R4 x2.Bad)]⟩, some ⟨105, List.map R105 spots⟩, some ⟨49, List.set (List.map O49 x2.Sectors) x.sector.toNat [.own 6 x3.length]⟩, some ⟨5, List.map R5 x3⟩], [], [6]⟩) (by kernel_rfl)<|Qc 0 _ Y (by kernel_rfl) Y Y (fun hp'=>Zc<|ov Y)<|Js 1 _ Y (by kernel_rfl) Y Y Y (EL.ext<|.keep<|.keep<|.keep<|.keep<|.keep<|.keep<|.wr Y Y Y .nil) (fun hp' hx=>ZA (ov Y) (hx.get Y Y) Y)<|Js 2 _ Y (by kernel_rfl) Y Y Y (EL.ext<|.keep<|.keep<|.keep<|.keep<|.keep<|.keep<|.wr Y Y Y .nil) (fun hp' hx=>Zi (ov Y) (hx.get Y Y) Y ZdS)<|Js 3 _ Y (by kernel_rfl) Y Y Y (EL.ext<|.keep<|.keep<|.keep<|.keep<|.keep<|.keep<|.wr Y Y Y .nil) (fun hp' hx=>Zw (ov Y) (hx.get Y Y) Y Y Zku Y)<|Qc 4 _ Y (by kernel_rfl) Y Y (fun hp'=>Zc<|ov Y)<|bE h fun x4 h_x4 h=>Js 5 _ Y (by kernel_rfl) Y Y Y (EL.ext<|.keep<|.keep<|.keep<|.keep<|.keep<|.keep<|.wr Y Y Y .nil) (fun hp' hx=>ZlN (ov Y) (ov Y) Zaz (hx.get Y Y) Y h_x4)<|Js 6 _ Y (by kernel_rfl) Y Y Y (EL.ext<|.keep<|.keep<|.keep<|.keep<|.keep<|.keep<|.wr Y Y Y .nil) (fun hp' hx=>Zkf (ov Y) (hx.get Y Y) Y ZP)<|Js 7 _ Y (by kernel_rfl) Y Y Y (EL.ext<|.keep<|.keep<|.keep<|.keep<|.keep<|.keep<|.wr Y Y Y .nil) (fun hp' hx=>Zdq (ov Y) (hx.get Y Y) Y (ZH h_x2).2 Qw Y)<|Qc 8 _ Y (by kernel_rfl) Y Y (fun hp'=>Zc<|ov Y)<|Js 9 _ Y (by kernel_rfl) Y Y Y (EL.ext<|.keep<|.keep<|.keep<|.keep<|.keep<|.keep<|.wr Y Y Y .nil) (fun hp' hx=>ZA (ov Y) (hx.get Y Y)<|List.length_map ..)<|Js 10 _ Y (by kernel_rfl) Y Y Y (EL.ext<|.keep<|.keep<|.keep<|.keep<|.keep<|.keep<|.wr Y Y Y .nil) (fun hp' hx=>Zbd (ov Y) (hx.get Y Y) Y Zgy)<|Js 11 _ Y (by kernel_rfl) Y Y Y (EL.ext<|.keep<|.keep<|.keep<|.keep<|.keep<|.keep<|.wr Y Y Y .nil) (fun hp' hx=>Qu (ov Y) (hx.get Y Y) Y h_x tS3 Y)<|bE h fun x5 h_x5 h=>Js 12 _ Y (by kernel_rfl) Y Y Y (EL.ext<|.keep<|.keep<|.keep<|.keep<|.keep<|.keep<|.wr Y Y Y .nil) (fun hp' hx=>ZlN (ov Y) (ov Y) Qm (hx.get Y Y) Y h_x5)<|Js 13 _ Y (by kernel_rfl) Y Y Y (EL.ext<|.keep<|.keep<|.keep<|.keep<|.keep<|.keep<|.wr Y Y Y .nil) (fun hp' hx=>Zdq (ov Y) (hx.get Y Y) Y (ZH h_x3).2 ZfN Y)<|Qc 14 _ Y (by kernel_rfl) Y Y (fun hp'=>Zc<|ov Y)<|Js 15 _ Y (by kernel_rfl) Y Y Y (EL.ext<|.keep<|.keep<|.keep<|.keep<|.keep<|.keep<|.wr Y Y Y .nil) (fun hp' hx=>ZA (ov Y) (hx.get Y Y)<|List.length_map ..)<|Js 16 _ Y (by kernel_rfl) Y Y Y (EL.ext<|.keep<|.keep<|.keep<|.keep<|.keep<|.keep<|.wr Y Y Y .nil) (fun hp' hx=>Zbd (ov Y) (hx.get Y Y) Y Zhp)<|Js 17 _ Y (by kernel_rfl) Y Y Y (EL.ext<|.keep<|.keep<|.keep<|.keep<|.keep<|.keep<|.wr Y Y Y .nil) (fun hp' hx=>Qu (ov Y) (hx.get Y Y) Y h_x tS3 Y)<|Qc 18 _ Y (by kernel_rfl) Y Y (fun hp'=>Zo8 (ov Y) (ov Y) Y)<|Qc 19 _ Y (by kernel_rfl) Y Y (fun hp'=>Zke (ov Y) (ov Y) Y)<|Qc 20 _ Y (by kernel_rfl) Y Y (fun hp'=>Zc<|ov Y)<|Qc 23 _ Y (by kernel_rfl) Y Y (fun hp'=>Zc<|ov Y)<|ZaG 21 (.sl 5<|List.map R5 ([0] : List Int)) _ Y (by kernel_rfl) Y Y (fun h=>by cases h) (fun _=>by exact EL.ext (.keep <| .keep <| .keep <| .keep <| .keep <| .keep <| .wr rfl rfl rfl <| .nil)) (JG<|Xw QF (.cons (cvs (ov Y)<|Zk Y) Y (.cons (.b Y) .nil) .nil) Y Y)<|bE h fun l h_l h=>ZaG 22 _ _ Y (by kernel_rfl) Y Y (fun h=>by cases h) (fun _=>by exact EL.ext (.keep <| .keep <| .keep <| .keep <| .keep <| .keep <| .wr rfl rfl rfl <| .nil)) (JG<|ZmN (f := R5) (ov Y) (QD (ov Y) tZ_5) QF Y Y (fun x=>(D5 x).2) h_l)<|bE h fun y3 h_y3 h=>ZaG 24 _ _ Y (by kernel_rfl) Y Y (fun h=>by cases h) (fun _=>by exact EL.ext (.keep <| .keep <| .keep <| .keep <| .keep <| .keep <| .wr rfl rfl ((List.length_map ..).trans (Eq.trans (Zbe h_y3) (Eq.symm ((List.length_map ..).trans rfl)))) <| .nil)) (ZO [6] (ZeV h_y3) (.cons (ov Y) (.own _ Y)<|.cons (ov Y) (.dat Y)<|.cons (ov Y) (.dat Y)<|.cons (ov Y) (.dat Y) .nil) (.cons Y (roM D5) .nil) Y (.keep Y Y<|.none<|.none<|.keep Y Y<|.keep Y Y<|.keep Y Y<|.lent 0 (.inl Y) Y (roM D5) .nil) Y Y<|Xz<|rld Y)<|D1 25 Zc Y<|Dq 26 Y (Zj (ov Y) Y)<|Dq 27 Y (Zj (ov Y) Y)<|D1 28 Qp Y<|D1 29 Qp Y<|?_
  have h_x6 := Ju (y := y3.2.2) h_x5
  have h_x7 := Ju (y := (api_Memory.mk x2.Slots x2.Limit (x2.Sectors.set x.sector.toNat y3.2.2) x2.Wear x2.Bad)) h_x4
  have h_x8 := Ju (y := (api_Memory.mk x2.Slots x2.Limit (x2.Sectors.set x.sector.toNat y3.2.2) x2.Wear x2.Bad)) h_x4
  refine Qx (by kernel_rfl) (Ent.trans (Ent.absorbH (r := 5) (j := 0) (q := 6) Y (ZH h_x3).2 Y Y ((List.length_map ..).trans<|Zbe h_y3) Y)<|Ent.trans (Ent.closeH (r := 5) (y := y3.2.2) Y Y)<|Ent.trans (Ent.absorbH (r := 3) (j := 2) (q := 5) Y (ZH h_x2).2 Y Y ((List.length_map ..).trans<|(List.length_set ..).trans Y) Y)<|Ent.closeH (r := 3) (y := (api_Memory.mk x2.Slots x2.Limit (x2.Sectors.set x.sector.toNat y3.2.2) x2.Wear x2.Bad)) Y Y)<|K3 3 11 12 Y<|XC [some ⟨102, [[.own 3 memories.length, .own 4 spots.length, .int .i64 copies, .bool frozen, .bool stopped, .int .i64 last, .bool some_]]⟩, none, none, some ⟨26, List.map O26 (memories.set k.toNat (api_Memory.mk x2.Slots x2.Limit (x2.Sectors.set x.sector.toNat y3.2.2) x2.Wear x2.Bad))⟩, some ⟨105, List.map R105 spots⟩, none, none] Y<|Tr<|Rm Y<|Rq Y (ZA (ov Y) Y<|List.length_map ..)<|Rq Y (Zbd (ov Y) Y Y Zhp)<|Rq Y (Qu (ov Y) Y Y h_x tS3 Y)<|R2 ZF Y<|Rq Y (ZA (ov Y) Y<|List.length_map ..)<|Rq Y (Zbd (ov Y) Y Y Zhp)<|Rx Y (Xo (u' := (ring_spot.mk x.sector (i64 (x.slot + 1)))) (ov Y) (ov Y) (Zh tS3) Y Y h_x Y (Zb Y) Y)<|Za<|K2 3 12 Y<|XC [some ⟨102, [[.own 3 memories.length, .own 4 spots.length, .int .i64 copies, .bool frozen, .bool stopped, .int .i64 last, .bool some_]]⟩, none, none, some ⟨26, List.map O26 (memories.set k.toNat (api_Memory.mk x2.Slots x2.Limit (x2.Sectors.set x.sector.toNat y3.2.2) x2.Wear x2.Bad))⟩, some ⟨105, List.map R105 (spots.set k.toNat (ring_spot.mk x.sector (i64 (x.slot + 1))))⟩, none, none] Y<|Tr<|Rm Y<|Rm Y<|Ra Y<|Ra Y<|Za<|?_
  obtain rfl := rt h
  exact Zo<|ZbQ [some 0, some 1, some 2, some 3, some 4] Y (.cons (.tmp Y)<|.cons (.tmp Y) .nil) (.cons Y (ro1 (by exact tZ_102.symm)<|rlc (Zdv (Eq.symm<|(List.length_set ..).trans Y) Y)<|rlc (Zdv (Eq.symm<|(List.length_set ..).trans Y) Y)<|rlc (.dat Y)<|rlc (.dat Y)<|rlc (.dat Y)<|rlc (.dat Y)<|rlc (.dat Y) rln)<|.dead<|.dead<|.cons Y (roO Jn)<|.cons Y (roM D105) .nil) Y Y<|Xz<|rlc (.dat Y)<|rlc (.dat Y) rln
theorem Zet {r_ : ring_Recorder} {f : Vector Int 64} {power : Int} {r : Int × Bool × Int × ring_Recorder} (h : XA r_ f power = some r) :
 GSpec Tryz.prog gl0 17 [.ptr 0 1 0 0, .agg (List.map C40 f.toList), .int .i64 power] [some ⟨102, [[.own 1 r_.bank.memories.length, .own 2 r_.bank.spots.length, .int .i64 r_.copies, .bool r_.frozen, .bool r_.stopped, .int .i64 r_.last, .bool r_.some_]]⟩, some ⟨26, List.map O26 r_.bank.memories⟩, some ⟨105, List.map R105 r_.bank.spots⟩] (.tuple [.int .i64 r.1, .bool r.2.1, .int .i64 r.2.2.1]) [some ⟨102, [[.own 3 r.2.2.2.bank.memories.length, .own 4 r.2.2.2.bank.spots.length, .int .i64 r.2.2.2.copies, .bool r.2.2.2.frozen, .bool r.2.2.2.stopped, .int .i64 r.2.2.2.last, .bool r.2.2.2.some_]]⟩, none, none, some ⟨26, List.map O26 r.2.2.2.bank.memories⟩, some ⟨105, List.map R105 r.2.2.2.bank.spots⟩] := by
 unfold XA at h
 replace h := Qk h
 refine QZ (by kernel_rfl) Tryz.func17 Y Y<|?_
 intro w0 A W φ0
 refine ZgW (Ent.sel [some 0, some 1, some 2, some 1, some 2] (sr 0 Y (.ptr (r' := 0) _ _ _ Y)<|sr 1 Y (ZfQ<|rld<|arD fun _ => Y)<|sd 2 Y Y sn) (.cons Y (ro1 (by exact tZ_102.symm)<|rlc (.own (r' := 3) _ Y)<|rlc (.own (r' := 4) _ Y)<|rlc (.dat Y)<|rlc (.dat Y)<|rlc (.dat Y)<|rlc (.dat Y)<|rlc (.dat Y) rln)<|.dead<|.dead<|.cons Y (roO Jn)<|.cons Y (roM D105) .nil) Y Y)<|XC [some ⟨102, [[.own 3 r_.bank.memories.length, .own 4 r_.bank.spots.length, .int .i64 r_.copies, .bool r_.frozen, .bool r_.stopped, .int .i64 r_.last, .bool r_.some_]]⟩, none, none, some ⟨26, List.map O26 r_.bank.memories⟩, some ⟨105, List.map R105 r_.bank.spots⟩] Y<|Tr<|Rq Y (ZbM (cva<|ov Y) arL tZ_42<|arD fun _ => Y)<|Ra Y<|Ra Y<|Ra Y<|Za<|Zg<|K3 0 2 4 Y<|Tr<|Rm Y<|Rm Y<|bE h fun y h_y h=>Rq Y (ZdL (ZfR h_y) .int<|.cons (ov Y) (View.ptrS (j := 0) (k := 7) Y Y Y (Nat.le_of_ble_eq_true Y)<|.cons (View.ownO Y Y Jn (fun x=>(D26 x).1) ZlK)<|.cons (View.ownM Y Y D105)<|.cons (Dat.view<|.b Y)<|.cons (Dat.view<|.b Y)<|.cons (Dat.view<|.b Y)<|.cons (Dat.view<|.b Y)<|.cons (Dat.view<|.b Y) .nil)<|.cons (ov Y) (Dat.view<|.b Y) .nil)<|Ra Y<|Za<|K4 0 2 4 9 Y<|Tr<|Rm Y<|R2 Q2 Y<|Za<|K5 0 2 4 9 23 Y<|If h Y (fun h=>?_) fun h=>?_
 ·
  refine K1 9 Y<|Tr<|Rm Y<|Ra Y<|Ra Y<|Ra Y<|Za<|?_
  obtain rfl := rt h
  exact Zo<|ZbQ [some 0, some 1, some 2, some 3, some 4] Y (.cons (.tmp Y)<|.cons (.tmp Y)<|.cons (.tmp Y) .nil) (.cons Y (ro1 (by exact tZ_102.symm)<|rlc (.own _ Y)<|rlc (.own _ Y)<|rlc (.dat Y)<|rlc (.dat Y)<|rlc (.dat Y)<|rlc (.dat Y)<|rlc (.dat Y) rln)<|.dead<|.dead<|.cons Y (roO Jn)<|.cons Y (roM D105) .nil) Y Y<|Xz<|rlc (.dat Y)<|rlc (.dat Y)<|rlc (.dat Y) rln
 ·
  refine Zf<|Zg<|K3 0 2 4 Y<|Tr<|Rq Y (Z6 (ov Y) QR (ZW<|Zq arL) arL)<|bE h fun y2 h_y2 h=>Rq Y (Zn (Zf3 h_y2)<|.cons (ov Y) (.aggB<|arD fun _ => Y) .nil)<|Rl tZ_149 Zat Y<|R2 Za8 Y<|Za<|K4 0 2 4 28 Y<|If h Y (fun h=>?_) fun h=>?_
  ·
   refine K0<|Tr<|Ra Y<|Ra Y<|Ra Y<|Za<|?_
   obtain rfl := rt h
   exact Zo<|ZbQ [some 0, some 1, some 2, some 3, some 4] Y (.cons (.tmp Y)<|.cons (.tmp Y)<|.cons (.tmp Y) .nil) (.cons Y (ro1 (by exact tZ_102.symm)<|rlc (.own _ Y)<|rlc (.own _ Y)<|rlc (.dat Y)<|rlc (.dat Y)<|rlc (.dat Y)<|rlc (.dat Y)<|rlc (.dat Y) rln)<|.dead<|.dead<|.cons Y (roO Jn)<|.cons Y (roM D105) .nil) Y Y<|Xz<|rlc (.dat Y)<|rlc (.dat Y)<|rlc (.dat Y) rln
  ·
   refine Zf<|K3 0 2 4 Y<|Tr<|Rq Y (Z6 (ov Y) QR (ZW<|Zq arL) arL)<|bE h fun y3 h_y3 h=>Rq Y (Zn (ZfF h_y3)<|.cons (ov Y) (.aggB<|arD fun _ => Y) .nil)<|Rm Y<|Rq Y (Zj (ov Y) Y)<|Rq Y (Zj (ov Y) Y)<|Ra Y<|Ra Y<|Za<|Zg<|K4 0 2 4 10 Y<|Qd (cw := md0) (by kernel_rfl)<|D1 0 Zc Y<|D1 1 Zc Y<|Dq 2 Y (ZA (ov Y) Y Y)<|Dq 3 Y (Zi (ov Y) Y Y Zew)<|Dq 4 Y (Zi (ov Y) Y Y ZdS)<|Dq 5 Y (Zw (ov Y) Y Y Y Zku Y)<|Dq 6 Y (Zc0 (ov Y) Y Y Zaz)<|D1 7 Zc Y<|Dq 8 Y (ZA (ov Y) Y Y)<|Dq 9 Y (Zi (ov Y) Y Y Zon)<|Dq 10 Y (Zw (ov Y) Y Y Y tS3 Y)<|bE h fun y4 h_y4 h=>Dq 11 Y (Zn (ZiQ h_y4)<|.cons (ov Y) (.b Y)<|.cons (ov Y) (.b Y)<|.cons (ov Y) (.b Y) .nil)<|D1 12 Qp Y<|Dd<|Zg<|K5 0 2 4 10 12 Y<|Tr<|Rm Y<|Rq Y (ZA (ov Y) Y Y)<|Rq Y (Zi (ov Y) Y Y Zew)<|Rm Y<|bE h fun y5 h_y5 h=>Rq Y (ZdL (Zhl h_y5) .int<|.cons (ov Y) (View.ptrS (j := 0) (k := 2) Y Y Y (Nat.le_of_ble_eq_true Y)<|.cons (View.ownO Y Y Jn (fun x=>(D26 x).1) ZlK)<|.cons (View.ownM Y Y D105) .nil)<|.cons (ov Y) (Dat.view<|.b Y) .nil)<|Ra Y<|Za<|K6 0 2 4 10 12 13 Y<|Tr<|Rm Y<|R2 Q2 Y<|Za<|K7 0 2 4 10 12 13 52 Y<|If h Y (fun h=>?_) fun h=>?_
   ·
    refine K1 13 Y<|Tr<|Rm Y<|Ra Y<|Ra Y<|Ra Y<|Za<|?_
    obtain rfl := rt h
    exact Zo<|ZbQ [some 0, some 1, some 2, some 3, some 4] Y (.cons (.tmp Y)<|.cons (.tmp Y)<|.cons (.tmp Y) .nil) (.cons Y (ro1 (by exact tZ_102.symm)<|rlc (.own _ Y)<|rlc (.own _ Y)<|rlc (.dat Y)<|rlc (.dat Y)<|rlc (.dat Y)<|rlc (.dat Y)<|rlc (.dat Y) rln)<|.dead<|.dead<|.cons Y (roO Jn)<|.cons Y (roM D105) .nil) Y Y<|Xz<|rlc (.dat Y)<|rlc (.dat Y)<|rlc (.dat Y) rln
   ·
    refine Zf<|K5 0 2 4 10 12 Y<|Tr<|Rq Y (Z6 (ov Y) QR (ZW<|Zq arL) arL)<|bE h fun y6 h_y6 h=>Rq Y (Zn (Zia h_y6)<|.cons (ov Y) (.aggB<|arD fun _ => Y) .nil)<|Rm Y<|Rq Y (Zj (ov Y) Y)<|Rq Y (Zj (ov Y) Y)<|Ra Y<|Ra Y<|Za<|J8 (fun j => (.inr j)) (fun memories spots copies frozen stopped last some_ power2=>⟨[(0, .ptr 0 1 0 0), (2, .int .i64 power2), (10, .int .i64 y3.1)], [some ⟨102, [[.own 3 memories.length, .own 4 spots.length, .int .i64 copies, .bool frozen, .bool stopped, .int .i64 last, .bool some_]]⟩, none, none, some ⟨26, List.map O26 memories⟩, some ⟨105, List.map R105 spots⟩]⟩) h (fun h=>?_) fun memories spots copies frozen stopped last some_ power2 h=>?_
    ·
     refine K5 0 2 10 12 14 Y<|Tr<|Rm Y<|Rl tZ_3 QK Y<|Rm Y<|Za<|Ze<|?_
     obtain ⟨r1, hl1, ho1⟩ := QE h
     refine L9 (fun memories2 spots2 copies2 frozen2 stopped2 last2 some_2 power3 i=>⟨[(0, .ptr 0 1 0 0), (2, .int .i64 power3), (10, .int .i64 y3.1), (14, .sl 5 (List.map R5 y6.1)), (59, .sl 3 (List.map R3 y4)), (60, .int .i64 (y4.length : Int)), (61, .int .i64 i)], [some ⟨102, [[.own 3 memories2.length, .own 4 spots2.length, .int .i64 copies2, .bool frozen2, .bool stopped2, .int .i64 last2, .bool some_2]]⟩, none, none, some ⟨26, List.map O26 memories2⟩, some ⟨105, List.map R105 spots2⟩]⟩) hl1 (ES [some 0, some 1, some 2, some 3, some 4] (hhp := .cons Y (ro1 (by exact tZ_102.symm)<|rlc (.own _ Y)<|rlc (.own _ Y)<|rlc (.dat Y)<|rlc (.dat Y)<|rlc (.dat Y)<|rlc (.dat Y)<|rlc (.dat Y) rln)<|.dead<|.dead<|.cons Y (roO Jn)<|.cons Y (roM D105) .nil)) fun n1 memories2 spots2 copies2 frozen2 stopped2 last2 some_2 power3 i h=>?_
     unfold XM at h
     refine Tr<|R2 ZD Y<|Za<|Zg<|If h Y (fun h=>?_) fun h=>?_
     ·
      refine Zf<|Zg<|Ze<|K7 0 2 10 14 59 60 61 Y<|Tr<|bE h fun x h_x h=>Rq Y (ZS (ov Y) (ov Y) QK h_x)<|Rq Y (Zd (ov Y) tS3 Y)<|Ra Y<|Za<|K8 0 2 10 14 17 59 60 61 Y<|Tr<|Ra Y<|Za<|Zg<|Qd (cw := ⟨true, false, [], [], []⟩) (by kernel_rfl)<|D1 0 Zc Y<|Dq 1 Y (ZA (ov Y) Y Y)<|Dq 2 Y (Zi (ov Y) Y Y Zew)<|D1 3 Zc Y<|D1 4 Zc Y<|D1 5 Zc Y<|Dq 6 Y (ZjN (QD (ov Y) tZ_5) QF<|Zfn _ _)<|D1 7 Zc Y<|Dq 8 Y (ZjN (QD (ov Y) tZ_5) QF<|Zfn _ _)<|bE h fun l h_l h=>Dq 9 Y (Zmy (ov Y) QF (ov Y) (ov Y) h_l)<|D1 10 Zc Y<|bE h fun y7 h_y7 h=>Do 11 Y (ZO [0, 3, 4] (ZdN h_y7) (.cons (ov Y) (.ptr _ _ _ Y)<|.cons (ov Y) (.dat Y)<|.cons (ov Y) (.dat Y)<|.cons (ov Y) (.dat Y) .nil) (.cons Y (ro1 (by exact tZ_102.symm)<|rlc (.own _ Y)<|rlc (.own _ Y)<|rlc (.dat Y)<|rlc (.dat Y)<|rlc (.dat Y)<|rlc (.dat Y)<|rlc (.dat Y) rln)<|.cons Y (roO Jn)<|.cons Y (roM D105) .nil) Y (.lent 0 (.inl Y) Y (ro1 (by exact tZ_102.symm)<|rlc (.own _<|.inr ⟨Nat.le_of_ble_eq_true Y, Y⟩)<|rlc (.own _<|.inr ⟨Nat.le_of_ble_eq_true Y, Y⟩)<|rlc (.dat Y)<|rlc (.dat Y)<|rlc (.dat Y)<|rlc (.dat Y)<|rlc (.dat Y) rln)<|.none<|.none<|.none<|.none<|.lent 3 (.inr ⟨Nat.le_of_ble_eq_true Y, Y⟩) Y (roO Jn)<|.lent 4 (.inr ⟨Nat.le_of_ble_eq_true Y, Y⟩) Y (roM D105) .nil) Y Y<|Xz<|rld Y)<|D1 12 Zc Y<|Dq 13 Y (Zj (ov Y) Y)<|Dq 14 Y (Zj (ov Y) Y)<|D1 15 Qp Y<|D1 16 Qp Y<|Dd<|K8 0 2 10 14 18 59 60 61 Y<|XC [some ⟨102, [[.own 5 y7.2.2.bank.memories.length, .own 6 y7.2.2.bank.spots.length, .int .i64 y7.2.2.copies, .bool y7.2.2.frozen, .bool y7.2.2.stopped, .int .i64 y7.2.2.last, .bool y7.2.2.some_]]⟩, none, none, none, none, some ⟨26, List.map O26 y7.2.2.bank.memories⟩, some ⟨105, List.map R105 y7.2.2.bank.spots⟩] Y<|Tr<|Rm Y<|R1 XN Y<|Za<|K8 0 2 10 14 59 60 61 81 Y<|If h Y (fun h=>?_) fun h=>?_
      ·
       refine K2 0 2 Y<|Tr<|Rm Y<|Rq Y (ZA (ov Y) Y Y)<|Rq Y (Zi (ov Y) Y Y Zmm)<|Rx Y (Zl (ov Y) (ov Y) (Zh tS4) Y Y Y (Nat.le_of_ble_eq_true Y) (Zb Y) Y)<|Za<|K1 2 Y<|XC [some ⟨102, [[.own 5 y7.2.2.bank.memories.length, .own 6 y7.2.2.bank.spots.length, .int .i64 y7.2.2.copies, .bool y7.2.2.frozen, .bool true, .int .i64 y7.2.2.last, .bool y7.2.2.some_]]⟩, none, none, none, none, some ⟨26, List.map O26 y7.2.2.bank.memories⟩, some ⟨105, List.map R105 y7.2.2.bank.spots⟩] Y<|Tr<|Rm Y<|Ra Y<|Ra Y<|Ra Y<|Za<|?_
       replace h := lx h ▸ ho1
       obtain rfl := rt h
       exact Zo<|ZbQ [some 0, some 1, some 2, some 5, some 6] Y (.cons (.tmp Y)<|.cons (.tmp Y)<|.cons (.tmp Y) .nil) (.cons Y (ro1 (by exact tZ_102.symm)<|rlc (.own _ Y)<|rlc (.own _ Y)<|rlc (.dat Y)<|rlc (.dat Y)<|rlc (.dat Y)<|rlc (.dat Y)<|rlc (.dat Y) rln)<|.dead<|.dead<|.cons Y (roO Jn)<|.cons Y (roM D105) .nil) Y Y<|Xz<|rlc (.dat Y)<|rlc (.dat Y)<|rlc (.dat Y) rln
      ·
       exact Zf<|K7 0 2 10 14 59 60 61 Y<|Zp<|R2 ZF Y<|Rm Y<|Za<|⟨_, h, ES [some 0, some 1, some 2, some 5, some 6] (hhp := .cons Y (ro1 (by exact tZ_102.symm)<|rlc (.own _ Y)<|rlc (.own _ Y)<|rlc (.dat Y)<|rlc (.dat Y)<|rlc (.dat Y)<|rlc (.dat Y)<|rlc (.dat Y) rln)<|.dead<|.dead<|.cons Y (roO Jn)<|.cons Y (roM D105) .nil)⟩
     ·
      refine Zz<|?_
      replace h := lx h ▸ ho1
      exact ⟨_, h, ES [some 0, some 1, some 2, some 3, some 4] (hhp := .cons Y (ro1 (by exact tZ_102.symm)<|rlc (.own _ Y)<|rlc (.own _ Y)<|rlc (.dat Y)<|rlc (.dat Y)<|rlc (.dat Y)<|rlc (.dat Y)<|rlc (.dat Y) rln)<|.dead<|.dead<|.cons Y (roO Jn)<|.cons Y (roM D105) .nil)⟩
    ·
     replace h := elr h
     replace h := t8i h
     refine Tr<|Rm Y<|Rm Y<|Rm Y<|Rq Y (ZA (ov Y) Y Y)<|Rq Y (Zi (ov Y) Y Y Zou)<|Rx Y (Zl (ov Y) (ov Y) (Zh tS3) Y Y Y (Nat.le_of_ble_eq_true Y) (Zb Y) Y)<|Rq Y (ZA (ov Y) Y Y)<|Rq Y (Zi (ov Y) Y Y Zoe)<|Rx Y (Zl (ov Y) (ov Y) (Zh tS4) Y Y Y (Nat.le_of_ble_eq_true Y) (Zb Y) Y)<|Za<|K1 2 Y<|XC [some ⟨102, [[.own 3 memories.length, .own 4 spots.length, .int .i64 copies, .bool frozen, .bool stopped, .int .i64 y3.1, .bool true]]⟩, none, none, some ⟨26, List.map O26 memories⟩, some ⟨105, List.map R105 spots⟩] Y<|Tr<|Rm Y<|Ra Y<|Ra Y<|Ra Y<|Za<|?_
     obtain rfl := rt h
     exact Zo<|ZbQ [some 0, some 1, some 2, some 3, some 4] Y (.cons (.tmp Y)<|.cons (.tmp Y)<|.cons (.tmp Y) .nil) (.cons Y (ro1 (by exact tZ_102.symm)<|rlc (.own _ Y)<|rlc (.own _ Y)<|rlc (.dat Y)<|rlc (.dat Y)<|rlc (.dat Y)<|rlc (.dat Y)<|rlc (.dat Y) rln)<|.dead<|.dead<|.cons Y (roO Jn)<|.cons Y (roM D105) .nil) Y Y<|Xz<|rlc (.dat Y)<|rlc (.dat Y)<|rlc (.dat Y) rln
theorem ZiS {l : List api_Memory} {r : (List api_Memory)} (h : JA l = some r) :
 CSpec Tryz.prog gl0 63 [.sl 26 (List.map R26 l)] (.sl 26 (List.map R26 r)) := by
 unfold JA at h
 replace h := Qk h
 refine So Tryz.func63 Y fun w0 A=>Tr<|Ra Y<|Za<|K1 0 Y<|Tr<|Ra Y<|Za<|I1 (fun out=>⟨[(3, .own 0 out.length)], [some ⟨26, List.map O26 out⟩]⟩) h (fun h=>?_) fun out h=>?_
 ·
  refine Tr<|Rm Y<|Rl tZ_26 Zaz Y<|Rm Y<|Za<|Ze<|?_
  obtain ⟨r1, hl1, ho1⟩ := QE h
  refine L2 (fun out2 i=>⟨[(3, .own 0 out2.length), (6, .sl 26 (List.map R26 l)), (7, .int .i64 (l.length : Int)), (8, .int .i64 i)], [some ⟨26, List.map O26 out2⟩]⟩) hl1 (ES [none]) fun n1 out2 i h=>?_
  unfold Zan at h
  refine Tr<|R2 ZD Y<|Za<|Zg<|If h Y (fun h=>?_) fun h=>?_
  ·
   exact Zf<|Zg<|Ze<|K4 3 6 7 8 Y<|Tr<|bE h fun x h_x h=>Rq Y (ZS (ov Y) (ov Y) Zaz h_x)<|Rq Y (Z6 (ov Y) X5 Y Y)<|Rx Y (Z3 (row := [_, _, _, _, _]) 1 Y Zdx Y tZ_26)<|Rx Y (Zl (ov Y) (ov Y) (Zv X5 Y) Y Y Y (Nat.le_of_ble_eq_true Y) (Zb Y) Y)<|Za<|K5 3 5 6 7 8 Y<|XC [some ⟨26, List.map O26 out2⟩, some ⟨26, [[.int .i64 x.Slots, .int .i64 x.Limit, .sl 49 (List.map R49 x.Sectors), .sl 3 (List.map R3 x.Wear), .sl 4 (List.map R4 x.Bad)]]⟩] Y<|Zp<|Rm Y<|Rq Y (Qe (ov Y) Y Y Y X5 Y Y)<|bE h fun y h_y h=>Rx Y (ZO [] (Zdr h_y) (.cons (ov Y) (ZfQ<|rld Y) .nil) .nil Y (.keep Y Y<|.keep Y Y<|.lent 0 (.inr ⟨Nat.le_of_ble_eq_true Y, Y⟩) Y (roO Jm)<|.lent 1 (.inr ⟨Nat.le_of_ble_eq_true Y, Y⟩) Y (roM D3)<|.lent 2 (.inr ⟨Nat.le_of_ble_eq_true Y, Y⟩) Y (roM D4) .nil) Y Y<|ZfQ<|rlc (.dat Y)<|rlc (.dat Y)<|rlc (.own _<|.inr ⟨Nat.le_of_ble_eq_true Y, Y⟩)<|rlc (.own _<|.inr ⟨Nat.le_of_ble_eq_true Y, Y⟩)<|rlc (.own _<|.inr ⟨Nat.le_of_ble_eq_true Y, Y⟩) rln)<|Rx Y (QW (r := 5) Y Zaz (.cons (cva<|ov Y) Y .nil) Y Y)<|bE h fun l2 h_l2 h=>Rx Y (ZV (f := O26) (ov Y) (Qr (o := ⟨26, [[.int .i64 y.Slots, .int .i64 y.Limit, .own 2 y.Sectors.length, .own 3 y.Wear.length, .own 4 y.Bad.length]]⟩) (ov Y) Y Y tZ_26) Zaz Y Y (Zb Y) Y h_l2)<|Ra Y<|ZfY [some ⟨26, List.set (List.map O26 l2) out2.length [.int .i64 y.Slots, .int .i64 y.Limit, .own 2 y.Sectors.length, .own 3 y.Wear.length, .own 4 y.Bad.length]⟩, some ⟨26, [[.int .i64 x.Slots, .int .i64 x.Limit, .sl 49 (List.map R49 x.Sectors), .sl 3 (List.map R3 x.Wear), .sl 4 (List.map R4 x.Bad)]]⟩, some ⟨49, List.map O49 y.Sectors⟩, some ⟨3, List.map R3 y.Wear⟩, some ⟨4, List.map R4 y.Bad⟩, some ⟨26, [[.int .i64 y.Slots, .int .i64 y.Limit, .own 2 y.Sectors.length, .own 3 y.Wear.length, .own 4 y.Bad.length]]⟩] Y<|Xn (Ent.absorbH (r := 0) (j := 2) (q := 2) Y (Zr h_l2) Y Y (List.length_map ..) Y)<|Xn (Ent.absorbH (r := 0) (j := 3) (q := 3) Y (Zr h_l2) Y Y (List.length_map ..) Y)<|Xn (Ent.absorbH (r := 0) (j := 4) (q := 4) Y (Zr h_l2) Y Y (List.length_map ..) Y)<|Xn (Ent.closeS (r := 0) Y (Zr h_l2) Y)<|Za<|K4 3 6 7 8 Y<|XC [some ⟨26, List.map O26 l2⟩, some ⟨26, [[.int .i64 x.Slots, .int .i64 x.Limit, .sl 49 (List.map R49 x.Sectors), .sl 3 (List.map R3 x.Wear), .sl 4 (List.map R4 x.Bad)]]⟩, none, none, none, some ⟨26, [[.int .i64 y.Slots, .int .i64 y.Limit, .own 2 y.Sectors.length, .own 3 y.Wear.length, .own 4 y.Bad.length]]⟩] Y<|Zp<|R2 ZF Y<|Rm Y<|Za<|⟨_, h, ES [some 0] (hhp := .cons Y (roO Jn) .nil)⟩
  ·
   refine Zz<|?_
   replace h := lx h ▸ ho1
   exact ⟨_, h, ES [some 0] (hhp := .cons Y (roO Jn) .nil)⟩
 ·
  refine Tr<|Rm Y<|Ra Y<|Za<|?_
  obtain rfl := rt h
  exact Zo (ZG Y (.one<|.tmp Y<|View.ownO Y Y Jn (fun x=>(D26 x).1) ZlK))
end Go.Proofs.YtnlmjeleocelgaaGreatDoor
