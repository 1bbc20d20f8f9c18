/- A text of the proof: a verified executor of the program form, or the contracts of the functions that the law reaches. -/
import Derived.Test.YtailpehcgelmdaaGreatDoorOkAb
set_option linter.all false
namespace Go.Proofs.YtailpehcgelmdaaGreatDoor
open Go Go.Vx
set_option maxRecDepth 10000
set_option maxHeartbeats 1000000
set_option linter.unusedVariables false
theorem Zgo {s : api_Series} {r : Int} (h : ZcI s = some r) :
 CSpec Tryz.prog gl0 132 [.agg [.int .i64 s.Den, .sl 56 (List.map R56 s.Samples)]] (.int .i64 r) := by
 unfold ZcI at h
 replace h := ZP h
 refine So Tryz.func132 Y fun w0 A=>Tr<|Rq Y (ZB (cva<|ov Y) Y tZ_52 Y)<|Ra Y<|Za<|K1 1 Y<|Tr<|Rq Y (Zi (ov Y) Zju Y Y)<|bE h fun y h_y h=>Rq Y (Zj (ZjB h_y)<|.cons (ov Y) (.aggB Y) .nil)<|Rm Y<|Rq Y (Zu (ov Y) Y)<|Rq Y (Zu (ov Y) Y)<|Ra Y<|Ra Y<|Za<|K1 4 Y<|Tr<|Rm Y<|Ra Y<|Za<|?_
 obtain rfl := rt h
 exact Zg (Zo Y (.one<|rb Y))
theorem Zip {n : Int} {low : Int} {high : Int} {r : Bool} (h : Zdj n low high = some r) :
 CSpec Tryz.prog gl0 133 [.int .i64 n, .int .i64 low, .int .i64 high] (.bool r) := by
 unfold Zdj at h
 replace h := ZP h
 refine So Tryz.func133 Y fun w0 A=>Tr<|Ra Y<|Za<|Tr<|Rm Y<|Rm Y<|R2 Z8 Y<|Rm Y<|Rq Y (.guarded ((decide (n < low)) == false) Y Y Y Y fun h => Zh<|ov Y)<|Rq Y (.guarded ((decide (n < low)) == false) Y Y Y Y fun h => Zh<|ov Y)<|Rq Y (.guarded ((decide (n < low)) == false) Y Y Y Y fun h => QP (ow Y h)<|ow Y h)<|Rq Y (QR (ov Y) fun hp=>ow Y<|gF hp)<|Ra Y<|Za<|?_
 obtain rfl := rt h
 exact Zg (Zo Y (.one<|rb Y))
theorem Zgc {l : List api_Track} {r : Int} (h : Zae l = some r) :
 CSpec Tryz.prog gl0 93 [.sl 54 (List.map R54 l)] (.int .i64 r) := by
 unfold Zae at h
 replace h := ZP h
 refine So Tryz.func93 Y fun w0 A=>Tr<|Ra Y<|Za<|Zl<|K1 0 Y<|Tr<|Rm Y<|Rl tZ_54 Zdl Y<|R2 QP Y<|Za<|K2 0 8 Y<|If h Y (fun h=>?_) fun h=>?_
 ·
  refine K0<|Tr<|Ra Y<|Za<|?_
  obtain rfl := rt h
  exact Zg (Zo Y (.one<|rb Y))
 ·
  refine Ze<|J0 (fun j => (.inr j)) ⟨[], []⟩ h (fun h=>?_) fun h=>?_
  ·
   refine K1 0 Y<|Tr<|Ra Y<|Za<|Zm<|?_
   obtain ⟨r1, hl1, ho1⟩ := Xt h
   refine L1 (fun i=>⟨[(0, .sl 54 (List.map R54 l)), (3, .int .i64 i)], []⟩) hl1 (ES []) fun n1 i h=>?_
   unfold Xj at h
   refine Zl<|Tr<|Rm Y<|Rm Y<|Rl tZ_54 Zdl Y<|R2 Z8 Y<|Za<|K3 0 3 12 Y<|If h Y (fun h=>?_) fun h=>?_
   ·
    refine Ze<|Zl<|Zm<|Zl<|K2 0 3 Y<|Tr<|Rm Y<|Rm Y<|bE h fun x h_x h=>Rq Y (ZJ (ov Y) (ov Y) Zdl h_x)<|Rq Y (Zc (ov Y) ZfM)<|Rq Y (Zb (ov Y) tS9 Y)<|bE h fun y h_y h=>Rq Y (Zj (Zjc h_y)<|.cons (ov Y) (.b Y) .nil)<|R1 Qe Y<|Za<|K3 0 3 21 Y<|If h Y (fun h=>?_) fun h=>?_
    ·
     refine K0<|Tr<|Ra Y<|Za<|?_
     replace h := lx h ▸ ho1
     obtain rfl := rt h
     exact Zg (Zo Y (.one<|rb Y))
    ·
     refine Ze<|J0 (fun j => (.inr j)) ⟨[(0, .sl 54 (List.map R54 l)), (3, .int .i64 i)], []⟩ h (fun h=>?_) fun h=>?_
     ·
      refine K2 0 3 Y<|Tr<|Ra Y<|Za<|Zm<|?_
      obtain ⟨r2, hl2, ho2⟩ := Xt h
      refine L1 (fun k=>⟨[(0, .sl 54 (List.map R54 l)), (3, .int .i64 i), (4, .int .i64 k)], []⟩) hl2 (ES []) fun n2 k h=>?_
      unfold QO at h
      refine Zl<|Tr<|Rm Y<|Rm Y<|R2 Z8 Y<|Za<|K4 0 3 4 24 Y<|If h Y (fun h=>?_) fun h=>?_
      ·
       refine Ze<|Zl<|Zm<|K3 0 3 4 Y<|Td md0<|D1 0 Zh Y<|D1 1 Zh Y<|bE h fun x2 h_x2 h=>Dq 2 Y (ZJ (ov Y) (ov Y) Zdl h_x2)<|Dq 3 Y (Zc (ov Y) ZfM)<|Dq 4 Y (Zb (ov Y) tS9 Y)<|D1 5 Zh Y<|D1 6 Zh Y<|bE h fun x3 h_x3 h=>Dq 7 Y (ZJ (ov Y) (ov Y) Zdl h_x3)<|Dq 8 Y (Zc (ov Y) ZfM)<|Dq 9 Y (Zb (ov Y) tS9 Y)<|D2 10 Qk Y<|Dd<|K4 0 3 4 37 Y<|If h Y (fun h=>?_) fun h=>?_
       ·
        refine K0<|Tr<|Ra Y<|Za<|?_
        replace h := lx h ▸ ho2
        replace h := lx h ▸ ho1
        obtain rfl := rt h
        exact Zg (Zo Y (.one<|rb Y))
       ·
        exact Ze<|K3 0 3 4 Y<|Zx<|Rm Y<|R2 QG Y<|Ra Y<|Za<|⟨_, h, ES []⟩
      ·
       refine ZM<|?_
       replace h := lx h ▸ ho2
       exact ⟨(), h, ES []⟩
     ·
      replace h := elr h
      replace h := t0i h
      refine Zl<|Tr<|Rm Y<|Rm Y<|bE h fun x4 h_x4 h=>Rq Y (ZJ (ov Y) (ov Y) Zdl h_x4)<|Rq Y (Zc (ov Y) ZfE)<|Rq Y (Zi (ov Y) Zju Y Y)<|bE h fun y2 h_y2 h=>Rq Y (Zj (Zgo h_y2)<|.cons (ov Y) (.aggB Y) .nil)<|Ra Y<|Za<|K3 0 3 5 Y<|Tr<|Rm Y<|R2 Z0 Y<|Za<|K4 0 3 5 45 Y<|If h Y (fun h=>?_) fun h=>?_
      ·
       refine K1 5 Y<|Tr<|Rm Y<|Ra Y<|Za<|?_
       replace h := lx h ▸ ho1
       obtain rfl := rt h
       exact Zg (Zo Y (.one<|rb Y))
      ·
       refine Ze<|K2 0 3 Y<|Tr<|Rm Y<|Rm Y<|bE h fun x5 h_x5 h=>Rq Y (ZJ (ov Y) (ov Y) Zdl h_x5)<|Rq Y (Zc (ov Y) Zj9)<|Rq Y (Zb (ov Y) tS3 Y)<|bE h fun y3 h_y3 h=>Rq Y (Zj (Zip h_y3)<|.cons (ov Y) (.b Y)<|.cons (ov Y) (.b Y)<|.cons (ov Y) (.b Y) .nil)<|Za<|K3 0 3 52 Y<|If h Y (fun h=>?_) fun h=>?_
       ·
        refine K0<|Tr<|Ra Y<|Za<|?_
        replace h := lx h ▸ ho1
        obtain rfl := rt h
        exact Zg (Zo Y (.one<|rb Y))
       ·
        exact Ze<|K2 0 3 Y<|Zx<|Rm Y<|R2 QG Y<|Ra Y<|Za<|⟨_, h, ES []⟩
   ·
    refine ZM<|?_
    replace h := lx h ▸ ho1
    exact ⟨(), h, ES []⟩
  ·
   replace h := elr h
   replace h := t0i h
   refine Tr<|Ra Y<|Za<|?_
   obtain rfl := rt h
   exact Zg (Zo Y (.one<|rb Y))
theorem Zd6 {l : List api_Track} {name : Str} {r : api_Track × Bool} (h : JO l name = some r) :
 CSpec Tryz.prog gl0 94 [.sl 54 (List.map R54 l), .str name] (.tuple [.agg [.str r.1.Name, .int .i64 r.1.Series.Den, .sl 56 (List.map R56 r.1.Series.Samples), .int .i64 r.1.Long], .bool r.2]) := by
 unfold JO at h
 replace h := ZP h
 refine So Tryz.func94 Y fun w0 A=>Tr<|Rx Y (ZC (row := [_, _, _, _]) 0 Y Zkr Y tZ_54)<|Ra Y<|Za<|J0 (fun j => (.inr j)) ⟨[(4, .ptr 0 1 0 0)], [some ⟨54, [[.str [], .int .i64 0, .nils, .int .i64 0]]⟩]⟩ h (fun h=>?_) fun h=>?_
 ·
  refine K3 0 1 4 Y<|Tr<|Rm Y<|Rl tZ_54 Zdl Y<|Rm Y<|Za<|Zm<|?_
  obtain ⟨r1, hl1, ho1⟩ := Xt h
  refine L1 (fun i=>⟨[(1, .str name), (4, .ptr 0 1 0 0), (8, .sl 54 (List.map R54 l)), (9, .int .i64 (l.length : Int)), (10, .int .i64 i)], [some ⟨54, [[.str [], .int .i64 0, .nils, .int .i64 0]]⟩]⟩) hl1 (ES [some 0]) fun n1 i h=>?_
  unfold ZaN at h
  refine Tr<|R2 Z8 Y<|Za<|Zl<|If h Y (fun h=>?_) fun h=>?_
  ·
   refine Ze<|Zl<|Zm<|K5 1 4 8 9 10 Y<|Tr<|bE h fun x h_x h=>Rq Y (ZJ (ov Y) (ov Y) Zdl h_x)<|Rq Y (Zi (ov Y) ZeQ Y Y)<|Rx Y (ZC (row := [_, _, _, _]) 1 Y Zkr Y tZ_54)<|Rx Y (Zk (ov Y) (ov Y) (Zn ZeQ Y) Y Y Y (Nat.le_of_ble_eq_true Y) (Zd Y) Y)<|Za<|K6 1 4 7 8 9 10 Y<|Tr<|Rq Y (Zf (ov Y) Y Y ZfM)<|Rq Y (Zt (ov Y) Y Y Y tS9 Y)<|Rm Y<|R2 Qk Y<|Za<|K7 1 4 7 8 9 10 17 Y<|If h Y (fun h=>?_) fun h=>?_
   ·
    refine K2 4 7 Y<|Tr<|Rq Y (ZW (ov Y) Y Y Y ZeQ Y Y)<|Rx Y (Zk (ov Y) (ov Y) (Zn ZeQ Y) Y Y Y (Nat.le_of_ble_eq_true Y) (Zd Y) Y)<|Ra Y<|Za<|?_
    replace h := lx h ▸ ho1
    obtain rfl := rt h
    exact Zg (Zo Y (.two (.agg Y Y Y Y ZeQ Y Y<|pwB Y)<|rb Y))
   ·
    exact Ze<|K5 1 4 8 9 10 Y<|Zx<|R2 QG Y<|Rm Y<|Za<|⟨_, h, ES [some 0]⟩
  ·
   refine ZM<|?_
   replace h := lx h ▸ ho1
   exact ⟨(), h, ES [some 0]⟩
 ·
  replace h := elr h
  replace h := t0i h
  refine Tr<|Rq Y (QM (ys := [_, _, _, _]) Zn6 Zn1 Zkr .nil Y)<|Rx Y (Zk (ov Y) (ov Y) (Zn ZeQ Y) Y Y Y (Nat.le_of_ble_eq_true Y) (Zd Y) Y)<|Ra Y<|Za<|?_
  obtain rfl := rt h
  exact Zg (Zo Y (.two (.agg Y Y Y Y ZeQ Y Y<|.cons (Dat.view<|.b Y)<|.cons (Dat.view<|.b Y)<|.cons (View.nils 56)<|.cons (Dat.view<|.b Y) .nil)<|rb Y))
theorem Zgh {p : api_Panel} {l : List api_Track} {r : Int} (h : Zcr p l = some r) :
 CSpec Tryz.prog gl0 51 [.agg [.sl 49 (List.map R49 p.Instruments)], .sl 54 (List.map R54 l)] (.int .i64 r) := by
 unfold Zcr at h
 replace h := ZP h
 refine So Tryz.func51 Y fun w0 A=>Tr<|Rq Y (ZB (cva<|ov Y) Y tZ_24 Y)<|Ra Y<|Za<|Zl<|K2 1 2 Y<|Tr<|Rq Y (Zi (ov Y) ZaH Y Y)<|bE h fun y h_y h=>Rq Y (Zj (Zej h_y)<|.cons (ov Y) (.aggB Y) .nil)<|Ra Y<|Za<|K3 1 2 5 Y<|Tr<|Rm Y<|R2 Z0 Y<|Za<|K4 1 2 5 14 Y<|If h Y (fun h=>?_) fun h=>?_
 ·
  refine K1 5 Y<|Tr<|Rm Y<|Ra Y<|Za<|?_
  obtain rfl := rt h
  exact Zg (Zo Y (.one<|rb Y))
 ·
  refine Ze<|Zl<|K2 1 2 Y<|Tr<|Rm Y<|bE h fun y2 h_y2 h=>Rq Y (Zj (Zgc h_y2)<|.cons (ov Y) (.b Y) .nil)<|Ra Y<|Za<|K3 1 2 6 Y<|Tr<|Rm Y<|R2 Z0 Y<|Za<|K4 1 2 6 19 Y<|If h Y (fun h=>?_) fun h=>?_
  ·
   refine K1 6 Y<|Tr<|Rm Y<|Ra Y<|Za<|?_
   obtain rfl := rt h
   exact Zg (Zo Y (.one<|rb Y))
  ·
   refine Ze<|J0 (fun j => (.inr j)) ⟨[], []⟩ h (fun h=>?_) fun h=>?_
   ·
    refine K2 1 2 Y<|Tr<|Rq Y (Zc (ov Y) XO)<|Rq Y (Zb (ov Y) ZcQ Y)<|Rl tZ_49 Zar Y<|Rm Y<|Za<|Zm<|?_
    obtain ⟨r1, hl1, ho1⟩ := Xt h
    refine L1 (fun i=>⟨[(1, .sl 54 (List.map R54 l)), (22, .sl 49 (List.map R49 p.Instruments)), (23, .int .i64 (p.Instruments.length : Int)), (24, .int .i64 i)], []⟩) hl1 (ES []) fun n1 i h=>?_
    unfold ZaR at h
    refine Tr<|R2 Z8 Y<|Za<|Zl<|If h Y (fun h=>?_) fun h=>?_
    ·
     refine Ze<|Zl<|Zm<|K4 1 22 23 24 Y<|Tr<|bE h fun x h_x h=>Rq Y (ZJ (ov Y) (ov Y) Zar h_x)<|Rq Y (Zi (ov Y) Zaf Y Y)<|Rx Y (ZC (row := [_, _, _, _, _, _, _, _, _, _, _, _]) 0 Y Zjy Y tZ_49)<|Rx Y (Zk (ov Y) (ov Y) (Zn Zaf Y) Y Y Y (Nat.le_of_ble_eq_true Y) (Zd Y) Y)<|Za<|K5 1 8 22 23 24 Y<|Tr<|Rm Y<|Rq Y (Zf (ov Y) Y Y ZgB)<|Rq Y (Zt (ov Y) Y Y Y tS9 Y)<|bE h fun y3 h_y3 h=>Rq Y (Zj (Zd6 h_y3)<|.cons (ov Y) (.b Y)<|.cons (ov Y) (.b Y) .nil)<|Rm Y<|Rq Y (Zu (ov Y) Y)<|Rq Y (Zu (ov Y) Y)<|Rx Y (ZC (row := [_, _, _, _]) 1 Y Zkr Y tZ_54)<|Rx Y (Zk (ov Y) (ov Y) (Zn ZeQ Y) Y Y Y (Nat.le_of_ble_eq_true Y) (Zd Y) Y)<|Ra Y<|Za<|K5 1 10 22 23 24 Y<|Tr<|Rm Y<|R1 Qe Y<|Za<|K5 1 22 23 24 36 Y<|If h Y (fun h=>?_) fun h=>?_
     ·
      refine K0<|Tr<|Ra Y<|Za<|?_
      replace h := lx h ▸ ho1
      obtain rfl := rt h
      exact Zg (Zo Y (.one<|rb Y))
     ·
      exact Ze<|K4 1 22 23 24 Y<|Zx<|R2 QG Y<|Rm Y<|Za<|⟨_, h, ES []⟩
    ·
     refine ZM<|?_
     replace h := lx h ▸ ho1
     exact ⟨(), h, ES []⟩
   ·
    replace h := elr h
    replace h := t0i h
    refine Tr<|Ra Y<|Za<|?_
    obtain rfl := rt h
    exact Zg (Zo Y (.one<|rb Y))
theorem Zhk {i : api_Instrument} {m : api_Memo} {r : Int} (h : Za6 i m = some r) :
 CSpec Tryz.prog gl0 55 [.agg [.int .i64 i.Kind, .str i.Name, .str i.Track, .int .i64 i.Places, .int .i64 i.Low, .int .i64 i.High, .int .i64 i.Steps, .sl 136 (List.map R136 i.Zones), .int .i64 i.Op, .int .i64 i.N, .bool i.Latch, .int .i64 i.Size], .agg [.bool m.Lit, .bool m.Some, .int .i64 m.N, .int .i64 m.Count, .sl 3 (List.map R3 m.Tape)]] (.int .i64 r) := by
 unfold Za6 at h
 replace h := ZP h
 refine So Tryz.func55 Y fun w0 A=>Tr<|Rq Y (ZB (cva<|ov Y) Y tZ_49 Y)<|Rq Y (ZB (cva<|ov Y) Y tZ_99 Y)<|Ra Y<|Za<|K2 2 3 Y<|Tr<|Rq Y (Zc (ov Y) Q5)<|Rq Y (Zb (ov Y) tS3 Y)<|Ra Y<|Za<|Zl<|K3 2 3 5 Y<|Tr<|Rq Y (Zc (ov Y) Jr)<|Rq Y (Zb (ov Y) tS4 Y)<|Rm Y<|Rq Y (.guarded (m.Lit == true) Y Y Y Y fun h => Zh<|ov Y)<|R_q (.when (m.Lit == true)<|.sl 3<|List.map R3 ([3, 5] : List Int)) Y (.guarded (m.Lit == true) Y Y Y Y fun h => Jm Jl (.cons (cvs (ov Y)<|ZF Y) Y (.cons (.b Y) .nil)<|.cons (cvs (ov Y)<|ZF Y) Y (.cons (.b Y) .nil) .nil) Y Y)<|bE h fun y h_y h=>Rq Y (.guarded (m.Lit == true) Y Y Y Y fun h => Zj (Zfu<|gdT h_y h)<|.cons (ow Y h) (.b Y)<|.cons (ow Y h) (.b Y) .nil)<|Rq Y (.guarded (m.Lit == true) Y Y Y Y fun h => Qe<|ow Y h)<|Rq Y (Z3 (ov Y) fun hp=>ow Y<|gT hp)<|Rm Y<|Rq Y (.guarded ((m.Lit && (!y)) == false) Y Y Y Y fun h => Zc (ov Y) Zcu)<|Rq Y (.guarded ((m.Lit && (!y)) == false) Y Y Y Y fun h => Zb (ow Y h) tS4 Y)<|Rq Y (.guarded ((m.Lit && (!y)) == false) Y Y Y Y fun h => Zh<|ow Y h)<|Rq Y (.guarded2 (((m.Lit && (!y)) == false) && (m.Some == true)) Y Y Y Y fun h => Zh<|ov Y)<|Rq Y (.guarded2 (((m.Lit && (!y)) == false) && (m.Some == true)) Y Y Y Y fun h => Z0 (ow Y h)<|ov Y)<|Rq Y (.guarded ((m.Lit && (!y)) == false) Y Y Y Y fun h => Z3 (ow Y h) fun hp=>ow Y<|gA h<|gT hp)<|Rq Y (QR (ov Y) fun hp=>ow Y<|gF hp)<|Rm Y<|Rq Y (.guarded (((m.Lit && (!y)) || (m.Some && (!decide (i.Kind = 4)))) == false) Y Y Y Y fun h => Zc (ov Y) ZcJ)<|Rq Y (.guarded (((m.Lit && (!y)) || (m.Some && (!decide (i.Kind = 4)))) == false) Y Y Y Y fun h => Zb (ow Y h) tS3 Y)<|Rq Y (.guarded (((m.Lit && (!y)) || (m.Some && (!decide (i.Kind = 4)))) == false) Y Y Y Y fun h => Z0 (ow Y h)<|ov Y)<|Rq Y (.guarded (((m.Lit && (!y)) || (m.Some && (!decide (i.Kind = 4)))) == false) Y Y Y Y fun h => Zh<|ow Y h)<|Rq Y (.guarded2 ((((m.Lit && (!y)) || (m.Some && (!decide (i.Kind = 4)))) == false) && ((!decide (m.N = 0)) == true)) Y Y Y Y fun h => Zc (ov Y) Zcu)<|Rq Y (.guarded2 ((((m.Lit && (!y)) || (m.Some && (!decide (i.Kind = 4)))) == false) && ((!decide (m.N = 0)) == true)) Y Y Y Y fun h => Zb (ow Y h) tS4 Y)<|Rq Y (.guarded2 ((((m.Lit && (!y)) || (m.Some && (!decide (i.Kind = 4)))) == false) && ((!decide (m.N = 0)) == true)) Y Y Y Y fun h => Qe<|ow Y h)<|Rq Y (.guarded (((m.Lit && (!y)) || (m.Some && (!decide (i.Kind = 4)))) == false) Y Y Y Y fun h => Z3 (ow Y h) fun hp=>ow Y<|gA h<|gT hp)<|Rq Y (QR (ov Y) fun hp=>ow Y<|gF hp)<|Rm Y<|Rq Y (.guarded ((((m.Lit && (!y)) || (m.Some && (!decide (i.Kind = 4)))) || ((!decide (m.N = 0)) && (!m.Some))) == false) Y Y Y Y fun h => Zc (ov Y) Zda)<|Rq Y (.guarded ((((m.Lit && (!y)) || (m.Some && (!decide (i.Kind = 4)))) || ((!decide (m.N = 0)) && (!m.Some))) == false) Y Y Y Y fun h => Zb (ow Y h) tS3 Y)<|Rq Y (.guarded ((((m.Lit && (!y)) || (m.Some && (!decide (i.Kind = 4)))) || ((!decide (m.N = 0)) && (!m.Some))) == false) Y Y Y Y fun h => Z0 (ow Y h)<|ov Y)<|Rq Y (.guarded ((((m.Lit && (!y)) || (m.Some && (!decide (i.Kind = 4)))) || ((!decide (m.N = 0)) && (!m.Some))) == false) Y Y Y Y fun h => Zh<|ow Y h)<|Rq Y (.guarded2 (((((m.Lit && (!y)) || (m.Some && (!decide (i.Kind = 4)))) || ((!decide (m.N = 0)) && (!m.Some))) == false) && ((!decide (m.Count = 0)) == true)) Y Y Y Y fun h => Zh<|ov Y)<|Rq Y (.guarded2 (((((m.Lit && (!y)) || (m.Some && (!decide (i.Kind = 4)))) || ((!decide (m.N = 0)) && (!m.Some))) == false) && ((!decide (m.Count = 0)) == true)) Y Y Y Y fun h => Z0 (ow Y h)<|ov Y)<|Rq Y (.guarded ((((m.Lit && (!y)) || (m.Some && (!decide (i.Kind = 4)))) || ((!decide (m.N = 0)) && (!m.Some))) == false) Y Y Y Y fun h => Z3 (ow Y h) fun hp=>ow Y<|gA h<|gT hp)<|Rq Y (QR (ov Y) fun hp=>ow Y<|gF hp)<|Rm Y<|Rq Y (.guarded (((((m.Lit && (!y)) || (m.Some && (!decide (i.Kind = 4)))) || ((!decide (m.N = 0)) && (!m.Some))) || ((!decide (m.Count = 0)) && (!decide (i.Kind = 5)))) == false) Y Y Y Y fun h => Zc (ov Y) X0)<|Rq Y (.guarded (((((m.Lit && (!y)) || (m.Some && (!decide (i.Kind = 4)))) || ((!decide (m.N = 0)) && (!m.Some))) || ((!decide (m.Count = 0)) && (!decide (i.Kind = 5)))) == false) Y Y Y Y fun h => Zb (ow Y h) Zdd Y)<|Rq Y (.guarded (((((m.Lit && (!y)) || (m.Some && (!decide (i.Kind = 4)))) || ((!decide (m.N = 0)) && (!m.Some))) || ((!decide (m.Count = 0)) && (!decide (i.Kind = 5)))) == false) Y Y Y Y fun h => Zj3 (Jg (ow Y h) tZ_3) Jl<|Zf3 _ _)<|Rq Y (.guarded (((((m.Lit && (!y)) || (m.Some && (!decide (i.Kind = 4)))) || ((!decide (m.N = 0)) && (!m.Some))) || ((!decide (m.Count = 0)) && (!decide (i.Kind = 5)))) == false) Y Y Y Y fun h => QP (ow Y h)<|ov Y)<|Rq Y (.guarded (((((m.Lit && (!y)) || (m.Some && (!decide (i.Kind = 4)))) || ((!decide (m.N = 0)) && (!m.Some))) || ((!decide (m.Count = 0)) && (!decide (i.Kind = 5)))) == false) Y Y Y Y fun h => Zh<|ow Y h)<|Rq Y (.guarded2 ((((((m.Lit && (!y)) || (m.Some && (!decide (i.Kind = 4)))) || ((!decide (m.N = 0)) && (!m.Some))) || ((!decide (m.Count = 0)) && (!decide (i.Kind = 5)))) == false) && ((decide (0 < (m.Tape.length : Int))) == true)) Y Y Y Y fun h => Zh<|ov Y)<|Rq Y (.guarded2 ((((((m.Lit && (!y)) || (m.Some && (!decide (i.Kind = 4)))) || ((!decide (m.N = 0)) && (!m.Some))) || ((!decide (m.Count = 0)) && (!decide (i.Kind = 5)))) == false) && ((decide (0 < (m.Tape.length : Int))) == true)) Y Y Y Y fun h => Z0 (ow Y h)<|ov Y)<|Rq Y (.guarded (((((m.Lit && (!y)) || (m.Some && (!decide (i.Kind = 4)))) || ((!decide (m.N = 0)) && (!m.Some))) || ((!decide (m.Count = 0)) && (!decide (i.Kind = 5)))) == false) Y Y Y Y fun h => Z3 (ow Y h) fun hp=>ow Y<|gA h<|gT hp)<|Rq Y (QR (ov Y) fun hp=>ow Y<|gF hp)<|Za<|K3 2 3 54 Y<|If h Y (fun h=>?_) fun h=>?_
 ·
  refine K0<|Tr<|Ra Y<|Za<|?_
  obtain rfl := rt h
  exact Zg (Zo Y (.one<|rb Y))
 ·
  refine Ze<|Zl<|K2 2 3 Y<|Tr<|Rq Y (Zc (ov Y) Zda)<|Rq Y (Zb (ov Y) tS3 Y)<|bE h fun y2 h_y2 h=>Rq Y (Zj (Qn h_y2)<|.cons (ov Y) (.b Y)<|.cons (ov Y) (.b Y)<|.cons (ov Y) (.b Y) .nil)<|Za<|K3 2 3 57 Y<|If h Y (fun h=>?_) fun h=>?_
  ·
   refine K0<|Tr<|Ra Y<|Za<|?_
   obtain rfl := rt h
   exact Zg (Zo Y (.one<|rb Y))
  ·
   refine Ze<|Zl<|K2 2 3 Y<|Tr<|Rq Y (Zc (ov Y) X0)<|Rq Y (Zb (ov Y) Zdd Y)<|Rl tZ_3 Jl Y<|Rq Y (Zc (ov Y) Zd1)<|Rq Y (Zb (ov Y) tS3 Y)<|R2 QP Y<|Za<|K2 3 63 Y<|If h Y (fun h=>?_) fun h=>?_
   ·
    refine K0<|Tr<|Ra Y<|Za<|?_
    obtain rfl := rt h
    exact Zg (Zo Y (.one<|rb Y))
   ·
    refine Ze<|Zl<|K1 3 Y<|Tr<|Rq Y (Zc (ov Y) ZcJ)<|Rq Y (Zb (ov Y) tS3 Y)<|bE h fun y3 h_y3 h=>Rq Y (Zj (Qn h_y3)<|.cons (ov Y) (.b Y)<|.cons (ov Y) (.b Y)<|.cons (ov Y) (.b Y) .nil)<|Za<|K2 3 66 Y<|If h Y (fun h=>?_) fun h=>?_
    ·
     refine K0<|Tr<|Ra Y<|Za<|?_
     obtain rfl := rt h
     exact Zg (Zo Y (.one<|rb Y))
    ·
     refine Ze<|J0 (fun j => (.inr j)) ⟨[], []⟩ h (fun h=>?_) fun h=>?_
     ·
      refine K1 3 Y<|Tr<|Rq Y (Zc (ov Y) X0)<|Rq Y (Zb (ov Y) Zdd Y)<|Rl tZ_3 Jl Y<|Rm Y<|Za<|Zm<|?_
      obtain ⟨r1, hl1, ho1⟩ := Xt h
      refine L1 (fun i2=>⟨[(68, .sl 3 (List.map R3 m.Tape)), (69, .int .i64 (m.Tape.length : Int)), (70, .int .i64 i2)], []⟩) hl1 (ES []) fun n1 i2 h=>?_
      unfold XU at h
      refine Tr<|R2 Z8 Y<|Za<|Zl<|If h Y (fun h=>?_) fun h=>?_
      ·
       refine Ze<|Zl<|Zm<|K3 68 69 70 Y<|Tr<|bE h fun x h_x h=>Rq Y (ZJ (ov Y) (ov Y) Jl h_x)<|Rq Y (Zb (ov Y) tS3 Y)<|Ra Y<|Za<|K4 7 68 69 70 Y<|Tr<|Rm Y<|bE h fun y4 h_y4 h=>Rq Y (Zj (Qn h_y4)<|.cons (ov Y) (.b Y)<|.cons (ov Y) (.b Y)<|.cons (ov Y) (.b Y) .nil)<|Za<|K4 68 69 70 75 Y<|If h Y (fun h=>?_) fun h=>?_
       ·
        refine K0<|Tr<|Ra Y<|Za<|?_
        replace h := lx h ▸ ho1
        obtain rfl := rt h
        exact Zg (Zo Y (.one<|rb Y))
       ·
        exact Ze<|K3 68 69 70 Y<|Zx<|R2 QG Y<|Rm Y<|Za<|⟨_, h, ES []⟩
      ·
       refine ZM<|?_
       replace h := lx h ▸ ho1
       exact ⟨(), h, ES []⟩
     ·
      replace h := elr h
      replace h := t0i h
      refine Tr<|Ra Y<|Za<|?_
      obtain rfl := rt h
      exact Zg (Zo Y (.one<|rb Y))
theorem ZbH {p : api_Panel} {s : api_PanelState} {r : Int} (h : XW p s = some r) :
 CSpec Tryz.prog gl0 21 [.agg [.sl 49 (List.map R49 p.Instruments)], .agg [.int .i64 s.Frame, .sl 99 (List.map R99 s.Memos)]] (.int .i64 r) := by
 unfold XW at h
 replace h := ZP h
 refine So Tryz.func21 Y fun w0 A=>Tr<|Rq Y (ZB (cva<|ov Y) Y tZ_24 Y)<|Rq Y (ZB (cva<|ov Y) Y tZ_44 Y)<|Ra Y<|Za<|Zl<|K2 2 3 Y<|Tr<|Rq Y (Zi (ov Y) ZaH Y Y)<|bE h fun y h_y h=>Rq Y (Zj (Zej h_y)<|.cons (ov Y) (.aggB Y) .nil)<|Ra Y<|Za<|K3 2 3 5 Y<|Tr<|Rm Y<|R2 Z0 Y<|Za<|K4 2 3 5 12 Y<|If h Y (fun h=>?_) fun h=>?_
 ·
  refine K1 5 Y<|Tr<|Rm Y<|Ra Y<|Za<|?_
  obtain rfl := rt h
  exact Zg (Zo Y (.one<|rb Y))
 ·
  refine Ze<|Zl<|K2 2 3 Y<|Tr<|Rq Y (Zc (ov Y) J8)<|Rq Y (Zb (ov Y) tS3 Y)<|bE h fun y2 h_y2 h=>Rq Y (Zj (Qn h_y2)<|.cons (ov Y) (.b Y)<|.cons (ov Y) (.b Y)<|.cons (ov Y) (.b Y) .nil)<|Za<|K3 2 3 16 Y<|If h Y (fun h=>?_) fun h=>?_
  ·
   refine K0<|Tr<|Ra Y<|Za<|?_
   obtain rfl := rt h
   exact Zg (Zo Y (.one<|rb Y))
  ·
   refine Ze<|Zl<|K2 2 3 Y<|Tr<|Rq Y (Zc (ov Y) Jt)<|Rq Y (Zb (ov Y) ZdV Y)<|Rl tZ_99 Zcl Y<|Rq Y (Zc (ov Y) XO)<|Rq Y (Zb (ov Y) ZcQ Y)<|Rl tZ_49 Zar Y<|R2 Z0 Y<|Za<|K3 2 3 23 Y<|If h Y (fun h=>?_) fun h=>?_
   ·
    refine K0<|Tr<|Ra Y<|Za<|?_
    obtain rfl := rt h
    exact Zg (Zo Y (.one<|rb Y))
   ·
    refine Ze<|J0 (fun j => (.inr j)) ⟨[], []⟩ h (fun h=>?_) fun h=>?_
    ·
     refine K2 2 3 Y<|Tr<|Rq Y (Zc (ov Y) Jt)<|Rq Y (Zb (ov Y) ZdV Y)<|Rl tZ_99 Zcl Y<|Rm Y<|Za<|Zm<|?_
     obtain ⟨r1, hl1, ho1⟩ := Xt h
     refine L1 (fun i=>⟨[(2, .rp [.sl 49 (List.map R49 p.Instruments)] 0), (25, .sl 99 (List.map R99 s.Memos)), (26, .int .i64 (s.Memos.length : Int)), (27, .int .i64 i)], []⟩) hl1 (ES []) fun n1 i h=>?_
     unfold Xv at h
     refine Tr<|R2 Z8 Y<|Za<|Zl<|If h Y (fun h=>?_) fun h=>?_
     ·
      refine Ze<|Zl<|Zm<|K4 2 25 26 27 Y<|Tr<|Rm Y<|bE h fun x h_x h=>Rq Y (ZJ (ov Y) (ov Y) Zcl h_x)<|Rq Y (Zi (ov Y) Zcc Y Y)<|Rx Y (ZC (row := [_, _, _, _, _]) 0 Y Zki Y tZ_99)<|Ra Y<|Rx Y (Zk (ov Y) (ov Y) (Zn Zcc Y) Y Y Y (Nat.le_of_ble_eq_true Y) (Zd Y) Y)<|Za<|K6 2 6 7 25 26 27 Y<|Td md0<|Dq 0 Y (Zc (ov Y) XO)<|Dq 1 Y (Zb (ov Y) ZcQ Y)<|D1 2 Zh Y<|bE h fun x2 h_x2 h=>Dq 3 Y (ZJ (ov Y) (ov Y) Zar h_x2)<|Dq 4 Y (Zi (ov Y) Zaf Y Y)<|Dq 5 Y (ZW (ov Y) Y Y Y Zcc Y Y)<|bE h fun y3 h_y3 h=>Dq 6 Y (Zj (Zhk h_y3)<|.cons (ov Y) (.aggB Y)<|.cons (ov Y) (.aggB Y) .nil)<|D1 7 QN Y<|Dd<|K5 2 8 25 26 27 Y<|Tr<|Rm Y<|R2 Z0 Y<|Za<|K6 2 8 25 26 27 40 Y<|If h Y (fun h=>?_) fun h=>?_
      ·
       refine K1 8 Y<|Tr<|Rm Y<|Ra Y<|Za<|?_
       replace h := lx h ▸ ho1
       obtain rfl := rt h
       exact Zg (Zo Y (.one<|rb Y))
      ·
       exact Ze<|K4 2 25 26 27 Y<|Zx<|R2 QG Y<|Rm Y<|Za<|⟨_, h, ES []⟩
     ·
      refine ZM<|?_
      replace h := lx h ▸ ho1
      exact ⟨(), h, ES []⟩
    ·
     replace h := elr h
     replace h := t0i h
     refine Tr<|Ra Y<|Za<|?_
     obtain rfl := rt h
     exact Zg (Zo Y (.one<|rb Y))
theorem Zjz {mark : Int} {r : Bool} (h : Ze9 mark = some r) :
 CSpec Tryz.prog gl0 175 [.int .i64 mark] (.bool r) := by
 unfold Ze9 at h
 replace h := ZP h
 refine So Tryz.func175 Y fun w0 A=>Tr<|Ra Y<|Za<|Tr<|Rm Y<|R2 JT Y<|Ra Y<|Za<|?_
 obtain rfl := rt h
 exact Zg (Zo Y (.one<|rb Y))
theorem Zkn {s : api_Series} {at_ : Int} {long : Int} {r : api_Sample × Bool} (h : ZeR s at_ long = some r) :
 CSpec Tryz.prog gl0 159 [.agg [.int .i64 s.Den, .sl 56 (List.map R56 s.Samples)], .int .i64 at_, .int .i64 long] (.tuple [.agg [.int .i64 r.1.At, .int .i64 r.1.N, .int .i64 r.1.Mark], .bool r.2]) := by
 unfold ZeR at h
 replace h := ZP h
 refine So Tryz.func159 Y fun w0 A=>Tr<|Rq Y (ZB (cva<|ov Y) Y tZ_52 Y)<|Rx Y (ZC (row := [_, _, _]) 0 Y ZdU Y tZ_56)<|Ra Y<|Za<|K4 1 2 3 6 Y<|Td md0<|Dq 0 Y (Zc (ov Y) Za8)<|Dq 1 Y (Zb (ov Y) Zfx Y)<|Dq 2 Y (Zj3 (Jg (ov Y) tZ_56) Zer<|Zf3 _ _)<|D1 3 QN Y<|D1 4 QN Y<|Dd<|I1 (fun low=>⟨[(1, .int .i64 at_), (2, .int .i64 long), (3, .rp [.int .i64 s.Den, .sl 56 (List.map R56 s.Samples)] 0), (6, .ptr 0 1 0 0), (8, .int .i64 low)], [some ⟨56, [[.int .i64 0, .int .i64 0, .int .i64 0]]⟩]⟩) h (fun h=>?_) fun low h=>?_
 ·
  refine Zm<|?_
  obtain ⟨r1, hl1, ho1⟩ := Xt h
  refine L2 (fun low2 high=>⟨[(1, .int .i64 at_), (2, .int .i64 long), (3, .rp [.int .i64 s.Den, .sl 56 (List.map R56 s.Samples)] 0), (6, .ptr 0 1 0 0), (8, .int .i64 low2), (9, .int .i64 high)], [some ⟨56, [[.int .i64 0, .int .i64 0, .int .i64 0]]⟩]⟩) hl1 (ES [some 0]) fun n1 low2 high h=>?_
  unfold Zb3 at h
  refine Zl<|Tr<|Rm Y<|Rm Y<|R2 Z8 Y<|Za<|K7 1 2 3 6 8 9 17 Y<|If h Y (fun h=>?_) fun h=>?_
  ·
   refine Ze<|Zm<|K6 1 2 3 6 8 9 Y<|Tr<|Rm Y<|Rm Y<|R2 QG Y<|bE h fun q h_q h=>Rq Y (Zgy (ov Y) (ov Y) h_q)<|Ra Y<|Za<|K7 1 2 3 6 8 9 10 Y<|Tr<|Rq Y (Zc (ov Y) Za8)<|Rq Y (Zb (ov Y) Zfx Y)<|Rm Y<|bE h fun x h_x h=>Rq Y (ZJ (ov Y) (ov Y) Zer h_x)<|Rq Y (Zc (ov Y) Zem)<|Rq Y (Zb (ov Y) tS3 Y)<|Rm Y<|R2 ZaM Y<|Za<|K8 1 2 3 6 8 9 10 29 Y<|If h Y (fun h=>?_) fun h=>?_
   ·
    exact K7 1 2 3 6 8 9 10 Y<|Zx<|Rm Y<|R2 QG Y<|Ra Y<|Za<|⟨_, h, ES [some 0]⟩
   ·
    exact K7 1 2 3 6 8 9 10 Y<|Zx<|Rm Y<|Ra Y<|Za<|⟨_, h, ES [some 0]⟩
  ·
   refine ZM<|?_
   replace h := lx h ▸ ho1
   exact ⟨_, h, ES [some 0]⟩
 ·
  refine Zl<|Tr<|Rm Y<|R2 ZY Y<|Za<|K6 1 2 3 6 8 34 Y<|If h Y (fun h=>?_) fun h=>?_
  ·
   refine K1 6 Y<|Tr<|Rq Y (QM (ys := [_, _, _]) ZiT ZiJ ZdU .nil Y)<|Rx Y (Zk (ov Y) (ov Y) (Zn Jq Y) Y Y Y (Nat.le_of_ble_eq_true Y) (Zd Y) Y)<|Ra Y<|Za<|?_
   obtain rfl := rt h
   exact Zg (Zo Y (.two (.agg Y Y Y Y Jq Y Y<|pwB Y)<|rb Y))
  ·
   refine Ze<|K5 1 2 3 6 8 Y<|Tr<|Rq Y (Zc (ov Y) Za8)<|Rq Y (Zb (ov Y) Zfx Y)<|Rm Y<|R2 Zes Y<|bE h fun x2 h_x2 h=>Rq Y (ZJ (ov Y) (ov Y) Zer h_x2)<|Rq Y (Zi (ov Y) Jq Y Y)<|Rx Y (ZC (row := [_, _, _]) 1 Y ZdU Y tZ_56)<|Rx Y (Zk (ov Y) (ov Y) (Zn Jq Y) Y Y Y (Nat.le_of_ble_eq_true Y) (Zd Y) Y)<|Za<|Zl<|K4 1 2 6 11 Y<|Tr<|Rq Y (Zf (ov Y) Y Y ZfO)<|Rq Y (Zt (ov Y) Y Y Y tS3 Y)<|bE h fun y h_y h=>Rq Y (Zj (Zjz h_y)<|.cons (ov Y) (.b Y) .nil)<|R1 Qe Y<|Rm Y<|Rq Y (.guarded ((!y) == false) Y Y Y Y fun h => Zh<|ov Y)<|Rq Y (.guarded ((!y) == false) Y Y Y Y fun h => Zf (ov Y) Y Y Zem)<|Rq Y (.guarded ((!y) == false) Y Y Y Y fun h => Zt (ow Y h) Y Y Y tS3 Y)<|Rq Y (.guarded ((!y) == false) Y Y Y Y fun h => Zho (ow Y h) (ow Y h) Y)<|Rq Y (.guarded ((!y) == false) Y Y Y Y fun h => Zh<|ov Y)<|Rq Y (.guarded ((!y) == false) Y Y Y Y fun h => QP (ow Y h)<|ow Y h)<|Rq Y (QR (ov Y) fun hp=>ow Y<|gF hp)<|Za<|K3 6 11 53 Y<|If h Y (fun h=>?_) fun h=>?_
   ·
    refine K1 6 Y<|Tr<|Rq Y (QM (ys := [_, _, _]) ZiT ZiJ ZdU .nil Y)<|Rx Y (Zk (ov Y) (ov Y) (Zn Jq Y) Y Y Y (Nat.le_of_ble_eq_true Y) (Zd Y) Y)<|Ra Y<|Za<|?_
    obtain rfl := rt h
    exact Zg (Zo Y (.two (.agg Y Y Y Y Jq Y Y<|pwB Y)<|rb Y))
   ·
    refine Ze<|K2 6 11 Y<|Tr<|Rq Y (ZW (ov Y) Y Y Y Jq Y Y)<|Rx Y (Zk (ov Y) (ov Y) (Zn Jq Y) Y Y Y (Nat.le_of_ble_eq_true Y) (Zd Y) Y)<|Ra Y<|Za<|?_
    obtain rfl := rt h
    exact Zg (Zo Y (.two (.agg Y Y Y Y Jq Y Y<|pwB Y)<|rb Y))
theorem Zkc {s : api_Series} {at_ : Int} {long : Int} {r : api_Sample × Bool × Int} (h : ZeA s at_ long = some r) :
 CSpec Tryz.prog gl0 134 [.agg [.int .i64 s.Den, .sl 56 (List.map R56 s.Samples)], .int .i64 at_, .int .i64 long] (.tuple [.agg [.int .i64 r.1.At, .int .i64 r.1.N, .int .i64 r.1.Mark], .bool r.2.1, .int .i64 r.2.2]) := by
 unfold ZeA at h
 replace h := ZP h
 refine So Tryz.func134 Y fun w0 A=>Tr<|Rq Y (ZB (cva<|ov Y) Y tZ_52 Y)<|Rx Y (ZC (row := [_, _, _]) 0 Y ZdU Y tZ_56)<|Ra Y<|Ra Y<|Za<|Zl<|K4 1 2 3 6 Y<|Tr<|Rq Y (Zi (ov Y) Zju Y Y)<|bE h fun y h_y h=>Rq Y (Zj (Zgo h_y)<|.cons (ov Y) (.aggB Y) .nil)<|Ra Y<|Za<|K5 1 2 3 6 9 Y<|Tr<|Rm Y<|R2 Z0 Y<|Za<|K6 1 2 3 6 9 15 Y<|If h Y (fun h=>?_) fun h=>?_
 ·
  refine K2 6 9 Y<|Tr<|Rq Y (QM (ys := [_, _, _]) ZiT ZiJ ZdU .nil Y)<|Rm Y<|Rx Y (Zk (ov Y) (ov Y) (Zn Jq Y) Y Y Y (Nat.le_of_ble_eq_true Y) (Zd Y) Y)<|Ra Y<|Ra Y<|Za<|?_
  obtain rfl := rt h
  exact Zg (Zo Y (.three (.agg Y Y Y Y Jq Y Y<|pwB Y) (rb Y)<|rb Y))
 ·
  refine Ze<|Zl<|K4 1 2 3 6 Y<|Tr<|Rm Y<|bE h fun y2 h_y2 h=>Rq Y (Zj (JA h_y2)<|.cons (ov Y) (.b Y)<|.cons (ov Y) (.b Y)<|.cons (ov Y) (.b Y) .nil)<|Rm Y<|Rq Y (.guarded (y2 == false) Y Y Y Y fun h => Zh<|ov Y)<|bE h fun y3 h_y3 h=>Rq Y (.guarded (y2 == false) Y Y Y Y fun h => Zj (JA<|gdT h_y3 h)<|.cons (ow Y h) (.b Y)<|.cons (ov Y) (.b Y)<|.cons (ov Y) (.b Y) .nil)<|Rq Y (QR (ov Y) fun hp=>ow Y<|gF hp)<|Za<|K5 1 2 3 6 23 Y<|If h Y (fun h=>?_) fun h=>?_
  ·
   refine K1 6 Y<|Tr<|Rq Y (QM (ys := [_, _, _]) ZiT ZiJ ZdU .nil Y)<|Rx Y (Zk (ov Y) (ov Y) (Zn Jq Y) Y Y Y (Nat.le_of_ble_eq_true Y) (Zd Y) Y)<|Ra Y<|Ra Y<|Za<|?_
   obtain rfl := rt h
   exact Zg (Zo Y (.three (.agg Y Y Y Y Jq Y Y<|pwB Y) (rb Y)<|rb Y))
  ·
   refine Ze<|K4 1 2 3 6 Y<|Tr<|Rq Y (Zi (ov Y) Zju Y Y)<|Rm Y<|Rm Y<|bE h fun y4 h_y4 h=>Rq Y (Zj (Zkn h_y4)<|.cons (ov Y) (.aggB Y)<|.cons (ov Y) (.b Y)<|.cons (ov Y) (.b Y) .nil)<|Rm Y<|Rq Y (Zu (ov Y) Y)<|Rq Y (Zu (ov Y) Y)<|Rx Y (ZC (row := [_, _, _]) 1 Y ZdU Y tZ_56)<|Rx Y (Zk (ov Y) (ov Y) (Zn Jq Y) Y Y Y (Nat.le_of_ble_eq_true Y) (Zd Y) Y)<|Ra Y<|Za<|K3 6 10 11 Y<|Tr<|Rq Y (ZW (ov Y) Y Y Y Jq Y Y)<|Rm Y<|Rx Y (Zk (ov Y) (ov Y) (Zn Jq Y) Y Y Y (Nat.le_of_ble_eq_true Y) (Zd Y) Y)<|Ra Y<|Ra Y<|Za<|?_
   obtain rfl := rt h
   exact Zg (Zo Y (.three (.agg Y Y Y Y Jq Y Y<|pwB Y) (rb Y)<|rb Y))
theorem Zfd {t : api_Track} {frame : Int} {r : api_Sample × Bool} (h : Zay t frame = some r) :
 CSpec Tryz.prog gl0 95 [.agg [.str t.Name, .int .i64 t.Series.Den, .sl 56 (List.map R56 t.Series.Samples), .int .i64 t.Long], .int .i64 frame] (.tuple [.agg [.int .i64 r.1.At, .int .i64 r.1.N, .int .i64 r.1.Mark], .bool r.2]) := by
 unfold Zay at h
 replace h := ZP h
 refine So Tryz.func95 Y fun w0 A=>Tr<|Rq Y (ZB (cva<|ov Y) Y tZ_54 Y)<|Rx Y (ZC (row := [_, _, _]) 0 Y ZdU Y tZ_56)<|Ra Y<|Za<|K3 1 2 4 Y<|Tr<|Rq Y (Zc (ov Y) ZfE)<|Rq Y (Zi (ov Y) Zju Y Y)<|Rm Y<|R2 Ziv Y<|R2 QG Y<|Rq Y (Zc (ov Y) Zj9)<|Rq Y (Zb (ov Y) tS3 Y)<|bE h fun y h_y h=>Rq Y (Zj (Zkc h_y)<|.cons (ov Y) (.aggB Y)<|.cons (ov Y) (.b Y)<|.cons (ov Y) (.b Y) .nil)<|Rm Y<|Rq Y (Zu (ov Y) Y)<|Rq Y (Zu (ov Y) Y)<|Rq Y (Zu (ov Y) Y)<|Rx Y (ZC (row := [_, _, _]) 1 Y ZdU Y tZ_56)<|Rx Y (Zk (ov Y) (ov Y) (Zn Jq Y) Y Y Y (Nat.le_of_ble_eq_true Y) (Zd Y) Y)<|Ra Y<|Ra Y<|Za<|K3 4 6 7 Y<|Tr<|Rq Y (ZW (ov Y) Y Y Y Jq Y Y)<|Rm Y<|Rx Y (Zk (ov Y) (ov Y) (Zn Jq Y) Y Y Y (Nat.le_of_ble_eq_true Y) (Zd Y) Y)<|Ra Y<|Za<|?_
 obtain rfl := rt h
 exact Zg (Zo Y (.two (.agg Y Y Y Y Jq Y Y<|pwB Y)<|rb Y))
theorem Zgk {op : Int} {a : Int} {b : Int} {r : Bool} (h : ZcE op a b = some r) :
 CSpec Tryz.prog gl0 135 [.int .i64 op, .int .i64 a, .int .i64 b] (.bool r) := by
 unfold ZcE at h
 replace h := ZP h
 refine So Tryz.func135 Y fun w0 A=>Tr<|Ra Y<|Za<|Zl<|K3 0 1 2 Y<|Tr<|Rm Y<|Za<|Zm<|K3 1 2 7 Y<|Tr<|R2 ZY Y<|Ra Y<|Za<|K4 1 2 7 8 Y<|If h Y (fun h=>?_) fun h=>?_
 ·
  refine K2 1 2 Y<|Tr<|Rm Y<|Rm Y<|R2 Z8 Y<|Ra Y<|Za<|?_
  obtain rfl := rt h
  exact Zg (Zo Y (.one<|rb Y))
 ·
  refine K3 1 2 7 Y<|Tr<|R2 ZY Y<|Ra Y<|Za<|K4 1 2 7 13 Y<|If h Y (fun h=>?_) fun h=>?_
  ·
   refine K2 1 2 Y<|Tr<|Rm Y<|Rm Y<|R2 ZaM Y<|Ra Y<|Za<|?_
   obtain rfl := rt h
   exact Zg (Zo Y (.one<|rb Y))
  ·
   refine K3 1 2 7 Y<|Tr<|R2 ZY Y<|Ra Y<|Za<|K4 1 2 7 18 Y<|If h Y (fun h=>?_) fun h=>?_
   ·
    refine K2 1 2 Y<|Tr<|Rm Y<|Rm Y<|R2 ZY Y<|Ra Y<|Za<|?_
    obtain rfl := rt h
    exact Zg (Zo Y (.one<|rb Y))
   ·
    refine K3 1 2 7 Y<|Tr<|R2 ZY Y<|Ra Y<|Za<|K4 1 2 7 23 Y<|If h Y (fun h=>?_) fun h=>?_
    ·
     refine K2 1 2 Y<|Tr<|Rm Y<|Rm Y<|R2 Z0 Y<|Ra Y<|Za<|?_
     obtain rfl := rt h
     exact Zg (Zo Y (.one<|rb Y))
    ·
     refine K3 1 2 7 Y<|Tr<|R2 ZY Y<|Ra Y<|Za<|K3 1 2 28 Y<|If h Y (fun h=>?_) fun h=>?_
     ·
      refine K2 1 2 Y<|Tr<|Rm Y<|Rm Y<|R2 JT Y<|Ra Y<|Za<|?_
      obtain rfl := rt h
      exact Zg (Zo Y (.one<|rb Y))
     ·
      refine Ze<|K2 1 2 Y<|Tr<|Rm Y<|Rm Y<|R2 QP Y<|Ra Y<|Za<|?_
      obtain rfl := rt h
      exact Zg (Zo Y (.one<|rb Y))
theorem ZhQ {i : api_Instrument} {m : api_Memo} {s : api_Sample} {known : Bool} {r : api_Memo} (h : ZbC i m s known = some r) :
 CSpec Tryz.prog gl0 96 [.agg [.int .i64 i.Kind, .str i.Name, .str i.Track, .int .i64 i.Places, .int .i64 i.Low, .int .i64 i.High, .int .i64 i.Steps, .sl 136 (List.map R136 i.Zones), .int .i64 i.Op, .int .i64 i.N, .bool i.Latch, .int .i64 i.Size], .agg [.bool m.Lit, .bool m.Some, .int .i64 m.N, .int .i64 m.Count, .sl 3 (List.map R3 m.Tape)], .agg [.int .i64 s.At, .int .i64 s.N, .int .i64 s.Mark], .bool known] (.agg [.bool r.Lit, .bool r.Some, .int .i64 r.N, .int .i64 r.Count, .sl 3 (List.map R3 r.Tape)]) := by
 unfold ZbC at h
 replace h := ZP h
 refine So Tryz.func96 Y fun w0 A=>Tr<|Rq Y (ZB (cva<|ov Y) Y tZ_49 Y)<|Rx Y (ZlA 0 Y (ov Y) Zcc Y)<|Rq Y (ZB (cva<|ov Y) Y tZ_56 Y)<|Rx Y (ZC (row := [_, _, _, _, _]) 1 Y Zki Y tZ_99)<|Za<|K5 3 4 5 6 8 Y<|Tr<|Rx Y (ZfB (r := 2) (xs := ([] : List Int)) (f := R3) Y Jl .nil Y Y Y)<|Rq Y (Zf (ov Y) Y Y X0)<|Rq Y (Zt (ov Y) Y Y Y Zdd Y)<|bE h fun l h_l h=>Rx Y (Zbs (ov Y) (Jg (ov Y) tZ_3) Jl Y Y (fun _=>Zd Y) Y h_l)<|Rq Y (Zf (ov Y) Y Y X0)<|Rx Y (Zk (ov Y) (ov Y) (Zr Zdd) Y Y Y (Nat.le_of_ble_eq_true Y) (Zd Y) Y)<|Za<|I5 (fun Lit Some N Count Tape=>⟨[(5, .ptr 0 1 0 0), (8, .ptr 1 1 0 0)], [some ⟨99, [[.bool Lit, .bool Some, .int .i64 N, .int .i64 Count, .sl 3 (List.map R3 Tape)]]⟩, some ⟨99, [[.bool false, .bool false, .int .i64 0, .int .i64 0, .nils]]⟩]⟩) h (fun h=>?_) fun Lit Some N Count Tape h=>?_
 ·
  refine Zm<|K5 3 4 5 6 8 Y<|Tr<|Rq Y (Zc (ov Y) Q5)<|Rq Y (Zb (ov Y) tS3 Y)<|R2 ZY Y<|Rm Y<|Rq Y (.guarded ((decide (i.Kind = 3)) == true) Y Y Y Y fun h => Zh<|ov Y)<|Rq Y (Z3 (ov Y) fun hp=>ow Y<|gT hp)<|Ra Y<|Za<|K6 3 4 5 6 8 15 Y<|If h Y (fun h=>?_) fun h=>?_
  ·
   exact K4 4 5 6 8 Y<|Zx<|Rq Y (Zc (ov Y) ZgF)<|Rq Y (Zb (ov Y) tS3 Y)<|Rq Y (Zc (ov Y) Zbj)<|Rq Y (Zb (ov Y) tS3 Y)<|Rq Y (Zc (ov Y) ZgS)<|Rq Y (Zb (ov Y) tS3 Y)<|bE h fun y h_y h=>Rq Y (Zj (Zgk h_y)<|.cons (ov Y) (.b Y)<|.cons (ov Y) (.b Y)<|.cons (ov Y) (.b Y) .nil)<|Rm Y<|Rq Y (.guarded (y == false) Y Y Y Y fun h => Zc (ov Y) Zg5)<|Rq Y (.guarded (y == false) Y Y Y Y fun h => Zb (ow Y h) tS4 Y)<|Rq Y (.guarded (y == false) Y Y Y Y fun h => Zh<|ow Y h)<|Rq Y (.guarded2 ((y == false) && (i.Latch == true)) Y Y Y Y fun h => Zf (ov Y) Y Y Jr)<|Rq Y (.guarded2 ((y == false) && (i.Latch == true)) Y Y Y Y fun h => Zt (ow Y h) Y Y Y tS4 Y)<|Rq Y (.guarded (y == false) Y Y Y Y fun h => Z3 (ow Y h) fun hp=>ow Y<|gA h<|gT hp)<|Rq Y (QR (ov Y) fun hp=>ow Y<|gF hp)<|Rq Y (Zf (ov Y) Y Y Jr)<|Rx Y (Zk (ov Y) (ov Y) (Zr tS4) Y Y Y (Nat.le_of_ble_eq_true Y) (Zd Y) Y)<|Za<|⟨_, h, ES [some 0, some 1] (hhp := .cons Y (ro1 (by exact tZ_99.symm)<|rlc (.dat Y)<|rlc (.dat Y)<|rlc (.dat Y)<|rlc (.dat Y)<|rlc (Zfk Y Y Y D3) rln)<|.cons Y (ro1 (by exact tZ_99.symm)<|rld Y) .nil)⟩
  ·
   refine K5 3 4 5 6 8 Y<|Tr<|Rq Y (Zc (ov Y) Q5)<|Rq Y (Zb (ov Y) tS3 Y)<|R2 ZY Y<|Ra Y<|Za<|K6 3 4 5 6 8 38 Y<|If h Y (fun h=>?_) fun h=>?_
   ·
    exact K3 4 5 8 Y<|Zx<|Rq Y (Zf (ov Y) Y Y Jr)<|Rq Y (Zt (ov Y) Y Y Y tS4 Y)<|Rm Y<|Rq Y (.guarded (m.Lit == true) Y Y Y Y fun h => Zc (ov Y) Zg5)<|Rq Y (.guarded (m.Lit == true) Y Y Y Y fun h => Zb (ow Y h) tS4 Y)<|Rq Y (Z3 (ov Y) fun hp=>ow Y<|gT hp)<|Rq Y (Zf (ov Y) Y Y Jr)<|Rx Y (Zk (ov Y) (ov Y) (Zr tS4) Y Y Y (Nat.le_of_ble_eq_true Y) (Zd Y) Y)<|Za<|⟨_, h, ES [some 0, some 1] (hhp := .cons Y (ro1 (by exact tZ_99.symm)<|rlc (.dat Y)<|rlc (.dat Y)<|rlc (.dat Y)<|rlc (.dat Y)<|rlc (Zfk Y Y Y D3) rln)<|.cons Y (ro1 (by exact tZ_99.symm)<|rld Y) .nil)⟩
   ·
    refine K5 3 4 5 6 8 Y<|Tr<|Rq Y (Zc (ov Y) Q5)<|Rq Y (Zb (ov Y) tS3 Y)<|R2 ZY Y<|Rm Y<|Rq Y (.guarded ((decide (i.Kind = 5)) == true) Y Y Y Y fun h => Zh<|ov Y)<|Rq Y (Z3 (ov Y) fun hp=>ow Y<|gT hp)<|Ra Y<|Za<|K6 3 4 5 6 8 49 Y<|If h Y (fun h=>?_) fun h=>?_
    ·
     refine K4 4 5 6 8 Y<|Tr<|Rq Y (Zc (ov Y) ZgF)<|Rq Y (Zb (ov Y) tS3 Y)<|Rq Y (Zc (ov Y) Zbj)<|Rq Y (Zb (ov Y) tS3 Y)<|Rq Y (Zc (ov Y) ZgS)<|Rq Y (Zb (ov Y) tS3 Y)<|bE h fun y2 h_y2 h=>Rq Y (Zj (Zgk h_y2)<|.cons (ov Y) (.b Y)<|.cons (ov Y) (.b Y)<|.cons (ov Y) (.b Y) .nil)<|Ra Y<|Za<|Zl<|K3 5 8 9 Y<|Tr<|Rm Y<|Rm Y<|Rq Y (.guarded (y2 == true) Y Y Y Y fun h => Zf (ov Y) Y Y Jr)<|Rq Y (.guarded (y2 == true) Y Y Y Y fun h => Zt (ow Y h) Y Y Y tS4 Y)<|Rq Y (.guarded (y2 == true) Y Y Y Y fun h => Qe<|ow Y h)<|Rq Y (Z3 (ov Y) fun hp=>ow Y<|gT hp)<|Za<|K4 5 8 9 68 Y<|If h Y (fun h=>?_) fun h=>?_
     ·
      exact K3 5 8 9 Y<|Zx<|Rq Y (Zf (ov Y) Y Y Zda)<|Rq Y (Zt (ov Y) Y Y Y tS3 Y)<|R2 QG Y<|Rq Y (Zf (ov Y) Y Y Zda)<|Rx Y (Zk (ov Y) (ov Y) (Zr tS3) Y Y Y (Nat.le_of_ble_eq_true Y) (Zd Y) Y)<|Za<|K3 5 8 9 Y<|Zx<|Rm Y<|Rq Y (Zf (ov Y) Y Y Jr)<|Rx Y (Zk (ov Y) (ov Y) (Zr tS4) Y Y Y (Nat.le_of_ble_eq_true Y) (Zd Y) Y)<|Za<|⟨_, h, ES [some 0, some 1] (hhp := .cons Y (ro1 (by exact tZ_99.symm)<|rlc (.dat Y)<|rlc (.dat Y)<|rlc (.dat Y)<|rlc (.dat Y)<|rlc (Zfk Y Y Y D3) rln)<|.cons Y (ro1 (by exact tZ_99.symm)<|rld Y) .nil)⟩
     ·
      exact Ze<|K3 5 8 9 Y<|Zx<|Rm Y<|Rq Y (Zf (ov Y) Y Y Jr)<|Rx Y (Zk (ov Y) (ov Y) (Zr tS4) Y Y Y (Nat.le_of_ble_eq_true Y) (Zd Y) Y)<|Za<|⟨_, h, ES [some 0, some 1] (hhp := .cons Y (ro1 (by exact tZ_99.symm)<|rlc (.dat Y)<|rlc (.dat Y)<|rlc (.dat Y)<|rlc (.dat Y)<|rlc (Zfk Y Y Y D3) rln)<|.cons Y (ro1 (by exact tZ_99.symm)<|rld Y) .nil)⟩
    ·
     refine K5 3 4 5 6 8 Y<|Tr<|Rq Y (Zc (ov Y) Q5)<|Rq Y (Zb (ov Y) tS3 Y)<|R2 ZY Y<|Ra Y<|Za<|K6 3 4 5 6 8 75 Y<|If h Y (fun h=>?_) fun h=>?_
     ·
      exact K2 5 8 Y<|Zx<|Rq Y (Zf (ov Y) Y Y Jr)<|Rx Y (Zk (ov Y) (ov Y) (Zr tS4) Y Y Y (Nat.le_of_ble_eq_true Y) (Zd Y) Y)<|Za<|⟨_, h, ES [some 0, some 1] (hhp := .cons Y (ro1 (by exact tZ_99.symm)<|rlc (.dat Y)<|rlc (.dat Y)<|rlc (.dat Y)<|rlc (.dat Y)<|rlc (Zfk Y Y Y D3) rln)<|.cons Y (ro1 (by exact tZ_99.symm)<|rld Y) .nil)⟩
     ·
      refine K5 3 4 5 6 8 Y<|Tr<|Rq Y (Zc (ov Y) Q5)<|Rq Y (Zb (ov Y) tS3 Y)<|R2 ZY Y<|Rm Y<|Rq Y (.guarded ((decide (i.Kind = 4)) == true) Y Y Y Y fun h => Zh<|ov Y)<|Rq Y (Z3 (ov Y) fun hp=>ow Y<|gT hp)<|Ra Y<|Za<|K6 3 4 5 6 8 80 Y<|If h Y (fun h=>?_) fun h=>?_
      ·
       refine Zl<|K3 5 6 8 Y<|Tr<|Rq Y (Zf (ov Y) Y Y Zcu)<|Rq Y (Zt (ov Y) Y Y Y tS4 Y)<|R1 Qe Y<|Rm Y<|Rq Y (.guarded ((!m.Some) == false) Y Y Y Y fun h => Zc (ov Y) Zbj)<|Rq Y (.guarded ((!m.Some) == false) Y Y Y Y fun h => Zb (ow Y h) tS3 Y)<|Rq Y (.guarded ((!m.Some) == false) Y Y Y Y fun h => Zf (ov Y) Y Y ZcJ)<|Rq Y (.guarded ((!m.Some) == false) Y Y Y Y fun h => Zt (ow Y h) Y Y Y tS3 Y)<|Rq Y (.guarded ((!m.Some) == false) Y Y Y Y fun h => QP (ow Y h)<|ow Y h)<|Rq Y (QR (ov Y) fun hp=>ow Y<|gF hp)<|Za<|K4 5 6 8 96 Y<|If h Y (fun h=>?_) fun h=>?_
       ·
        exact K3 5 6 8 Y<|Zx<|Rq Y (Zc (ov Y) Zbj)<|Rq Y (Zb (ov Y) tS3 Y)<|Rq Y (Zf (ov Y) Y Y ZcJ)<|Rx Y (Zk (ov Y) (ov Y) (Zr tS3) Y Y Y (Nat.le_of_ble_eq_true Y) (Zd Y) Y)<|Za<|K2 5 8 Y<|Zx<|Rq Y (Zf (ov Y) Y Y Zcu)<|Rx Y (Zk (ov Y) (ov Y) (Zr tS4) Y Y Y (Nat.le_of_ble_eq_true Y) (Zd Y) Y)<|Za<|⟨_, h, ES [some 0, some 1] (hhp := .cons Y (ro1 (by exact tZ_99.symm)<|rlc (.dat Y)<|rlc (.dat Y)<|rlc (.dat Y)<|rlc (.dat Y)<|rlc (Zfk Y Y Y D3) rln)<|.cons Y (ro1 (by exact tZ_99.symm)<|rld Y) .nil)⟩
       ·
        exact Ze<|K2 5 8 Y<|Zx<|Rq Y (Zf (ov Y) Y Y Zcu)<|Rx Y (Zk (ov Y) (ov Y) (Zr tS4) Y Y Y (Nat.le_of_ble_eq_true Y) (Zd Y) Y)<|Za<|⟨_, h, ES [some 0, some 1] (hhp := .cons Y (ro1 (by exact tZ_99.symm)<|rlc (.dat Y)<|rlc (.dat Y)<|rlc (.dat Y)<|rlc (.dat Y)<|rlc (Zfk Y Y Y D3) rln)<|.cons Y (ro1 (by exact tZ_99.symm)<|rld Y) .nil)⟩
      ·
       refine K5 3 4 5 6 8 Y<|Tr<|Rq Y (Zc (ov Y) Q5)<|Rq Y (Zb (ov Y) tS3 Y)<|R2 ZY Y<|Rm Y<|Rq Y (.guarded ((decide (i.Kind = 6)) == true) Y Y Y Y fun h => Zh<|ov Y)<|Rq Y (Z3 (ov Y) fun hp=>ow Y<|gT hp)<|Ra Y<|Za<|K5 4 5 6 8 101 Y<|If h Y (fun h=>?_) fun h=>?_
       ·
        refine K4 4 5 6 8 Y<|Tr<|Rq Y (Zf (ov Y) Y Y X0)<|Rq Y (Zt (ov Y) Y Y Y Zdd Y)<|Rq Y (Zc (ov Y) Zbj)<|Rq Y (Zb (ov Y) tS3 Y)<|R_q (.sl 3<|List.map R3 ([s.N] : List Int)) Y (Jm Jl (.cons (cvs (ov Y)<|ZF Y) Y (.cons (.b Y) .nil) .nil) Y Y)<|bE h fun l2 h_l2 h=>Rx Y (Zbo (ov Y) (Jg (ov Y) tZ_3) Jl Y Y Y (fun _=>Zd Y) Y h_l2)<|Rq Y (Zf (ov Y) Y Y X0)<|Rx Y (Zk (ov Y) (ov Y) (Zr Zdd) Y Y Y (Nat.le_of_ble_eq_true Y) (Zd Y) Y)<|Za<|K3 4 5 8 Y<|Tr<|Rq Y (Zf (ov Y) Y Y X0)<|Rq Y (Zt (ov Y) Y Y Y Zdd Y)<|Rq Y (Zfa (ov Y) Y Y Jl)<|Rq Y (Zc (ov Y) Zd1)<|Rq Y (Zb (ov Y) tS3 Y)<|R2 QP Y<|Za<|K3 5 8 120 Y<|If h Y (fun h=>?_) fun h=>?_
        ·
         exact K2 5 8 Y<|Zx<|Rq Y (Zf (ov Y) Y Y X0)<|Rq Y (Zt (ov Y) Y Y Y Zdd Y)<|bE h fun l3 h_l3 h=>ZkS (Ent.sel [some 0, some 1, none] (sr 5 Y (.ptr (r' := 0) _ _ _ Y)<|sr 8 Y (.ptr (r' := 1) _ _ _ Y)<|sr 121 Y (.ptr (r' := 0) _ _ _ Y)<|sr 122 Y (Zfk Y Y Y D3) sn) (.cons Y (ro1 (by exact tZ_99.symm)<|rlc (.dat Y)<|rlc (.dat Y)<|rlc (.dat Y)<|rlc (.dat Y)<|rlc (Zfk Y Y Y D3) rln)<|.cons Y (ro1 (by exact tZ_99.symm)<|rlc (.dat Y)<|rlc (.dat Y)<|rlc (.dat Y)<|rlc (.dat Y)<|rlc (.dat Y) rln)<|.row 3 .nil) Y Y)<|Rq Y (ZfN (ov Y) Jl (oi<|ov Y) on h_l3)<|Rq Y (Zf (ov Y) Y Y X0)<|Rx Y (Zk (ov Y) (ov Y) (Zr Zdd) Y Y Y (Nat.le_of_ble_eq_true Y) (Zd Y) Y)<|Za<|⟨_, h, ES [some 0, some 1]⟩
        ·
         exact Ze<|⟨_, h, ES [some 0, some 1] (hhp := .cons Y (ro1 (by exact tZ_99.symm)<|rlc (.dat Y)<|rlc (.dat Y)<|rlc (.dat Y)<|rlc (.dat Y)<|rlc (Zfk Y Y Y D3) rln)<|.cons Y (ro1 (by exact tZ_99.symm)<|rld Y) .nil)⟩
       ·
        exact Ze<|⟨_, h, ES [some 0, some 1] (hhp := .cons Y (ro1 (by exact tZ_99.symm)<|rlc (.dat Y)<|rlc (.dat Y)<|rlc (.dat Y)<|rlc (.dat Y)<|rlc (Zfk Y Y Y D3) rln)<|.cons Y (ro1 (by exact tZ_99.symm)<|rld Y) .nil)⟩
 ·
  refine Tr<|Rq Y (ZW (ov Y) Y Y Y Zcc Y Y)<|Rx Y (Zk (ov Y) (ov Y) (Zn Zcc Y) Y Y Y (Nat.le_of_ble_eq_true Y) (Zd Y) Y)<|Za<|?_
  obtain rfl := rt h
  exact Zg (Zo Y (.one<|.agg Y Y Y Y Zcc Y Y<|pwB Y))
theorem Zir {p : api_Panel} {l : List api_Track} {s : api_PanelState} {r : api_PanelState} (h : Zck p l s = some r) :
 CSpec Tryz.prog gl0 52 [.agg [.sl 49 (List.map R49 p.Instruments)], .sl 54 (List.map R54 l), .agg [.int .i64 s.Frame, .sl 99 (List.map R99 s.Memos)]] (.agg [.int .i64 r.Frame, .sl 99 (List.map R99 r.Memos)]) := by
 unfold Zck at h
 replace h := ZP h
 refine So Tryz.func52 Y fun w0 A=>Tr<|Rq Y (ZB (cva<|ov Y) Y tZ_24 Y)<|Rq Y (ZB (cva<|ov Y) Y tZ_44 Y)<|Rx Y (ZC (row := [_, _]) 0 Y ZdY Y tZ_44)<|Za<|K4 1 3 5 6 Y<|Tr<|Rq Y (Zc (ov Y) J8)<|Rq Y (Zb (ov Y) tS3 Y)<|R2 QG Y<|Rq Y (QM (ys := [_, _]) Zgn Zgp ZdY (.cons (cvs (ov Y)<|ZF Y) .nil) Y)<|Rx Y (ZC (row := [_, _]) 1 Y ZdY Y tZ_44)<|Rx Y (Zk (ov Y) (ov Y) (Zn Xe Y) Y Y Y (Nat.le_of_ble_eq_true Y) (Zd Y) Y)<|Za<|I1 (fun Memos=>⟨[(6, .ptr 0 1 0 0), (7, .ptr 1 1 0 0)], [some ⟨44, [[.int .i64 0, .nils]]⟩, some ⟨44, [[.int .i64 (i64 (s.Frame + 1)), .own 2 Memos.length]]⟩, some ⟨99, List.map R99 Memos⟩]⟩) h (fun h=>?_) fun Memos h=>?_
 ·
  refine K5 1 3 5 6 7 Y<|Tr<|Rq Y (Zc (ov Y) XO)<|Rq Y (Zb (ov Y) ZcQ Y)<|Rl tZ_49 Zar Y<|Rm Y<|Za<|Zm<|?_
  obtain ⟨r1, hl1, ho1⟩ := Xt h
  refine L2 (fun Memos2 i=>⟨[(1, .sl 54 (List.map R54 l)), (5, .rp [.int .i64 s.Frame, .sl 99 (List.map R99 s.Memos)] 0), (6, .ptr 0 1 0 0), (7, .ptr 1 1 0 0), (19, .sl 49 (List.map R49 p.Instruments)), (20, .int .i64 (p.Instruments.length : Int)), (21, .int .i64 i)], [some ⟨44, [[.int .i64 0, .nils]]⟩, some ⟨44, [[.int .i64 (i64 (s.Frame + 1)), .own 2 Memos2.length]]⟩, some ⟨99, List.map R99 Memos2⟩]⟩) hl1 (ES [some 0, some 1, none]) fun n1 Memos2 i h=>?_
  unfold Jx at h
  refine Tr<|R2 Z8 Y<|Za<|Zl<|If h Y (fun h=>?_) fun h=>?_
  ·
   exact Ze<|Zl<|Zm<|K7 1 5 6 7 19 20 21 Y<|Tr<|Rm Y<|bE h fun x h_x h=>Rq Y (ZJ (ov Y) (ov Y) Zar h_x)<|Rq Y (Zi (ov Y) Zaf Y Y)<|Rx Y (ZC (row := [_, _, _, _, _, _, _, _, _, _, _, _]) 3 Y Zjy Y tZ_49)<|Ra Y<|Rx Y (Zk (ov Y) (ov Y) (Zn Zaf Y) Y Y Y (Nat.le_of_ble_eq_true Y) (Zd Y) Y)<|Za<|K9 1 5 6 7 8 9 19 20 21 Y<|Tr<|Rm Y<|Rq Y (Zf (ov Y) Y Y ZgB)<|Rq Y (Zt (ov Y) Y Y Y tS9 Y)<|bE h fun y h_y h=>Rq Y (Zj (Zd6 h_y)<|.cons (ov Y) (.b Y)<|.cons (ov Y) (.b Y) .nil)<|Rm Y<|Rq Y (Zu (ov Y) Y)<|Rq Y (Zu (ov Y) Y)<|Rx Y (ZC (row := [_, _, _, _]) 4 Y Zkr Y tZ_54)<|Rx Y (Zk (ov Y) (ov Y) (Zn ZeQ Y) Y Y Y (Nat.le_of_ble_eq_true Y) (Zd Y) Y)<|Ra Y<|Za<|K10 1 5 6 7 8 9 10 19 20 21 Y<|Tr<|Rq Y (ZW (ov Y) Y Y Y ZeQ Y Y)<|Rq Y (Zf (ov Y) Y Y J8)<|Rq Y (Zt (ov Y) Y Y Y tS3 Y)<|bE h fun y2 h_y2 h=>Rq Y (Zj (Zfd h_y2)<|.cons (ov Y) (.aggB Y)<|.cons (ov Y) (.b Y) .nil)<|Rm Y<|Rq Y (Zu (ov Y) Y)<|Rq Y (Zu (ov Y) Y)<|Rx Y (ZC (row := [_, _, _]) 5 Y ZdU Y tZ_56)<|Rx Y (Zk (ov Y) (ov Y) (Zn Jq Y) Y Y Y (Nat.le_of_ble_eq_true Y) (Zd Y) Y)<|Ra Y<|Za<|K11 1 5 6 7 8 9 12 13 19 20 21 Y<|Zcf (cw := md0) (by kernel_rfl)<|Dq 0 Y (Zf (ov Y) Y Y Jt)<|Dq 1 Y (Zt (ov Y) Y Y Y ZdV Y)<|Dq 2 Y (ZW (ov Y) Y Y Y Zaf Y Y)<|Dq 3 Y (Zc (ov Y) Jt)<|Dq 4 Y (Zb (ov Y) ZdV Y)<|D1 5 Zh Y<|bE h fun x2 h_x2 h=>Dq 6 Y (ZJ (ov Y) (ov Y) Zcl h_x2)<|Dq 7 Y (Zi (ov Y) Zcc Y Y)<|Dq 8 Y (ZW (ov Y) Y Y Y Jq Y Y)<|D1 9 Zh Y<|bE h fun y3 h_y3 h=>Dq 10 Y (Zj (ZhQ h_y3)<|.cons (ov Y) (.aggB Y)<|.cons (ov Y) (.aggB Y)<|.cons (ov Y) (.aggB Y)<|.cons (ov Y) (.b Y) .nil)<|ZkD 11 (.sl 99<|List.map R99 ([y3] : List api_Memo)) Y (by kernel_rfl) Y Y (Jm Zcl (.cons (cva<|ov Y) Y (pwD Y) .nil) Y Y)<|bE h fun l2 h_l2 h=>Do 12 Y (Zbo (ov Y) (Jg (ov Y) tZ_99) Zcl Y Y Y (fun _=>Zd Y) Y h_l2)<|Dq 13 Y (Zf (ov Y) Y Y Jt)<|Do 14 Y (Zk (ov Y) (ov Y) (Zr ZdV) Y Y Y (Nat.le_of_ble_eq_true Y) (Zd Y) Y)<|Dd<|K7 1 5 6 7 19 20 21 Y<|Zx<|R2 QG Y<|Rm Y<|Za<|⟨_, h, ES [some 0, some 1, some 2]⟩
  ·
   refine ZM<|?_
   replace h := lx h ▸ ho1
   exact ⟨_, h, ES [some 0, some 1, some 2]⟩
 ·
  refine Tr<|Rq Y (ZW (ov Y) Y Y Y Xe Y Y)<|Rx Y (Zk (ov Y) (ov Y) (Zn Xe Y) Y Y Y (Nat.le_of_ble_eq_true Y) (Zd Y) Y)<|Za<|?_
  obtain rfl := rt h
  exact Zg (Zo Y (.one<|.agg Y Y Y Y Xe Y Y<|.cons (Dat.view<|.b Y)<|.cons (View.ownM Y Y D99) .nil))
theorem Ziu {p : api_Panel} {l : List api_Track} {s : api_PanelState} {r : api_PanelState × Int} (h : Zcb p l s = some r) :
 CSpec Tryz.prog gl0 19 [.agg [.sl 49 (List.map R49 p.Instruments)], .sl 54 (List.map R54 l), .agg [.int .i64 s.Frame, .sl 99 (List.map R99 s.Memos)]] (.tuple [.agg [.int .i64 r.1.Frame, .sl 99 (List.map R99 r.1.Memos)], .int .i64 r.2]) := by
 unfold Zcb at h
 replace h := ZP h
 refine So Tryz.func19 Y fun w0 A=>Tr<|Rq Y (ZB (cva<|ov Y) Y tZ_24 Y)<|Rq Y (ZB (cva<|ov Y) Y tZ_44 Y)<|Rx Y (ZC (row := [_, _]) 0 Y ZdY Y tZ_44)<|Ra Y<|Za<|Zl<|K4 1 3 5 6 Y<|Tr<|Rq Y (Zi (ov Y) ZaH Y Y)<|Rm Y<|bE h fun y h_y h=>Rq Y (Zj (Zgh h_y)<|.cons (ov Y) (.aggB Y)<|.cons (ov Y) (.b Y) .nil)<|Ra Y<|Za<|K5 1 3 5 6 8 Y<|Tr<|Rm Y<|R2 Z0 Y<|Za<|K6 1 3 5 6 8 14 Y<|If h Y (fun h=>?_) fun h=>?_
 ·
  refine K2 6 8 Y<|Tr<|Rq Y (QM (ys := [_, _]) Zgn Zgp ZdY .nil Y)<|Rm Y<|Rx Y (Zk (ov Y) (ov Y) (Zn Xe Y) Y Y Y (Nat.le_of_ble_eq_true Y) (Zd Y) Y)<|Ra Y<|Za<|?_
  obtain rfl := rt h
  exact Zg (Zo Y (.two (.agg Y Y Y Y Xe Y Y<|.cons (Dat.view<|.b Y)<|.cons (View.nils 99) .nil)<|rb Y))
 ·
  refine Ze<|Zl<|K4 1 3 5 6 Y<|Tr<|Rq Y (Zi (ov Y) ZaH Y Y)<|Rq Y (Zi (ov Y) Xe Y Y)<|bE h fun y2 h_y2 h=>Rq Y (Zj (ZbH h_y2)<|.cons (ov Y) (.aggB Y)<|.cons (ov Y) (.aggB Y) .nil)<|Ra Y<|Za<|K5 1 3 5 6 9 Y<|Tr<|Rm Y<|R2 Z0 Y<|Za<|K6 1 3 5 6 9 21 Y<|If h Y (fun h=>?_) fun h=>?_
  ·
   refine K2 6 9 Y<|Tr<|Rq Y (QM (ys := [_, _]) Zgn Zgp ZdY .nil Y)<|Rm Y<|Rx Y (Zk (ov Y) (ov Y) (Zn Xe Y) Y Y Y (Nat.le_of_ble_eq_true Y) (Zd Y) Y)<|Ra Y<|Za<|?_
   obtain rfl := rt h
   exact Zg (Zo Y (.two (.agg Y Y Y Y Xe Y Y<|.cons (Dat.view<|.b Y)<|.cons (View.nils 99) .nil)<|rb Y))
  ·
   refine Ze<|Zl<|K4 1 3 5 6 Y<|Tr<|Rq Y (Zc (ov Y) J8)<|Rq Y (Zb (ov Y) tS3 Y)<|R2 ZY Y<|Za<|K5 1 3 5 6 26 Y<|If h Y (fun h=>?_) fun h=>?_
   ·
    refine K1 6 Y<|Tr<|Rq Y (QM (ys := [_, _]) Zgn Zgp ZdY .nil Y)<|Rx Y (Zk (ov Y) (ov Y) (Zn Xe Y) Y Y Y (Nat.le_of_ble_eq_true Y) (Zd Y) Y)<|Ra Y<|Za<|?_
    obtain rfl := rt h
    exact Zg (Zo Y (.two (.agg Y Y Y Y Xe Y Y<|.cons (Dat.view<|.b Y)<|.cons (View.nils 99) .nil)<|rb Y))
   ·
    refine Ze<|K4 1 3 5 6 Y<|Tr<|Rq Y (Zi (ov Y) ZaH Y Y)<|Rm Y<|Rq Y (Zi (ov Y) Xe Y Y)<|bE h fun y3 h_y3 h=>Rq Y (Zj (Zir h_y3)<|.cons (ov Y) (.aggB Y)<|.cons (ov Y) (.b Y)<|.cons (ov Y) (.aggB Y) .nil)<|Rx Y (Zk (ov Y) (ov Y) (Zn Xe Y) Y Y Y (Nat.le_of_ble_eq_true Y) (Zd Y) Y)<|Ra Y<|Za<|?_
    obtain rfl := rt h
    exact Zg (Zo Y (.two (.agg Y Y Y Y Xe Y Y<|pwB Y)<|rb Y))
theorem Zf8 {p : api_Panel} {s : api_PanelState} {r : Int} (h : J4 p s = some r) :
 CSpec Tryz.prog gl0 20 [.agg [.sl 49 (List.map R49 p.Instruments)], .agg [.int .i64 s.Frame, .sl 99 (List.map R99 s.Memos)]] (.int .i64 r) := by
 unfold J4 at h
 replace h := ZP h
 refine So Tryz.func20 Y fun w0 A=>Tr<|Rq Y (ZB (cva<|ov Y) Y tZ_24 Y)<|Rq Y (ZB (cva<|ov Y) Y tZ_44 Y)<|Ra Y<|Za<|Zl<|K2 2 3 Y<|Tr<|Rq Y (Zi (ov Y) ZaH Y Y)<|bE h fun y h_y h=>Rq Y (Zj (Zdx h_y)<|.cons (ov Y) (.aggB Y) .nil)<|Ra Y<|Za<|K3 2 3 5 Y<|Tr<|Rm Y<|R2 Z0 Y<|Za<|K4 2 3 5 9 Y<|If h Y (fun h=>?_) fun h=>?_
 ·
  refine K1 5 Y<|Tr<|Rm Y<|Ra Y<|Za<|?_
  obtain rfl := rt h
  exact Zg (Zo Y (.one<|rb Y))
 ·
  refine Ze<|K2 2 3 Y<|Tr<|Rq Y (Zi (ov Y) ZaH Y Y)<|Rq Y (Zi (ov Y) Xe Y Y)<|bE h fun y2 h_y2 h=>Rq Y (Zj (Zby h_y2)<|.cons (ov Y) (.aggB Y)<|.cons (ov Y) (.aggB Y) .nil)<|Ra Y<|Za<|?_
  obtain rfl := rt h
  exact Zg (Zo Y (.one<|rb Y))
theorem XP {s1 : List api_Memo} {s2 : List api_Memo} {eq : api_Memo → api_Memo → Option Bool} {r : Bool} {eq_f : FuncId} {eq_c : List AV} (eq_d : eq_c.all datB = true) (eq_h : ∀ (z0 : api_Memo) (z1 : api_Memo) z, eq z0 z1 = some z → CSpec Tryz.prog gl0 eq_f ([.agg [.bool z0.Lit, .bool z0.Some, .int .i64 z0.N, .int .i64 z0.Count, .sl 3 (List.map R3 z0.Tape)], .agg [.bool z1.Lit, .bool z1.Some, .int .i64 z1.N, .int .i64 z1.Count, .sl 3 (List.map R3 z1.Tape)]] ++ eq_c) (.bool z)) (h : ZN s1 s2 eq = some r) :
 CSpec Tryz.prog gl0 56 [.sl 99 (List.map R99 s1), .sl 99 (List.map R99 s2), .fn eq_f eq_c] (.bool r) := by
 unfold ZN at h
 replace h := ZP h
 refine So Tryz.func56 Y fun w0 A=>Tr<|Ra Y<|Za<|Zl<|K3 0 1 2 Y<|Tr<|Rm Y<|Rl tZ_99 Zcl Y<|Rm Y<|Rl tZ_99 Zcl Y<|R2 Z0 Y<|Za<|K4 0 1 2 14 Y<|If h Y (fun h=>?_) fun h=>?_
 ·
  refine K0<|Tr<|Ra Y<|Za<|?_
  obtain rfl := rt h
  exact Zg (Zo Y (.one<|rb Y))
 ·
  refine Ze<|J0 (fun j => (.inr j)) ⟨[], []⟩ h (fun h=>?_) fun h=>?_
  ·
   refine K3 0 1 2 Y<|Tr<|Rm Y<|Rl tZ_99 Zcl Y<|Rm Y<|Za<|Zm<|?_
   obtain ⟨r1, hl1, ho1⟩ := Xt h
   refine L1 (fun i=>⟨[(1, .sl 99 (List.map R99 s2)), (2, .fn eq_f eq_c), (15, .sl 99 (List.map R99 s1)), (16, .int .i64 (s1.length : Int)), (17, .int .i64 i)], []⟩) hl1 (ES []<|sd 1 Y Y<|sr 2 Y (rFn<|rld eq_d)<|sd 15 Y Y<|sd 16 Y Y<|sd 17 Y Y sn) fun n1 i h=>?_
   unfold Zz at h
   refine Tr<|R2 Z8 Y<|Za<|Zl<|If h Y (fun h=>?_) fun h=>?_
   ·
    refine Ze<|Zl<|Zm<|K5 1 2 15 16 17 Y<|Tr<|Rm Y<|bE h fun x h_x h=>Rq Y (ZJ (ov Y) (ov Y) Zcl h_x)<|Rq Y (Zi (ov Y) Zcc Y Y)<|Rx Y (ZC (row := [_, _, _, _, _]) 0 Y Zki Y tZ_99)<|Ra Y<|Rx Y (Zk (ov Y) (ov Y) (Zn Zcc Y) Y Y Y (Nat.le_of_ble_eq_true Y) (Zd Y) Y)<|Za<|K7 1 2 7 8 15 16 17 Y<|Tr<|Rm Y<|Rm Y<|bE h fun x2 h_x2 h=>Rq Y (ZJ (ov Y) (ov Y) Zcl h_x2)<|Rq Y (Zi (ov Y) Zcc Y Y)<|Rx Y (ZC (row := [_, _, _, _, _]) 1 Y Zki Y tZ_99)<|Rx Y (Zk (ov Y) (ov Y) (Zn Zcc Y) Y Y Y (Nat.le_of_ble_eq_true Y) (Zd Y) Y)<|Za<|K7 1 2 8 9 15 16 17 Y<|Tr<|Rm Y<|Rq Y (ZW (ov Y) Y Y Y Zcc Y Y)<|Rq Y (ZW (ov Y) Y Y Y Zcc Y Y)<|bE h fun y h_y h=>Rq Y (Zbq (ov Y) eq_d (eq_h _ _ _ h_y)<|.cons (ov Y) (.aggB Y)<|.cons (ov Y) (.aggB Y) .nil)<|R1 Qe Y<|Za<|K6 1 2 15 16 17 30 Y<|If h Y (fun h=>?_) fun h=>?_
    ·
     refine K0<|Tr<|Ra Y<|Za<|?_
     replace h := lx h ▸ ho1
     obtain rfl := rt h
     exact Zg (Zo Y (.one<|rb Y))
    ·
     exact Ze<|K5 1 2 15 16 17 Y<|Zx<|R2 QG Y<|Rm Y<|Za<|⟨_, h, ES []<|sd 1 Y Y<|sr 2 Y (rFn<|rld eq_d)<|sd 15 Y Y<|sd 16 Y Y<|sd 17 Y Y sn⟩
   ·
    refine ZM<|?_
    replace h := lx h ▸ ho1
    exact ⟨(), h, ES []⟩
  ·
   replace h := elr h
   replace h := t0i h
   refine Tr<|Ra Y<|Za<|?_
   obtain rfl := rt h
   exact Zg (Zo Y (.one<|rb Y))
theorem Zey {s1 : List Int} {s2 : List Int} {r : Bool} (h : XF s1 s2 = some r) :
 CSpec Tryz.prog gl0 46 [.sl 3 (List.map R3 s1), .sl 3 (List.map R3 s2)] (.bool r) := by
 unfold XF at h
 replace h := ZP h
 refine So Tryz.func46 Y fun w0 A=>Tr<|Ra Y<|Za<|Zl<|K2 0 1 Y<|Tr<|Rm Y<|Rl tZ_3 Jl Y<|Rm Y<|Rl tZ_3 Jl Y<|R2 Z0 Y<|Za<|K3 0 1 10 Y<|If h Y (fun h=>?_) fun h=>?_
 ·
  refine K0<|Tr<|Ra Y<|Za<|?_
  obtain rfl := rt h
  exact Zg (Zo Y (.one<|rb Y))
 ·
  refine Ze<|J0 (fun j => (.inr j)) ⟨[], []⟩ h (fun h=>?_) fun h=>?_
  ·
   refine K2 0 1 Y<|Tr<|Rm Y<|Rl tZ_3 Jl Y<|Rm Y<|Za<|Zm<|?_
   obtain ⟨r1, hl1, ho1⟩ := Xt h
   refine L1 (fun i=>⟨[(0, .sl 3 (List.map R3 s1)), (1, .sl 3 (List.map R3 s2)), (12, .int .i64 (s1.length : Int)), (13, .int .i64 i)], []⟩) hl1 (ES []) fun n1 i h=>?_
   unfold QE at h
   refine Tr<|R2 Z8 Y<|Za<|Zl<|If h Y (fun h=>?_) fun h=>?_
   ·
    refine Ze<|Zl<|Zm<|K4 0 1 12 13 Y<|Tr<|Rm Y<|Ra Y<|Za<|K5 0 1 5 12 13 Y<|Td md0<|D1 0 Zh Y<|D1 1 Zh Y<|bE h fun x h_x h=>Dq 2 Y (ZJ (ov Y) (ov Y) Jl h_x)<|Dq 3 Y (Zb (ov Y) tS3 Y)<|D1 4 Zh Y<|D1 5 Zh Y<|bE h fun x2 h_x2 h=>Dq 6 Y (ZJ (ov Y) (ov Y) Jl h_x2)<|Dq 7 Y (Zb (ov Y) tS3 Y)<|D2 8 Z0 Y<|Dd<|K5 0 1 12 13 24 Y<|If h Y (fun h=>?_) fun h=>?_
    ·
     refine K0<|Tr<|Ra Y<|Za<|?_
     replace h := lx h ▸ ho1
     obtain rfl := rt h
     exact Zg (Zo Y (.one<|rb Y))
    ·
     exact Ze<|K4 0 1 12 13 Y<|Zx<|R2 QG Y<|Rm Y<|Za<|⟨_, h, ES []⟩
   ·
    refine ZM<|?_
    replace h := lx h ▸ ho1
    exact ⟨(), h, ES []⟩
  ·
   replace h := elr h
   replace h := t0i h
   refine Tr<|Ra Y<|Za<|?_
   obtain rfl := rt h
   exact Zg (Zo Y (.one<|rb Y))
theorem ZhA {a : api_Memo} {b : api_Memo} {r : Bool} (h : ZaT a b = some r) :
 CSpec Tryz.prog gl0 57 [.agg [.bool a.Lit, .bool a.Some, .int .i64 a.N, .int .i64 a.Count, .sl 3 (List.map R3 a.Tape)], .agg [.bool b.Lit, .bool b.Some, .int .i64 b.N, .int .i64 b.Count, .sl 3 (List.map R3 b.Tape)]] (.bool r) := by
 unfold ZaT at h
 replace h := ZP h
 refine So Tryz.func57 Y fun w0 A=>Tr<|Rq Y (ZB (cva<|ov Y) Y tZ_99 Y)<|Rq Y (ZB (cva<|ov Y) Y tZ_99 Y)<|Ra Y<|Za<|K3 2 3 4 Y<|Tr<|Rq Y (Zc (ov Y) Jr)<|Rq Y (Zb (ov Y) tS4 Y)<|Rq Y (Zc (ov Y) Jr)<|Rq Y (Zb (ov Y) tS4 Y)<|Rq Y (Zk0 .eql (by simp) (ov Y) (ov Y) tB4)<|Rm Y<|Rq Y (.guarded ((a.Lit == b.Lit) == true) Y Y Y Y fun h => Zc (ov Y) Zcu)<|Rq Y (.guarded ((a.Lit == b.Lit) == true) Y Y Y Y fun h => Zb (ow Y h) tS4 Y)<|Rq Y (.guarded ((a.Lit == b.Lit) == true) Y Y Y Y fun h => Zc (ov Y) Zcu)<|Rq Y (.guarded ((a.Lit == b.Lit) == true) Y Y Y Y fun h => Zb (ow Y h) tS4 Y)<|Rq Y (.guarded ((a.Lit == b.Lit) == true) Y Y Y Y fun h => Zk0 .eql (by simp) (ow Y h) (ow Y h) tB4)<|Rq Y (Z3 (ov Y) fun hp=>ow Y<|gT hp)<|Rm Y<|Rq Y (.guarded (((a.Lit == b.Lit) && (a.Some == b.Some)) == true) Y Y Y Y fun h => Zc (ov Y) ZcJ)<|Rq Y (.guarded (((a.Lit == b.Lit) && (a.Some == b.Some)) == true) Y Y Y Y fun h => Zb (ow Y h) tS3 Y)<|Rq Y (.guarded (((a.Lit == b.Lit) && (a.Some == b.Some)) == true) Y Y Y Y fun h => Zc (ov Y) ZcJ)<|Rq Y (.guarded (((a.Lit == b.Lit) && (a.Some == b.Some)) == true) Y Y Y Y fun h => Zb (ow Y h) tS3 Y)<|Rq Y (.guarded (((a.Lit == b.Lit) && (a.Some == b.Some)) == true) Y Y Y Y fun h => ZY (ow Y h)<|ow Y h)<|Rq Y (Z3 (ov Y) fun hp=>ow Y<|gT hp)<|Rm Y<|Rq Y (.guarded ((((a.Lit == b.Lit) && (a.Some == b.Some)) && (decide (a.N = b.N))) == true) Y Y Y Y fun h => Zc (ov Y) Zda)<|Rq Y (.guarded ((((a.Lit == b.Lit) && (a.Some == b.Some)) && (decide (a.N = b.N))) == true) Y Y Y Y fun h => Zb (ow Y h) tS3 Y)<|Rq Y (.guarded ((((a.Lit == b.Lit) && (a.Some == b.Some)) && (decide (a.N = b.N))) == true) Y Y Y Y fun h => Zc (ov Y) Zda)<|Rq Y (.guarded ((((a.Lit == b.Lit) && (a.Some == b.Some)) && (decide (a.N = b.N))) == true) Y Y Y Y fun h => Zb (ow Y h) tS3 Y)<|Rq Y (.guarded ((((a.Lit == b.Lit) && (a.Some == b.Some)) && (decide (a.N = b.N))) == true) Y Y Y Y fun h => ZY (ow Y h)<|ow Y h)<|Rq Y (Z3 (ov Y) fun hp=>ow Y<|gT hp)<|Rm Y<|Rq Y (.guarded (((((a.Lit == b.Lit) && (a.Some == b.Some)) && (decide (a.N = b.N))) && (decide (a.Count = b.Count))) == true) Y Y Y Y fun h => Zc (ov Y) X0)<|Rq Y (.guarded (((((a.Lit == b.Lit) && (a.Some == b.Some)) && (decide (a.N = b.N))) && (decide (a.Count = b.Count))) == true) Y Y Y Y fun h => Zb (ow Y h) Zdd Y)<|Rq Y (.guarded (((((a.Lit == b.Lit) && (a.Some == b.Some)) && (decide (a.N = b.N))) && (decide (a.Count = b.Count))) == true) Y Y Y Y fun h => Zc (ov Y) X0)<|Rq Y (.guarded (((((a.Lit == b.Lit) && (a.Some == b.Some)) && (decide (a.N = b.N))) && (decide (a.Count = b.Count))) == true) Y Y Y Y fun h => Zb (ow Y h) Zdd Y)<|bE h fun y h_y h=>Rq Y (.guarded (((((a.Lit == b.Lit) && (a.Some == b.Some)) && (decide (a.N = b.N))) && (decide (a.Count = b.Count))) == true) Y Y Y Y fun h => Zj (Zey<|gdT h_y h)<|.cons (ow Y h) (.b Y)<|.cons (ow Y h) (.b Y) .nil)<|Rq Y (Z3 (ov Y) fun hp=>ow Y<|gT hp)<|Ra Y<|Za<|?_
 obtain rfl := rt h
 exact Zg (Zo Y (.one<|rb Y))
theorem Zhm {a : api_PanelState} {b : api_PanelState} {r : Bool} (h : Zbh a b = some r) :
 CSpec Tryz.prog gl0 22 [.agg [.int .i64 a.Frame, .sl 99 (List.map R99 a.Memos)], .agg [.int .i64 b.Frame, .sl 99 (List.map R99 b.Memos)]] (.bool r) := by
 unfold Zbh at h
 replace h := ZP h
 refine So Tryz.func22 Y fun w0 A=>Tr<|Rq Y (ZB (cva<|ov Y) Y tZ_44 Y)<|Rq Y (ZB (cva<|ov Y) Y tZ_44 Y)<|Ra Y<|Za<|K3 2 3 4 Y<|Tr<|Rq Y (Zc (ov Y) J8)<|Rq Y (Zb (ov Y) tS3 Y)<|Rq Y (Zc (ov Y) J8)<|Rq Y (Zb (ov Y) tS3 Y)<|R2 ZY Y<|Rm Y<|Rq Y (.guarded ((decide (a.Frame = b.Frame)) == true) Y Y Y Y fun h => Zc (ov Y) Jt)<|Rq Y (.guarded ((decide (a.Frame = b.Frame)) == true) Y Y Y Y fun h => Zb (ow Y h) ZdV Y)<|Rq Y (.guarded ((decide (a.Frame = b.Frame)) == true) Y Y Y Y fun h => Zc (ov Y) Jt)<|Rq Y (.guarded ((decide (a.Frame = b.Frame)) == true) Y Y Y Y fun h => Zb (ow Y h) ZdV Y)<|bE h fun y h_y h=>Rq Y (.guarded ((decide (a.Frame = b.Frame)) == true) Y Y Y Y fun h => Zj (XP Y (fun z0 z1 _ hz=>ZhA hz)<|gdT h_y h)<|.cons (ow Y h) (.b Y)<|.cons (ow Y h) (.b Y)<|.cons (ov Y) .fn .nil)<|Rq Y (Z3 (ov Y) fun hp=>ow Y<|gT hp)<|Ra Y<|Za<|?_
 obtain rfl := rt h
 exact Zg (Zo Y (.one<|rb Y))
theorem Zex {z : Int} {r : Str} (h : itoa z = some r) : CSpec Tryz.prog gl0 90 [.int .i64 z] (.str r) :=
  ZmO (g := 1) (by kernel_rfl) (by kernel_rfl) (by simp [gl0]) (fun _ h1 h2 _ ht => Any.strconv_Itoa Tryz.laysM171 _ h1 h2 _ ht) h
theorem Zc4 {n : Int} {den : Int} {places : Int} {r : Str} (h : Q9 n den places = some r) :
 CSpec Tryz.prog gl0 121 [.int .i64 n, .int .i64 den, .int .i64 places] (.str r) := by
 unfold Q9 at h
 replace h := ZP h
 refine So Tryz.func121 Y fun w0 A=>Tr<|Ra Y<|Za<|K3 0 1 2 Y<|Tr<|Rm Y<|Rm Y<|Rq Y (Zn7 (ov Y) Y)<|Rq Y (Zmh (ov Y) (ov Y) Y)<|Ra Y<|Za<|K4 0 1 2 7 Y<|Tr<|Rm Y<|Rm Y<|bE h fun q h_q h=>Rq Y (Zgy (ov Y) (ov Y) h_q)<|Ra Y<|Ra Y<|Za<|I1 (fun scale=>⟨[(0, .int .i64 n), (1, .int .i64 den), (2, .int .i64 places), (7, .int .i64 (max n (i64 (-n)))), (8, .int .i64 q), (9, .int .i64 scale)], []⟩) h (fun h=>?_) fun scale h=>?_
 ·
  refine K6 0 1 2 7 8 9 Y<|Tr<|Rm Y<|Rm Y<|Za<|Zm<|?_
  obtain ⟨r1, hl1, ho1⟩ := Xt h
  refine L2 (fun scale2 i=>⟨[(0, .int .i64 n), (1, .int .i64 den), (2, .int .i64 places), (7, .int .i64 (max n (i64 (-n)))), (8, .int .i64 q), (9, .int .i64 scale2), (19, .int .i64 places), (20, .int .i64 i)], []⟩) hl1 (ES []) fun n1 scale2 i h=>?_
  unfold ZaD at h
  refine Tr<|R2 Z8 Y<|Za<|Zl<|If h Y (fun h=>?_) fun h=>?_
  ·
   exact Ze<|Zl<|Zm<|K8 0 1 2 7 8 9 19 20 Y<|Zx<|Rm Y<|R2 Ziv Y<|Ra Y<|Za<|K8 0 1 2 7 8 9 19 20 Y<|Zx<|R2 QG Y<|Rm Y<|Za<|⟨_, h, ES []⟩
  ·
   refine ZM<|?_
   replace h := lx h ▸ ho1
   exact ⟨_, h, ES []⟩
 ·
  refine Tr<|Rm Y<|Rm Y<|bE h fun q2 h_q2 h=>Rq Y (Zlu (ov Y) (ov Y) h_q2)<|Rm Y<|R2 Ziv Y<|R2 Ziv Y<|Rm Y<|R2 QG Y<|Rm Y<|R2 Ziv Y<|bE h fun q3 h_q3 h=>Rq Y (Zgy (ov Y) (ov Y) h_q3)<|Ra Y<|Za<|I2 (fun whole part=>⟨[(0, .int .i64 n), (2, .int .i64 places), (8, .int .i64 whole), (9, .int .i64 scale), (10, .int .i64 part)], []⟩) h (fun h=>?_) fun whole part h=>?_
  ·
   refine K5 0 2 8 9 10 Y<|Tr<|Rm Y<|Rm Y<|R2 ZY Y<|Za<|K6 0 2 8 9 10 38 Y<|If h Y (fun h=>?_) fun h=>?_
   ·
    exact K5 0 2 8 9 10 Y<|Zx<|Rm Y<|R2 QG Y<|Ra Y<|Ra Y<|Za<|⟨_, h, ES []⟩
   ·
    exact Ze<|⟨_, h, ES []⟩
  ·
   refine Tr<|Rm Y<|bE h fun y h_y h=>Rq Y (Zj (Zex h_y)<|.cons (ov Y) (.b Y) .nil)<|Ra Y<|Za<|I1 (fun out=>⟨[(0, .int .i64 n), (8, .int .i64 whole), (10, .int .i64 part), (11, .str out)], []⟩) h (fun h=>?_) fun out h=>?_
   ·
    refine K6 0 2 8 9 10 11 Y<|Tr<|Rm Y<|R2 QP Y<|Za<|K6 0 8 9 10 11 44 Y<|If h Y (fun h=>?_) fun h=>?_
    ·
     exact K5 0 8 9 10 11 Y<|Zx<|Rm Y<|Rm Y<|Rm Y<|R2 QG Y<|bE h fun y2 h_y2 h=>Rq Y (Zj (Zex h_y2)<|.cons (ov Y) (.b Y) .nil)<|bE h fun s h_s h=>Rq Y (JD (ov Y) Qf (oi<|ov Y) on h_s)<|bE h fun s2 h_s2 h=>Rq Y (Zbe (ov Y) (ov Y) h_s2)<|bE h fun s3 h_s3 h=>Rq Y (Zbe (ov Y) (ov Y) h_s3)<|Ra Y<|Za<|⟨_, h, ES []⟩
    ·
     exact Ze<|⟨_, h, ES []⟩
   ·
    refine Zl<|Tr<|Rm Y<|R2 Z8 Y<|Rm Y<|Rq Y (.guarded ((decide (n < 0)) == true) Y Y Y Y fun h => Zh<|ov Y)<|Rq Y (.guarded ((decide (n < 0)) == true) Y Y Y Y fun h => QP (ow Y h)<|ov Y)<|Rq Y (.guarded ((decide (n < 0)) == true) Y Y Y Y fun h => Zh<|ow Y h)<|Rq Y (.guarded2 (((decide (n < 0)) == true) && ((decide (0 < whole)) == false)) Y Y Y Y fun h => Zh<|ov Y)<|Rq Y (.guarded2 (((decide (n < 0)) == true) && ((decide (0 < whole)) == false)) Y Y Y Y fun h => QP (ow Y h)<|ov Y)<|Rq Y (.guarded ((decide (n < 0)) == true) Y Y Y Y fun h => QR (ow Y h) fun hp=>ow Y<|gA h<|gF hp)<|Rq Y (Z3 (ov Y) fun hp=>ow Y<|gT hp)<|Za<|K2 11 62 Y<|If h Y (fun h=>?_) fun h=>?_
    ·
     refine K1 11 Y<|Tr<|Rm Y<|bE h fun s4 h_s4 h=>Rq Y (Zbe (ov Y) (ov Y) h_s4)<|Ra Y<|Za<|?_
     obtain rfl := rt h
     exact Zg (Zo Y (.one<|rb Y))
    ·
     refine Ze<|K1 11 Y<|Tr<|Rm Y<|Ra Y<|Za<|?_
     obtain rfl := rt h
     exact Zg (Zo Y (.one<|rb Y))
theorem Ziq {i : api_Instrument} {n : Int} {r : Int} (h : Zai i n = some r) :
 CSpec Tryz.prog gl0 122 [.agg [.int .i64 i.Kind, .str i.Name, .str i.Track, .int .i64 i.Places, .int .i64 i.Low, .int .i64 i.High, .int .i64 i.Steps, .sl 136 (List.map R136 i.Zones), .int .i64 i.Op, .int .i64 i.N, .bool i.Latch, .int .i64 i.Size], .int .i64 n] (.int .i64 r) := by
 unfold Zai at h
 replace h := ZP h
 refine So Tryz.func122 Y fun w0 A=>Tr<|Rq Y (ZB (cva<|ov Y) Y tZ_49 Y)<|Ra Y<|Za<|Zl<|Zm<|K2 1 2 Y<|Tr<|Rm Y<|Rq Y (Zc (ov Y) Zc9)<|Rq Y (Zb (ov Y) tS3 Y)<|R2 ZaM Y<|Ra Y<|Za<|K3 1 2 5 Y<|If h Y (fun h=>?_) fun h=>?_
 ·
  refine K0<|Tr<|Ra Y<|Za<|?_
  obtain rfl := rt h
  exact Zg (Zo Y (.one<|rb Y))
 ·
  refine K2 1 2 Y<|Tr<|Rm Y<|Rq Y (Zc (ov Y) Zep)<|Rq Y (Zb (ov Y) tS3 Y)<|R2 JT Y<|Ra Y<|Za<|K3 1 2 10 Y<|If h Y (fun h=>?_) fun h=>?_
  ·
   refine K1 2 Y<|Tr<|Rq Y (Zc (ov Y) ZfR)<|Rq Y (Zb (ov Y) tS3 Y)<|Ra Y<|Za<|?_
   obtain rfl := rt h
   exact Zg (Zo Y (.one<|rb Y))
  ·
   refine Ze<|K2 1 2 Y<|Tr<|Rm Y<|Rq Y (Zc (ov Y) Zc9)<|Rq Y (Zb (ov Y) tS3 Y)<|R2 Zes Y<|Rq Y (Zc (ov Y) ZfR)<|Rq Y (Zb (ov Y) tS3 Y)<|R2 Ziv Y<|Rq Y (Zc (ov Y) Zep)<|Rq Y (Zb (ov Y) tS3 Y)<|Rq Y (Zc (ov Y) Zc9)<|Rq Y (Zb (ov Y) tS3 Y)<|R2 Zes Y<|bE h fun q h_q h=>Rq Y (Zgy (ov Y) (ov Y) h_q)<|Ra Y<|Za<|?_
   obtain rfl := rt h
   exact Zg (Zo Y (.one<|rb Y))
theorem Ziz {i : api_Instrument} {n : Int} {r : Str} (h : XA i n = some r) :
 CSpec Tryz.prog gl0 123 [.agg [.int .i64 i.Kind, .str i.Name, .str i.Track, .int .i64 i.Places, .int .i64 i.Low, .int .i64 i.High, .int .i64 i.Steps, .sl 136 (List.map R136 i.Zones), .int .i64 i.Op, .int .i64 i.N, .bool i.Latch, .int .i64 i.Size], .int .i64 n] (.str r) := by
 unfold XA at h
 replace h := ZP h
 refine So Tryz.func123 Y fun w0 A=>Tr<|Rq Y (ZB (cva<|ov Y) Y tZ_49 Y)<|Ra Y<|Za<|J0 (fun j => (.inr j)) ⟨[], []⟩ h (fun h=>?_) fun h=>?_
 ·
  refine K2 1 2 Y<|Tr<|Rq Y (Zc (ov Y) Zc8)<|Rq Y (Zb (ov Y) Zit Y)<|Rl tZ_136 Zgf Y<|Rm Y<|Za<|Zm<|?_
  obtain ⟨r1, hl1, ho1⟩ := Xt h
  refine L1 (fun i2=>⟨[(1, .int .i64 n), (8, .sl 136 (List.map R136 i.Zones)), (9, .int .i64 (i.Zones.length : Int)), (10, .int .i64 i2)], []⟩) hl1 (ES []) fun n1 i2 h=>?_
  unfold Qo at h
  refine Tr<|R2 Z8 Y<|Za<|Zl<|If h Y (fun h=>?_) fun h=>?_
  ·
   refine Ze<|Zl<|Zm<|K4 1 8 9 10 Y<|Tr<|bE h fun x h_x h=>Rq Y (ZJ (ov Y) (ov Y) Zgf h_x)<|Rq Y (Zi (ov Y) ZhX Y Y)<|Rx Y (ZC (row := [_, _, _]) 0 Y ZlE Y tZ_136)<|Rx Y (Zk (ov Y) (ov Y) (Zn ZhX Y) Y Y Y (Nat.le_of_ble_eq_true Y) (Zd Y) Y)<|Za<|K5 1 6 8 9 10 Y<|Tr<|Rm Y<|Rq Y (Zf (ov Y) Y Y Zf0)<|Rq Y (Zt (ov Y) Y Y Y tS3 Y)<|Rq Y (Zf (ov Y) Y Y Zf4)<|Rq Y (Zt (ov Y) Y Y Y tS3 Y)<|bE h fun y h_y h=>Rq Y (Zj (Qm h_y)<|.cons (ov Y) (.b Y)<|.cons (ov Y) (.b Y)<|.cons (ov Y) (.b Y) .nil)<|Za<|K6 1 6 8 9 10 19 Y<|If h Y (fun h=>?_) fun h=>?_
   ·
    refine K1 6 Y<|Tr<|Rq Y (Zf (ov Y) Y Y ZiE)<|Rq Y (Zt (ov Y) Y Y Y tS9 Y)<|Ra Y<|Za<|?_
    replace h := lx h ▸ ho1
    obtain rfl := rt h
    exact Zg (Zo Y (.one<|rb Y))
   ·
    exact Ze<|K4 1 8 9 10 Y<|Zx<|R2 QG Y<|Rm Y<|Za<|⟨_, h, ES []⟩
  ·
   refine ZM<|?_
   replace h := lx h ▸ ho1
   exact ⟨(), h, ES []⟩
 ·
  replace h := elr h
  replace h := t0i h
  refine Tr<|Ra Y<|Za<|?_
  obtain rfl := rt h
  exact Zg (Zo Y (.one<|rb Y))
theorem ZmL {l : List Str} {sep r : Str} (h : Zhq l sep = some r) : CSpec Tryz.prog gl0 124 [.sl 9 (l.map R9), .str sep] (.str r) :=
  Zmk (by kernel_rfl) (by kernel_rfl) (fun a c sep w => Any.strings_Join_none Tryz.lays156 Tryz.Builder_Extra_156 a c sep w) (fun bk o c xs sep w => Any.strings_Join Tryz.lays156 Tryz.Builder_Extra_156 bk o c xs sep w) h
theorem ZjI {i : api_Instrument} {m : api_Memo} {den : Int} {x : api_Sample} {known : Bool} {r : api_Face} (h : Je i m den x known = some r) :
 CSpec Tryz.prog gl0 89 [.agg [.int .i64 i.Kind, .str i.Name, .str i.Track, .int .i64 i.Places, .int .i64 i.Low, .int .i64 i.High, .int .i64 i.Steps, .sl 136 (List.map R136 i.Zones), .int .i64 i.Op, .int .i64 i.N, .bool i.Latch, .int .i64 i.Size], .agg [.bool m.Lit, .bool m.Some, .int .i64 m.N, .int .i64 m.Count, .sl 3 (List.map R3 m.Tape)], .int .i64 den, .agg [.int .i64 x.At, .int .i64 x.N, .int .i64 x.Mark], .bool known] (.agg [.str r.Text, .int .i64 r.Needle, .bool r.Lit, .int .i64 r.Mark]) := by
 unfold Je at h
 replace h := ZP h
 refine So Tryz.func89 Y fun w0 A=>Tr<|Rq Y (ZB (cva<|ov Y) Y tZ_49 Y)<|Rq Y (ZB (cva<|ov Y) Y tZ_99 Y)<|Rq Y (ZB (cva<|ov Y) Y tZ_56 Y)<|Rx Y (ZC (row := [_, _, _, _]) 0 Y Zkk Y tZ_39)<|Za<|K6 2 4 5 6 8 10 Y<|Tr<|Rq Y (Zc (ov Y) ZfO)<|Rq Y (Zb (ov Y) tS3 Y)<|Rq Y (Zc (ov Y) Jr)<|Rq Y (Zb (ov Y) tS4 Y)<|Rq Y (QM (ys := [_, _, _, _]) ZmV ZmS Zkk (.cons (cvs (ov Y)<|ZF Y)<|.cons (cvs (ov Y)<|ZF Y)<|.cons (cvs (ov Y)<|ZF Y) .nil) Y)<|Rx Y (ZC (row := [_, _, _, _]) 1 Y Zkk Y tZ_39)<|Rx Y (Zk (ov Y) (ov Y) (Zn ZgN Y) Y Y Y (Nat.le_of_ble_eq_true Y) (Zd Y) Y)<|Za<|I1 (fun out=>⟨[(10, .ptr 0 1 0 0), (11, .ptr 1 1 0 0)], [some ⟨39, [[.str [], .int .i64 0, .bool false, .int .i64 0]]⟩, some ⟨39, [[.str out.Text, .int .i64 out.Needle, .bool out.Lit, .int .i64 out.Mark]]⟩]⟩) h (fun h=>?_) fun out h=>?_
 ·
  refine K7 2 4 5 6 8 10 11 Y<|Tr<|Rq Y (Zc (ov Y) Q5)<|Rq Y (Zb (ov Y) tS3 Y)<|Za<|Zm<|K8 2 4 5 6 8 10 11 21 Y<|Tr<|R2 ZY Y<|Ra Y<|Za<|K9 2 4 5 6 8 10 11 21 22 Y<|If h Y (fun h=>?_) fun h=>?_
  ·
   refine K6 2 4 5 8 10 11 Y<|Tr<|Rm Y<|Za<|K6 2 5 8 10 11 24 Y<|If h Y (fun h=>?_) fun h=>?_
   ·
    exact K5 2 5 8 10 11 Y<|Zx<|Rq Y (Zc (ov Y) Zbj)<|Rq Y (Zb (ov Y) tS3 Y)<|Rm Y<|Rq Y (Zc (ov Y) Zdt)<|Rq Y (Zb (ov Y) tS3 Y)<|bE h fun y h_y h=>Rq Y (Zj (Zc4 h_y)<|.cons (ov Y) (.b Y)<|.cons (ov Y) (.b Y)<|.cons (ov Y) (.b Y) .nil)<|Rq Y (Zf (ov Y) Y Y ZaY)<|Rx Y (Zk (ov Y) (ov Y) (Zr tS9) Y Y Y (Nat.le_of_ble_eq_true Y) (Zd Y) Y)<|Za<|⟨_, h, ES [some 0, some 1]⟩
   ·
    exact Ze<|⟨_, h, ES [some 0, some 1]⟩
  ·
   refine K8 2 4 5 6 8 10 11 21 Y<|Tr<|R2 ZY Y<|Ra Y<|Za<|K9 2 4 5 6 8 10 11 21 32 Y<|If h Y (fun h=>?_) fun h=>?_
   ·
    refine K5 4 5 8 10 11 Y<|Tr<|Rm Y<|Za<|K5 5 8 10 11 34 Y<|If h Y (fun h=>?_) fun h=>?_
    ·
     exact K4 5 8 10 11 Y<|Zcf (cw := md0) (by kernel_rfl)<|Dq 0 Y (Zi (ov Y) Zaf Y Y)<|Dq 1 Y (Zc (ov Y) Zbj)<|Dq 2 Y (Zb (ov Y) tS3 Y)<|bE h fun y2 h_y2 h=>Dq 3 Y (Zj (Ziq h_y2)<|.cons (ov Y) (.aggB Y)<|.cons (ov Y) (.b Y) .nil)<|Dq 4 Y (Zi (ov Y) Zaf Y Y)<|Dq 5 Y (Zc (ov Y) Zbj)<|Dq 6 Y (Zb (ov Y) tS3 Y)<|bE h fun y3 h_y3 h=>Dq 7 Y (Zj (Ziz h_y3)<|.cons (ov Y) (.aggB Y)<|.cons (ov Y) (.b Y) .nil)<|Dq 8 Y (Zf (ov Y) Y Y Zm5)<|Do 9 Y (Zk (ov Y) (ov Y) (Zr tS3) Y Y Y (Nat.le_of_ble_eq_true Y) (Zd Y) Y)<|Dq 10 Y (Zf (ov Y) Y Y ZaY)<|Do 11 Y (Zk (ov Y) (ov Y) (Zr tS9) Y Y Y (Nat.le_of_ble_eq_true Y) (Zd Y) Y)<|Dd<|⟨_, h, ES [some 0, some 1]⟩
    ·
     exact Ze<|⟨_, h, ES [some 0, some 1]⟩
   ·
    refine K7 2 4 5 6 10 11 21 Y<|Tr<|R2 ZY Y<|Ra Y<|Za<|K8 2 4 5 6 10 11 21 45 Y<|If h Y (fun h=>?_) fun h=>?_
    ·
     refine K4 4 6 10 11 Y<|Tr<|Rq Y (Zc (ov Y) Jr)<|Rq Y (Zb (ov Y) tS4 Y)<|Za<|K4 4 10 11 48 Y<|If h Y (fun h=>?_) fun h=>?_
     ·
      exact K2 10 11 Y<|Zx<|Rq Y (Zf (ov Y) Y Y ZaY)<|Rx Y (Zk (ov Y) (ov Y) (Zr tS9) Y Y Y (Nat.le_of_ble_eq_true Y) (Zd Y) Y)<|Za<|⟨_, h, ES [some 0, some 1]⟩
     ·
      refine K3 4 10 11 Y<|Tr<|Rm Y<|Za<|K3 10 11 50 Y<|If h Y (fun h=>?_) fun h=>?_
      ·
       exact K2 10 11 Y<|Zx<|Rq Y (Zf (ov Y) Y Y ZaY)<|Rx Y (Zk (ov Y) (ov Y) (Zr tS9) Y Y Y (Nat.le_of_ble_eq_true Y) (Zd Y) Y)<|Za<|⟨_, h, ES [some 0, some 1]⟩
      ·
       exact Ze<|⟨_, h, ES [some 0, some 1]⟩
    ·
     refine K6 2 5 6 10 11 21 Y<|Tr<|R2 ZY Y<|Ra Y<|Za<|K7 2 5 6 10 11 21 52 Y<|If h Y (fun h=>?_) fun h=>?_
     ·
      refine K5 2 5 6 10 11 Y<|Tr<|Rq Y (Zc (ov Y) Zcu)<|Rq Y (Zb (ov Y) tS4 Y)<|Za<|K6 2 5 6 10 11 55 Y<|If h Y (fun h=>?_) fun h=>?_
      ·
       exact K5 2 5 6 10 11 Y<|Zx<|Rq Y (Zc (ov Y) ZcJ)<|Rq Y (Zb (ov Y) tS3 Y)<|Rm Y<|Rq Y (Zc (ov Y) Zdt)<|Rq Y (Zb (ov Y) tS3 Y)<|bE h fun y4 h_y4 h=>Rq Y (Zj (Zc4 h_y4)<|.cons (ov Y) (.b Y)<|.cons (ov Y) (.b Y)<|.cons (ov Y) (.b Y) .nil)<|Rq Y (Zf (ov Y) Y Y ZaY)<|Rx Y (Zk (ov Y) (ov Y) (Zr tS9) Y Y Y (Nat.le_of_ble_eq_true Y) (Zd Y) Y)<|Za<|⟨_, h, ES [some 0, some 1]⟩
      ·
       exact Ze<|⟨_, h, ES [some 0, some 1]⟩
     ·
      refine K6 2 5 6 10 11 21 Y<|Tr<|R2 ZY Y<|Ra Y<|Za<|K7 2 5 6 10 11 21 63 Y<|If h Y (fun h=>?_) fun h=>?_
      ·
       exact K3 6 10 11 Y<|Zx<|Rq Y (Zc (ov Y) Zda)<|Rq Y (Zb (ov Y) tS3 Y)<|bE h fun y5 h_y5 h=>Rq Y (Zj (Zex h_y5)<|.cons (ov Y) (.b Y) .nil)<|Rq Y (Zf (ov Y) Y Y ZaY)<|Rx Y (Zk (ov Y) (ov Y) (Zr tS9) Y Y Y (Nat.le_of_ble_eq_true Y) (Zd Y) Y)<|Za<|⟨_, h, ES [some 0, some 1]⟩
      ·
       refine K6 2 5 6 10 11 21 Y<|Tr<|R2 ZY Y<|Ra Y<|Za<|K6 2 5 6 10 11 69 Y<|If h Y (fun h=>?_) fun h=>?_
       ·
        refine K5 2 5 6 10 11 Y<|Tr<|Ra Y<|Za<|I1 (fun l=>⟨[(10, .ptr 0 1 0 0), (11, .ptr 1 1 0 0), (12, .own 2 l.length)], [some ⟨39, [[.str [], .int .i64 0, .bool false, .int .i64 0]]⟩, some ⟨39, [[.str [45, 45, 45], .int .i64 0, .bool m.Lit, .int .i64 x.Mark]]⟩, some ⟨9, List.map R9 l⟩]⟩) h (fun h=>?_) fun l h=>?_
        ·
         refine Tr<|Rq Y (Zc (ov Y) X0)<|Rq Y (Zb (ov Y) Zdd Y)<|Rl tZ_3 Jl Y<|Rm Y<|Za<|Zm<|?_
         obtain ⟨r1, hl1, ho1⟩ := Xt h
         refine L2 (fun l2 i2=>⟨[(2, .int .i64 den), (5, .rp [.int .i64 i.Kind, .str i.Name, .str i.Track, .int .i64 i.Places, .int .i64 i.Low, .int .i64 i.High, .int .i64 i.Steps, .sl 136 (List.map R136 i.Zones), .int .i64 i.Op, .int .i64 i.N, .bool i.Latch, .int .i64 i.Size] 0), (10, .ptr 0 1 0 0), (11, .ptr 1 1 0 0), (12, .own 2 l2.length), (72, .sl 3 (List.map R3 m.Tape)), (73, .int .i64 (m.Tape.length : Int)), (74, .int .i64 i2)], [some ⟨39, [[.str [], .int .i64 0, .bool false, .int .i64 0]]⟩, some ⟨39, [[.str [45, 45, 45], .int .i64 0, .bool m.Lit, .int .i64 x.Mark]]⟩, some ⟨9, List.map R9 l2⟩]⟩) hl1 (ES [some 0, some 1, none]) fun n1 l2 i2 h=>?_
         unfold Jb at h
         refine Tr<|R2 Z8 Y<|Za<|Zl<|If h Y (fun h=>?_) fun h=>?_
         ·
          exact Ze<|Zl<|Zm<|K8 2 5 10 11 12 72 73 74 Y<|Tr<|bE h fun x2 h_x2 h=>Rq Y (ZJ (ov Y) (ov Y) Jl h_x2)<|Rq Y (Zb (ov Y) tS3 Y)<|Ra Y<|Za<|K9 2 5 10 11 12 14 72 73 74 Y<|Zx<|Rm Y<|Rm Y<|Rm Y<|Rq Y (Zc (ov Y) Zdt)<|Rq Y (Zb (ov Y) tS3 Y)<|bE h fun y6 h_y6 h=>Rq Y (Zj (Zc4 h_y6)<|.cons (ov Y) (.b Y)<|.cons (ov Y) (.b Y)<|.cons (ov Y) (.b Y) .nil)<|R_q (.sl 9<|List.map R9 ([y6] : List Str)) Y (Jm ZjY (.cons (cvs (ov Y)<|ZF Y) Y (.cons (.b Y) .nil) .nil) Y Y)<|bE h fun l3 h_l3 h=>Rx Y (Zbo (ov Y) (Jg (ov Y) tZ_9) ZjY Y Y Y (fun _=>Zd Y) Y h_l3)<|Ra Y<|Za<|K8 2 5 10 11 12 72 73 74 Y<|Zx<|R2 QG Y<|Rm Y<|Za<|⟨_, h, ES [some 0, some 1, some 2]⟩
         ·
          refine ZM<|?_
          replace h := lx h ▸ ho1
          exact ⟨_, h, ES [some 0, some 1, some 2]⟩
        ·
         refine Tr<|Rm Y<|Rq Y (Zfa (ov Y) Y Y ZjY)<|R2 QP Y<|Za<|K4 10 11 12 89 Y<|If h Y (fun h=>?_) fun h=>?_
         ·
          exact K3 10 11 12 Y<|Zx<|Rm Y<|bE h fun y7 h_y7 h=>Rq Y (ZiC (ZmL h_y7) .str<|.cons (ov Y) (View.ownM Y Y D9)<|.cons (ov Y) (Dat.view<|.b Y) .nil)<|Rq Y (Zf (ov Y) Y Y ZaY)<|Rx Y (Zk (ov Y) (ov Y) (Zr tS9) Y Y Y (Nat.le_of_ble_eq_true Y) (Zd Y) Y)<|Za<|⟨_, h, ES [some 0, some 1]⟩
         ·
          exact Ze<|⟨_, h, ES [some 0, some 1]⟩
       ·
        exact Ze<|⟨_, h, ES [some 0, some 1]⟩
 ·
  refine Tr<|Rq Y (ZW (ov Y) Y Y Y ZgN Y Y)<|Rx Y (Zk (ov Y) (ov Y) (Zn ZgN Y) Y Y Y (Nat.le_of_ble_eq_true Y) (Zd Y) Y)<|Za<|?_
  obtain rfl := rt h
  exact Zg (Zo Y (.one<|.agg Y Y Y Y ZgN Y Y<|pwB Y))
theorem ZfZ {p : api_Panel} {l : List api_Track} {s : api_PanelState} {r : (List api_Face)} (h : Zag p l s = some r) :
 CSpec Tryz.prog gl0 45 [.agg [.sl 49 (List.map R49 p.Instruments)], .sl 54 (List.map R54 l), .agg [.int .i64 s.Frame, .sl 99 (List.map R99 s.Memos)]] (.sl 39 (List.map R39 r)) := by
 unfold Zag at h
 replace h := ZP h
 refine So Tryz.func45 Y fun w0 A=>Tr<|Rq Y (ZB (cva<|ov Y) Y tZ_24 Y)<|Rq Y (ZB (cva<|ov Y) Y tZ_44 Y)<|Ra Y<|Za<|K3 1 3 5 Y<|Tr<|Ra Y<|Za<|I1 (fun out=>⟨[(7, .own 0 out.length)], [some ⟨39, List.map R39 out⟩]⟩) h (fun h=>?_) fun out h=>?_
 ·
  refine Tr<|Rq Y (Zc (ov Y) XO)<|Rq Y (Zb (ov Y) ZcQ Y)<|Rl tZ_49 Zar Y<|Rm Y<|Za<|Zm<|?_
  obtain ⟨r1, hl1, ho1⟩ := Xt h
  refine L2 (fun out2 i=>⟨[(1, .sl 54 (List.map R54 l)), (5, .rp [.int .i64 s.Frame, .sl 99 (List.map R99 s.Memos)] 0), (7, .own 0 out2.length), (14, .sl 49 (List.map R49 p.Instruments)), (15, .int .i64 (p.Instruments.length : Int)), (16, .int .i64 i)], [some ⟨39, List.map R39 out2⟩]⟩) hl1 (ES [none]) fun n1 out2 i h=>?_
  unfold XI at h
  refine Tr<|R2 Z8 Y<|Za<|Zl<|If h Y (fun h=>?_) fun h=>?_
  ·
   refine Ze<|Zl<|Zm<|K6 1 5 7 14 15 16 Y<|Tr<|Rm Y<|bE h fun x h_x h=>Rq Y (ZJ (ov Y) (ov Y) Zar h_x)<|Rq Y (Zi (ov Y) Zaf Y Y)<|Rx Y (ZC (row := [_, _, _, _, _, _, _, _, _, _, _, _]) 1 Y Zjy Y tZ_49)<|Ra Y<|Rx Y (Zk (ov Y) (ov Y) (Zn Zaf Y) Y Y Y (Nat.le_of_ble_eq_true Y) (Zd Y) Y)<|Za<|K8 1 5 7 8 9 14 15 16 Y<|Tr<|Rm Y<|Rm Y<|Rq Y (ZW (ov Y) Y Y Y Zaf Y Y)<|bE h fun y h_y h=>Rq Y (Zj (Zbr h_y)<|.cons (ov Y) (.b Y)<|.cons (ov Y) (.aggB Y) .nil)<|bE h fun x2 h_x2 h=>Rq Y (ZJ (ov Y) (ov Y) Zdl h_x2)<|Rq Y (Zi (ov Y) ZeQ Y Y)<|Rx Y (ZC (row := [_, _, _, _]) 2 Y Zkr Y tZ_54)<|Rx Y (Zk (ov Y) (ov Y) (Zn ZeQ Y) Y Y Y (Nat.le_of_ble_eq_true Y) (Zd Y) Y)<|Za<|K9 1 5 7 8 9 10 14 15 16 Y<|Tr<|Rx Y (ZC (row := [_, _, _]) 3 Y ZdU Y tZ_56)<|Za<|Tr<|Ra Y<|Za<|I2 (fun x3 known=>⟨[(1, .sl 54 (List.map R54 l)), (5, .rp [.int .i64 s.Frame, .sl 99 (List.map R99 s.Memos)] 0), (7, .own 0 out2.length), (8, .int .i64 i), (9, .ptr 1 1 0 0), (10, .ptr 2 1 0 0), (11, .ptr 3 1 0 0), (12, .bool known), (14, .sl 49 (List.map R49 p.Instruments)), (15, .int .i64 (p.Instruments.length : Int)), (16, .int .i64 i)], [some ⟨39, List.map R39 out2⟩, some ⟨49, [[.int .i64 x.Kind, .str x.Name, .str x.Track, .int .i64 x.Places, .int .i64 x.Low, .int .i64 x.High, .int .i64 x.Steps, .sl 136 (List.map R136 x.Zones), .int .i64 x.Op, .int .i64 x.N, .bool x.Latch, .int .i64 x.Size]]⟩, some ⟨54, [[.str x2.Name, .int .i64 x2.Series.Den, .sl 56 (List.map R56 x2.Series.Samples), .int .i64 x2.Long]]⟩, some ⟨56, [[.int .i64 x3.At, .int .i64 x3.N, .int .i64 x3.Mark]]⟩]⟩) h (fun h=>?_) fun x3 known h=>?_
   ·
    refine Tr<|Rq Y (Zc (ov Y) J8)<|Rq Y (Zb (ov Y) tS3 Y)<|R2 JT Y<|Za<|K12 1 5 7 8 9 10 11 12 14 15 16 29 Y<|If h Y (fun h=>?_) fun h=>?_
    ·
     exact K11 1 5 7 8 9 10 11 12 14 15 16 Y<|Zx<|Rq Y (ZW (ov Y) Y Y Y ZeQ Y Y)<|Rq Y (Zc (ov Y) J8)<|Rq Y (Zb (ov Y) tS3 Y)<|bE h fun y2 h_y2 h=>Rq Y (Zj (Zdp h_y2)<|.cons (ov Y) (.aggB Y)<|.cons (ov Y) (.b Y) .nil)<|Rm Y<|Rq Y (Zu (ov Y) Y)<|Rq Y (Zu (ov Y) Y)<|Rx Y (Zk (ov Y) (ov Y) (Zn Jq Y) Y Y Y (Nat.le_of_ble_eq_true Y) (Zd Y) Y)<|Ra Y<|Za<|⟨_, h, ES [some 0, some 1, some 2, some 3]⟩
    ·
     exact Ze<|⟨_, h, ES [some 0, some 1, some 2, some 3]⟩
   ·
    exact Zcf (cw := md0) (by kernel_rfl)<|D1 0 Zh Y<|Dq 1 Y (ZW (ov Y) Y Y Y Zaf Y Y)<|Dq 2 Y (Zc (ov Y) Jt)<|Dq 3 Y (Zb (ov Y) ZdV Y)<|D1 4 Zh Y<|bE h fun x4 h_x4 h=>Dq 5 Y (ZJ (ov Y) (ov Y) Zcl h_x4)<|Dq 6 Y (Zi (ov Y) Zcc Y Y)<|Dq 7 Y (Zf (ov Y) Y Y ZfE)<|Dq 8 Y (Zf (ov Y) Y Y Zkh)<|Dq 9 Y (Zt (ov Y) Y Y Y tS3 Y)<|Dq 10 Y (ZW (ov Y) Y Y Y Jq Y Y)<|D1 11 Zh Y<|bE h fun y3 h_y3 h=>Dq 12 Y (Zj (ZjI h_y3)<|.cons (ov Y) (.aggB Y)<|.cons (ov Y) (.aggB Y)<|.cons (ov Y) (.b Y)<|.cons (ov Y) (.aggB Y)<|.cons (ov Y) (.b Y) .nil)<|ZkD 13 (.sl 39<|List.map R39 ([y3] : List api_Face)) Y (by kernel_rfl) Y Y (Jm ZfY (.cons (cva<|ov Y) Y (pwD Y) .nil) Y Y)<|bE h fun l2 h_l2 h=>Do 14 Y (Zbo (ov Y) (Jg (ov Y) tZ_39) ZfY Y Y Y (fun _=>Zd Y) Y h_l2)<|D1 15 QN Y<|Dd<|K6 1 5 7 14 15 16 Y<|Zx<|R2 QG Y<|Rm Y<|Za<|⟨_, h, ES [some 0]⟩
  ·
   refine ZM<|?_
   replace h := lx h ▸ ho1
   exact ⟨_, h, ES [some 0]⟩
 ·
  refine Tr<|Rm Y<|Ra Y<|Za<|?_
  obtain rfl := rt h
  exact Zg (Zo Y (.one<|.tmp Y<|View.ownM Y Y D39))
theorem ZiS {p : api_Panel} {l : List api_Track} {s : api_PanelState} {r : (List api_Face) × Int} (h : ZcY p l s = some r) :
 CSpec Tryz.prog gl0 23 [.agg [.sl 49 (List.map R49 p.Instruments)], .sl 54 (List.map R54 l), .agg [.int .i64 s.Frame, .sl 99 (List.map R99 s.Memos)]] (.tuple [.sl 39 (List.map R39 r.1), .int .i64 r.2]) := by
 unfold ZcY at h
 replace h := ZP h
 refine So Tryz.func23 Y fun w0 A=>Tr<|Rq Y (ZB (cva<|ov Y) Y tZ_24 Y)<|Rq Y (ZB (cva<|ov Y) Y tZ_44 Y)<|Ra Y<|Ra Y<|Za<|Zl<|K3 1 3 5 Y<|Tr<|Rq Y (Zi (ov Y) ZaH Y Y)<|Rm Y<|bE h fun y h_y h=>Rq Y (Zj (ZbG h_y)<|.cons (ov Y) (.aggB Y)<|.cons (ov Y) (.b Y) .nil)<|Ra Y<|Za<|K4 1 3 5 8 Y<|Tr<|Rm Y<|R2 Z0 Y<|Za<|K5 1 3 5 8 14 Y<|If h Y (fun h=>?_) fun h=>?_
 ·
  refine K1 8 Y<|Tr<|Rm Y<|Ra Y<|Ra Y<|Za<|?_
  obtain rfl := rt h
  exact Zg (Zo Y (.two (.tmp Y<|View.nils 39)<|rb Y))
 ·
  refine Ze<|Zl<|K3 1 3 5 Y<|Tr<|Rq Y (Zi (ov Y) ZaH Y Y)<|Rq Y (Zi (ov Y) Xe Y Y)<|bE h fun y2 h_y2 h=>Rq Y (Zj (Zby h_y2)<|.cons (ov Y) (.aggB Y)<|.cons (ov Y) (.aggB Y) .nil)<|Ra Y<|Za<|K4 1 3 5 9 Y<|Tr<|Rm Y<|R2 Z0 Y<|Za<|K5 1 3 5 9 20 Y<|If h Y (fun h=>?_) fun h=>?_
  ·
   refine K1 9 Y<|Tr<|Rm Y<|Ra Y<|Ra Y<|Za<|?_
   obtain rfl := rt h
   exact Zg (Zo Y (.two (.tmp Y<|View.nils 39)<|rb Y))
  ·
   refine Ze<|K3 1 3 5 Y<|Tr<|Rq Y (Zi (ov Y) ZaH Y Y)<|Rm Y<|Rq Y (Zi (ov Y) Xe Y Y)<|bE h fun y3 h_y3 h=>Rq Y (Zj (ZfZ h_y3)<|.cons (ov Y) (.aggB Y)<|.cons (ov Y) (.b Y)<|.cons (ov Y) (.aggB Y) .nil)<|Ra Y<|Ra Y<|Za<|?_
   obtain rfl := rt h
   exact Zg (Zo Y (.two (rb Y)<|rb Y))
theorem Zce {n : Int} {den : Int} {places : Int} {r : Str} (h : JG n den places = some r) :
 CSpec Tryz.prog gl0 48 [.int .i64 n, .int .i64 den, .int .i64 places] (.str r) := by
 unfold JG at h
 replace h := ZP h
 refine So Tryz.func48 Y fun w0 A=>Tr<|Ra Y<|Za<|K3 0 1 2 Y<|Tr<|Rm Y<|Ra Y<|Ra Y<|Za<|I2 (fun size sign=>⟨[(1, .int .i64 den), (2, .int .i64 places), (7, .int .i64 size), (8, .str sign)], []⟩) h (fun h=>?_) fun size sign h=>?_
 ·
  refine K5 0 1 2 7 8 Y<|Tr<|Rm Y<|R2 Z8 Y<|Za<|K6 0 1 2 7 8 15 Y<|If h Y (fun h=>?_) fun h=>?_
  ·
   exact K5 0 1 2 7 8 Y<|Zx<|Rm Y<|Rq Y (Zn7 (ov Y) Y)<|Ra Y<|Ra Y<|Za<|⟨_, h, ES []⟩
  ·
   exact Ze<|⟨_, h, ES []⟩
 ·
  refine Tr<|Ra Y<|Za<|I1 (fun unit=>⟨[(1, .int .i64 den), (2, .int .i64 places), (7, .int .i64 size), (8, .str sign), (9, .int .i64 unit)], []⟩) h (fun h=>?_) fun unit h=>?_
  ·
   refine Tr<|Rm Y<|Rm Y<|Za<|Zm<|?_
   obtain ⟨r1, hl1, ho1⟩ := Xt h
   refine L2 (fun unit2 i=>⟨[(1, .int .i64 den), (2, .int .i64 places), (7, .int .i64 size), (8, .str sign), (9, .int .i64 unit2), (18, .int .i64 places), (19, .int .i64 i)], []⟩) hl1 (ES []) fun n1 unit2 i h=>?_
   unfold ZdQ at h
   refine Tr<|R2 Z8 Y<|Za<|Zl<|If h Y (fun h=>?_) fun h=>?_
   ·
    exact Ze<|Zl<|Zm<|K7 1 2 7 8 9 18 19 Y<|Zx<|Rm Y<|R2 Ziv Y<|Ra Y<|Za<|K7 1 2 7 8 9 18 19 Y<|Zx<|R2 QG Y<|Rm Y<|Za<|⟨_, h, ES []⟩
   ·
    refine ZM<|?_
    replace h := lx h ▸ ho1
    exact ⟨_, h, ES []⟩
  ·
   refine Td md0<|D1 0 Zh Y<|D1 1 Zh Y<|bE h fun q h_q h=>Dq 2 Y (Zgy (ov Y) (ov Y) h_q)<|D1 3 Zh Y<|D2 4 Ziv Y<|D1 5 Zh Y<|D1 6 Zh Y<|bE h fun q2 h_q2 h=>Dq 7 Y (Zlu (ov Y) (ov Y) h_q2)<|D2 8 Ziv Y<|D1 9 Zh Y<|D2 10 QG Y<|D1 11 Zh Y<|D2 12 Ziv Y<|bE h fun q3 h_q3 h=>Dq 13 Y (Zgy (ov Y) (ov Y) h_q3)<|D1 14 QN Y<|D1 15 QN Y<|Dd<|I2 (fun whole part=>⟨[(2, .int .i64 places), (8, .str sign), (9, .int .i64 unit), (10, .int .i64 whole), (11, .int .i64 part)], []⟩) h (fun h=>?_) fun whole part h=>?_
   ·
    refine K5 2 8 9 10 11 Y<|Tr<|Rm Y<|Rm Y<|R2 ZY Y<|Za<|K6 2 8 9 10 11 40 Y<|If h Y (fun h=>?_) fun h=>?_
    ·
     exact K5 2 8 9 10 11 Y<|Zx<|Rm Y<|R2 QG Y<|Ra Y<|Ra Y<|Za<|⟨_, h, ES []⟩
    ·
     exact Ze<|⟨_, h, ES []⟩
   ·
    refine I1 (fun sign2=>⟨[(2, .int .i64 places), (8, .str sign2), (9, .int .i64 unit), (10, .int .i64 whole), (11, .int .i64 part)], []⟩) h (fun h=>?_) fun sign2 h=>?_
    ·
     refine Tr<|Rm Y<|R2 ZY Y<|Rm Y<|Rq Y (.guarded ((decide (whole = 0)) == true) Y Y Y Y fun h => Zh<|ov Y)<|Rq Y (.guarded ((decide (whole = 0)) == true) Y Y Y Y fun h => ZY (ow Y h)<|ov Y)<|Rq Y (Z3 (ov Y) fun hp=>ow Y<|gT hp)<|Za<|K6 2 8 9 10 11 48 Y<|If h Y (fun h=>?_) fun h=>?_
     ·
      exact K5 2 8 9 10 11 Y<|Zx<|Ra Y<|Za<|⟨_, h, ES []⟩
     ·
      exact Ze<|⟨_, h, ES []⟩
    ·
     refine Tr<|Rm Y<|bE h fun y h_y h=>Rq Y (Zj (Zex h_y)<|.cons (ov Y) (.b Y) .nil)<|Ra Y<|Za<|I1 (fun s=>⟨[(8, .str sign2), (12, .str s)], []⟩) h (fun h=>?_) fun s h=>?_
     ·
      refine K5 2 8 9 11 12 Y<|Tr<|Rm Y<|R2 QP Y<|Za<|K5 8 9 11 12 52 Y<|If h Y (fun h=>?_) fun h=>?_
      ·
       exact K4 8 9 11 12 Y<|Zx<|Rm Y<|Rm Y<|Rm Y<|R2 QG Y<|bE h fun y2 h_y2 h=>Rq Y (Zj (Zex h_y2)<|.cons (ov Y) (.b Y) .nil)<|bE h fun s2 h_s2 h=>Rq Y (JD (ov Y) Qf (oi<|ov Y) on h_s2)<|bE h fun s3 h_s3 h=>Rq Y (Zbe (ov Y) (ov Y) h_s3)<|bE h fun s4 h_s4 h=>Rq Y (Zbe (ov Y) (ov Y) h_s4)<|Ra Y<|Za<|⟨_, h, ES []⟩
      ·
       exact Ze<|⟨_, h, ES []⟩
     ·
      refine Tr<|Rm Y<|Rm Y<|bE h fun s5 h_s5 h=>Rq Y (Zbe (ov Y) (ov Y) h_s5)<|Ra Y<|Za<|?_
      obtain rfl := rt h
      exact Zg (Zo Y (.one<|rb Y))
theorem ZiP {i : api_Instrument} {n : Int} {r : Int} (h : Zd0 i n = some r) :
 CSpec Tryz.prog gl0 142 [.agg [.int .i64 i.Kind, .str i.Name, .str i.Track, .int .i64 i.Places, .int .i64 i.Low, .int .i64 i.High, .int .i64 i.Steps, .sl 136 (List.map R136 i.Zones), .int .i64 i.Op, .int .i64 i.N, .bool i.Latch, .int .i64 i.Size], .int .i64 n] (.int .i64 r) := by
 unfold Zd0 at h
 replace h := ZP h
 refine So Tryz.func142 Y fun w0 A=>Tr<|Rq Y (ZB (cva<|ov Y) Y tZ_49 Y)<|Ra Y<|Za<|Zl<|K2 1 2 Y<|Tr<|Rm Y<|Rq Y (Zc (ov Y) Zc9)<|Rq Y (Zb (ov Y) tS3 Y)<|R2 ZaM Y<|Za<|K3 1 2 8 Y<|If h Y (fun h=>?_) fun h=>?_
 ·
  refine K0<|Tr<|Ra Y<|Za<|?_
  obtain rfl := rt h
  exact Zg (Zo Y (.one<|rb Y))
 ·
  refine Ze<|Zl<|K2 1 2 Y<|Tr<|Rm Y<|Rq Y (Zc (ov Y) Zep)<|Rq Y (Zb (ov Y) tS3 Y)<|R2 JT Y<|Za<|K3 1 2 12 Y<|If h Y (fun h=>?_) fun h=>?_
  ·
   refine K1 2 Y<|Tr<|Rq Y (Zc (ov Y) ZfR)<|Rq Y (Zb (ov Y) tS3 Y)<|Ra Y<|Za<|?_
   obtain rfl := rt h
   exact Zg (Zo Y (.one<|rb Y))
  ·
   refine Ze<|K2 1 2 Y<|Tr<|Rm Y<|Rq Y (Zc (ov Y) Zc9)<|Rq Y (Zb (ov Y) tS3 Y)<|R2 Zes Y<|Rq Y (Zc (ov Y) ZfR)<|Rq Y (Zb (ov Y) tS3 Y)<|R2 Ziv Y<|Rq Y (Zc (ov Y) Zep)<|Rq Y (Zb (ov Y) tS3 Y)<|Rq Y (Zc (ov Y) Zc9)<|Rq Y (Zb (ov Y) tS3 Y)<|R2 Zes Y<|bE h fun q h_q h=>Rq Y (Zgy (ov Y) (ov Y) h_q)<|Ra Y<|Za<|?_
   obtain rfl := rt h
   exact Zg (Zo Y (.one<|rb Y))
theorem Zkz {i : api_Instrument} {n : Int} {r : Str} (h : ZeS i n = some r) :
 CSpec Tryz.prog gl0 143 [.agg [.int .i64 i.Kind, .str i.Name, .str i.Track, .int .i64 i.Places, .int .i64 i.Low, .int .i64 i.High, .int .i64 i.Steps, .sl 136 (List.map R136 i.Zones), .int .i64 i.Op, .int .i64 i.N, .bool i.Latch, .int .i64 i.Size], .int .i64 n] (.str r) := by
 unfold ZeS at h
 replace h := ZP h
 refine So Tryz.func143 Y fun w0 A=>Tr<|Rq Y (ZB (cva<|ov Y) Y tZ_49 Y)<|Ra Y<|Za<|J0 (fun j => (.inr j)) ⟨[], []⟩ h (fun h=>?_) fun h=>?_
 ·
  refine K2 1 2 Y<|Tr<|Rq Y (Zc (ov Y) Zc8)<|Rq Y (Zb (ov Y) Zit Y)<|Rl tZ_136 Zgf Y<|Rm Y<|Za<|Zm<|?_
  obtain ⟨r1, hl1, ho1⟩ := Xt h
  refine L1 (fun i2=>⟨[(1, .int .i64 n), (8, .sl 136 (List.map R136 i.Zones)), (9, .int .i64 (i.Zones.length : Int)), (10, .int .i64 i2)], []⟩) hl1 (ES []) fun n1 i2 h=>?_
  unfold Zg4 at h
  refine Tr<|R2 Z8 Y<|Za<|Zl<|If h Y (fun h=>?_) fun h=>?_
  ·
   refine Ze<|Zl<|Zm<|K4 1 8 9 10 Y<|Tr<|bE h fun x h_x h=>Rq Y (ZJ (ov Y) (ov Y) Zgf h_x)<|Rq Y (Zi (ov Y) ZhX Y Y)<|Rx Y (ZC (row := [_, _, _]) 0 Y ZlE Y tZ_136)<|Rx Y (Zk (ov Y) (ov Y) (Zn ZhX Y) Y Y Y (Nat.le_of_ble_eq_true Y) (Zd Y) Y)<|Za<|K5 1 6 8 9 10 Y<|Tr<|Rq Y (Zf (ov Y) Y Y Zf0)<|Rq Y (Zt (ov Y) Y Y Y tS3 Y)<|Rm Y<|R2 ZaM Y<|Rm Y<|Rq Y (.guarded ((decide (x.From ≤ n)) == true) Y Y Y Y fun h => Zh<|ov Y)<|Rq Y (.guarded ((decide (x.From ≤ n)) == true) Y Y Y Y fun h => Zf (ov Y) Y Y Zf4)<|Rq Y (.guarded ((decide (x.From ≤ n)) == true) Y Y Y Y fun h => Zt (ow Y h) Y Y Y tS3 Y)<|Rq Y (.guarded ((decide (x.From ≤ n)) == true) Y Y Y Y fun h => ZaM (ow Y h)<|ow Y h)<|Rq Y (Z3 (ov Y) fun hp=>ow Y<|gT hp)<|Za<|K6 1 6 8 9 10 23 Y<|If h Y (fun h=>?_) fun h=>?_
   ·
    refine K1 6 Y<|Tr<|Rq Y (Zf (ov Y) Y Y ZiE)<|Rq Y (Zt (ov Y) Y Y Y tS9 Y)<|Ra Y<|Za<|?_
    replace h := lx h ▸ ho1
    obtain rfl := rt h
    exact Zg (Zo Y (.one<|rb Y))
   ·
    exact Ze<|K4 1 8 9 10 Y<|Zx<|R2 QG Y<|Rm Y<|Za<|⟨_, h, ES []⟩
  ·
   refine ZM<|?_
   replace h := lx h ▸ ho1
   exact ⟨(), h, ES []⟩
 ·
  replace h := elr h
  replace h := t0i h
  refine Tr<|Ra Y<|Za<|?_
  obtain rfl := rt h
  exact Zg (Zo Y (.one<|rb Y))
theorem Zku {i : api_Instrument} {den : Int} {m : api_Memo} {s : api_Sample} {known : Bool} {r : api_Face} (h : Zdm i den m s known = some r) :
 CSpec Tryz.prog gl0 101 [.agg [.int .i64 i.Kind, .str i.Name, .str i.Track, .int .i64 i.Places, .int .i64 i.Low, .int .i64 i.High, .int .i64 i.Steps, .sl 136 (List.map R136 i.Zones), .int .i64 i.Op, .int .i64 i.N, .bool i.Latch, .int .i64 i.Size], .int .i64 den, .agg [.bool m.Lit, .bool m.Some, .int .i64 m.N, .int .i64 m.Count, .sl 3 (List.map R3 m.Tape)], .agg [.int .i64 s.At, .int .i64 s.N, .int .i64 s.Mark], .bool known] (.agg [.str r.Text, .int .i64 r.Needle, .bool r.Lit, .int .i64 r.Mark]) := by
 unfold Zdm at h
 replace h := ZP h
 refine So Tryz.func101 Y fun w0 A=>Tr<|Rq Y (ZB (cva<|ov Y) Y tZ_49 Y)<|Rq Y (ZB (cva<|ov Y) Y tZ_99 Y)<|Rq Y (ZB (cva<|ov Y) Y tZ_56 Y)<|Rx Y (ZC (row := [_, _, _, _]) 0 Y Zkk Y tZ_39)<|Za<|K6 1 4 5 7 8 10 Y<|Tr<|Rq Y (QM (ys := [_, _, _, _]) ZmV ZmS Zkk (.cons (cvs (ov Y)<|ZF Y)<|.cons (cvs (ov Y)<|ZF Y) .nil) Y)<|Rx Y (ZC (row := [_, _, _, _]) 1 Y Zkk Y tZ_39)<|Rx Y (Zk (ov Y) (ov Y) (Zn ZgN Y) Y Y Y (Nat.le_of_ble_eq_true Y) (Zd Y) Y)<|Za<|I1 (fun Mark=>⟨[(1, .int .i64 den), (4, .bool known), (5, .rp [.int .i64 i.Kind, .str i.Name, .str i.Track, .int .i64 i.Places, .int .i64 i.Low, .int .i64 i.High, .int .i64 i.Steps, .sl 136 (List.map R136 i.Zones), .int .i64 i.Op, .int .i64 i.N, .bool i.Latch, .int .i64 i.Size] 0), (7, .rp [.bool m.Lit, .bool m.Some, .int .i64 m.N, .int .i64 m.Count, .sl 3 (List.map R3 m.Tape)] 0), (8, .rp [.int .i64 s.At, .int .i64 s.N, .int .i64 s.Mark] 0), (10, .ptr 0 1 0 0), (11, .ptr 1 1 0 0)], [some ⟨39, [[.str [], .int .i64 0, .bool false, .int .i64 0]]⟩, some ⟨39, [[.str [45, 45, 45], .int .i64 0, .bool false, .int .i64 Mark]]⟩]⟩) h (fun h=>?_) fun Mark h=>?_
 ·
  refine K7 1 4 5 7 8 10 11 Y<|Tr<|Rm Y<|Za<|If h Y (fun h=>?_) fun h=>?_
  ·
   exact K7 1 4 5 7 8 10 11 Y<|Zx<|Rq Y (Zc (ov Y) ZfO)<|Rq Y (Zb (ov Y) tS3 Y)<|Rq Y (Zf (ov Y) Y Y Zlr)<|Rx Y (Zk (ov Y) (ov Y) (Zr tS3) Y Y Y (Nat.le_of_ble_eq_true Y) (Zd Y) Y)<|Za<|⟨_, h, ES [some 0, some 1]⟩
  ·
   exact Ze<|⟨_, h, ES [some 0, some 1]⟩
 ·
  refine I1 (fun f=>⟨[(10, .ptr 0 1 0 0), (11, .ptr 1 1 0 0)], [some ⟨39, [[.str [], .int .i64 0, .bool false, .int .i64 0]]⟩, some ⟨39, [[.str f.Text, .int .i64 f.Needle, .bool f.Lit, .int .i64 f.Mark]]⟩]⟩) h (fun h=>?_) fun f h=>?_
  ·
   refine Tr<|Rq Y (Zc (ov Y) Q5)<|Rq Y (Zb (ov Y) tS3 Y)<|Za<|Zm<|K8 1 4 5 7 8 10 11 20 Y<|Tr<|R2 ZY Y<|Ra Y<|Za<|K9 1 4 5 7 8 10 11 20 21 Y<|If h Y (fun h=>?_) fun h=>?_
   ·
    refine K6 1 4 5 8 10 11 Y<|Tr<|Rm Y<|Za<|K6 1 5 8 10 11 23 Y<|If h Y (fun h=>?_) fun h=>?_
    ·
     exact K5 1 5 8 10 11 Y<|Zx<|Rq Y (Zc (ov Y) Zbj)<|Rq Y (Zb (ov Y) tS3 Y)<|Rm Y<|Rq Y (Zc (ov Y) Zdt)<|Rq Y (Zb (ov Y) tS3 Y)<|bE h fun y h_y h=>Rq Y (Zj (Zce h_y)<|.cons (ov Y) (.b Y)<|.cons (ov Y) (.b Y)<|.cons (ov Y) (.b Y) .nil)<|Rq Y (Zf (ov Y) Y Y ZaY)<|Rx Y (Zk (ov Y) (ov Y) (Zr tS9) Y Y Y (Nat.le_of_ble_eq_true Y) (Zd Y) Y)<|Za<|⟨_, h, ES [some 0, some 1]⟩
    ·
     exact Ze<|⟨_, h, ES [some 0, some 1]⟩
   ·
    refine K8 1 4 5 7 8 10 11 20 Y<|Tr<|R2 ZY Y<|Ra Y<|Za<|K9 1 4 5 7 8 10 11 20 31 Y<|If h Y (fun h=>?_) fun h=>?_
    ·
     refine K5 4 5 8 10 11 Y<|Tr<|Rm Y<|Za<|K5 5 8 10 11 33 Y<|If h Y (fun h=>?_) fun h=>?_
     ·
      exact K4 5 8 10 11 Y<|Zcf (cw := md0) (by kernel_rfl)<|Dq 0 Y (Zi (ov Y) Zaf Y Y)<|Dq 1 Y (Zc (ov Y) Zbj)<|Dq 2 Y (Zb (ov Y) tS3 Y)<|bE h fun y2 h_y2 h=>Dq 3 Y (Zj (ZiP h_y2)<|.cons (ov Y) (.aggB Y)<|.cons (ov Y) (.b Y) .nil)<|Dq 4 Y (Zi (ov Y) Zaf Y Y)<|Dq 5 Y (Zc (ov Y) Zbj)<|Dq 6 Y (Zb (ov Y) tS3 Y)<|bE h fun y3 h_y3 h=>Dq 7 Y (Zj (Zkz h_y3)<|.cons (ov Y) (.aggB Y)<|.cons (ov Y) (.b Y) .nil)<|Dq 8 Y (Zf (ov Y) Y Y Zm5)<|Do 9 Y (Zk (ov Y) (ov Y) (Zr tS3) Y Y Y (Nat.le_of_ble_eq_true Y) (Zd Y) Y)<|Dq 10 Y (Zf (ov Y) Y Y ZaY)<|Do 11 Y (Zk (ov Y) (ov Y) (Zr tS9) Y Y Y (Nat.le_of_ble_eq_true Y) (Zd Y) Y)<|Dd<|⟨_, h, ES [some 0, some 1]⟩
     ·
      exact Ze<|⟨_, h, ES [some 0, some 1]⟩
    ·
     refine K7 1 4 5 7 10 11 20 Y<|Tr<|R2 ZY Y<|Ra Y<|Za<|K8 1 4 5 7 10 11 20 44 Y<|If h Y (fun h=>?_) fun h=>?_
     ·
      refine K4 4 7 10 11 Y<|Tr<|Rq Y (Zc (ov Y) Jr)<|Rq Y (Zb (ov Y) tS4 Y)<|Rq Y (Zf (ov Y) Y Y Zkb)<|Rx Y (Zk (ov Y) (ov Y) (Zr tS4) Y Y Y (Nat.le_of_ble_eq_true Y) (Zd Y) Y)<|Za<|K4 4 7 10 11 Y<|Tr<|Rq Y (Zc (ov Y) Jr)<|Rq Y (Zb (ov Y) tS4 Y)<|Za<|K4 4 10 11 50 Y<|If h Y (fun h=>?_) fun h=>?_
      ·
       exact K2 10 11 Y<|Zx<|Rq Y (Zf (ov Y) Y Y ZaY)<|Rx Y (Zk (ov Y) (ov Y) (Zr tS9) Y Y Y (Nat.le_of_ble_eq_true Y) (Zd Y) Y)<|Za<|⟨_, h, ES [some 0, some 1]⟩
      ·
       refine K3 4 10 11 Y<|Tr<|Rm Y<|Za<|K3 10 11 52 Y<|If h Y (fun h=>?_) fun h=>?_
       ·
        exact K2 10 11 Y<|Zx<|Rq Y (Zf (ov Y) Y Y ZaY)<|Rx Y (Zk (ov Y) (ov Y) (Zr tS9) Y Y Y (Nat.le_of_ble_eq_true Y) (Zd Y) Y)<|Za<|⟨_, h, ES [some 0, some 1]⟩
       ·
        exact Ze<|⟨_, h, ES [some 0, some 1]⟩
     ·
      refine K6 1 5 7 10 11 20 Y<|Tr<|R2 ZY Y<|Ra Y<|Za<|K7 1 5 7 10 11 20 54 Y<|If h Y (fun h=>?_) fun h=>?_
      ·
       refine K5 1 5 7 10 11 Y<|Tr<|Rq Y (Zc (ov Y) Zcu)<|Rq Y (Zb (ov Y) tS4 Y)<|Za<|K6 1 5 7 10 11 57 Y<|If h Y (fun h=>?_) fun h=>?_
       ·
        exact K5 1 5 7 10 11 Y<|Zx<|Rq Y (Zc (ov Y) ZcJ)<|Rq Y (Zb (ov Y) tS3 Y)<|Rm Y<|Rq Y (Zc (ov Y) Zdt)<|Rq Y (Zb (ov Y) tS3 Y)<|bE h fun y4 h_y4 h=>Rq Y (Zj (Zce h_y4)<|.cons (ov Y) (.b Y)<|.cons (ov Y) (.b Y)<|.cons (ov Y) (.b Y) .nil)<|Rq Y (Zf (ov Y) Y Y ZaY)<|Rx Y (Zk (ov Y) (ov Y) (Zr tS9) Y Y Y (Nat.le_of_ble_eq_true Y) (Zd Y) Y)<|Za<|⟨_, h, ES [some 0, some 1]⟩
       ·
        exact Ze<|⟨_, h, ES [some 0, some 1]⟩
      ·
       refine K6 1 5 7 10 11 20 Y<|Tr<|R2 ZY Y<|Ra Y<|Za<|K7 1 5 7 10 11 20 65 Y<|If h Y (fun h=>?_) fun h=>?_
       ·
        exact K3 7 10 11 Y<|Zcf (cw := md0) (by kernel_rfl)<|Dq 0 Y (Zc (ov Y) Jr)<|Dq 1 Y (Zb (ov Y) tS4 Y)<|Dq 2 Y (Zc (ov Y) Zda)<|Dq 3 Y (Zb (ov Y) tS3 Y)<|bE h fun y5 h_y5 h=>Dq 4 Y (Zj (Zex h_y5)<|.cons (ov Y) (.b Y) .nil)<|Dq 5 Y (Zf (ov Y) Y Y Zkb)<|Do 6 Y (Zk (ov Y) (ov Y) (Zr tS4) Y Y Y (Nat.le_of_ble_eq_true Y) (Zd Y) Y)<|Dq 7 Y (Zf (ov Y) Y Y ZaY)<|Do 8 Y (Zk (ov Y) (ov Y) (Zr tS9) Y Y Y (Nat.le_of_ble_eq_true Y) (Zd Y) Y)<|Dd<|⟨_, h, ES [some 0, some 1]⟩
       ·
        refine K6 1 5 7 10 11 20 Y<|Tr<|R2 ZY Y<|Ra Y<|Za<|K6 1 5 7 10 11 74 Y<|If h Y (fun h=>?_) fun h=>?_
        ·
         refine K5 1 5 7 10 11 Y<|Tr<|Rq Y (Zc (ov Y) X0)<|Rq Y (Zb (ov Y) Zdd Y)<|Rl tZ_3 Jl Y<|Rm Y<|Za<|Zm<|?_
         obtain ⟨r1, hl1, ho1⟩ := Xt h
         refine L2 (fun Text i2=>⟨[(1, .int .i64 den), (5, .rp [.int .i64 i.Kind, .str i.Name, .str i.Track, .int .i64 i.Places, .int .i64 i.Low, .int .i64 i.High, .int .i64 i.Steps, .sl 136 (List.map R136 i.Zones), .int .i64 i.Op, .int .i64 i.N, .bool i.Latch, .int .i64 i.Size] 0), (10, .ptr 0 1 0 0), (11, .ptr 1 1 0 0), (77, .sl 3 (List.map R3 m.Tape)), (78, .int .i64 (m.Tape.length : Int)), (79, .int .i64 i2)], [some ⟨39, [[.str [], .int .i64 0, .bool false, .int .i64 0]]⟩, some ⟨39, [[.str Text, .int .i64 0, .bool false, .int .i64 Mark]]⟩]⟩) hl1 (ES [some 0, some 1]) fun n1 Text i2 h=>?_
         unfold Zaq at h
         refine Tr<|R2 Z8 Y<|Za<|Zl<|If h Y (fun h=>?_) fun h=>?_
         ·
          refine Ze<|Zl<|Zm<|K7 1 5 10 11 77 78 79 Y<|Tr<|Rm Y<|bE h fun x h_x h=>Rq Y (ZJ (ov Y) (ov Y) Jl h_x)<|Rq Y (Zb (ov Y) tS3 Y)<|Ra Y<|Ra Y<|Za<|K9 1 5 10 11 12 13 77 78 79 Y<|Tr<|Rm Y<|R2 ZY Y<|Za<|K9 1 5 10 11 13 77 78 79 85 Y<|If h Y (fun h=>?_) fun h=>?_
          ·
           exact K8 1 5 10 11 13 77 78 79 Y<|Zx<|Rm Y<|Rm Y<|Rq Y (Zc (ov Y) Zdt)<|Rq Y (Zb (ov Y) tS3 Y)<|bE h fun y6 h_y6 h=>Rq Y (Zj (Zce h_y6)<|.cons (ov Y) (.b Y)<|.cons (ov Y) (.b Y)<|.cons (ov Y) (.b Y) .nil)<|Rq Y (Zf (ov Y) Y Y ZaY)<|Rx Y (Zk (ov Y) (ov Y) (Zr tS9) Y Y Y (Nat.le_of_ble_eq_true Y) (Zd Y) Y)<|Za<|K7 1 5 10 11 77 78 79 Y<|Zx<|R2 QG Y<|Rm Y<|Za<|⟨_, h, ES [some 0, some 1]⟩
          ·
           exact K8 1 5 10 11 13 77 78 79 Y<|Zcf (cw := md0) (by kernel_rfl)<|Dq 0 Y (Zf (ov Y) Y Y ZaY)<|Dq 1 Y (Zt (ov Y) Y Y Y tS9 Y)<|D1 2 Zh Y<|D1 3 Zh Y<|Dq 4 Y (Zc (ov Y) Zdt)<|Dq 5 Y (Zb (ov Y) tS3 Y)<|bE h fun y7 h_y7 h=>Dq 6 Y (Zj (Zce h_y7)<|.cons (ov Y) (.b Y)<|.cons (ov Y) (.b Y)<|.cons (ov Y) (.b Y) .nil)<|bE h fun s2 h_s2 h=>Dq 7 Y (Zbe (ov Y) (ov Y) h_s2)<|bE h fun s3 h_s3 h=>Dq 8 Y (Zbe (ov Y) (ov Y) h_s3)<|Dq 9 Y (Zf (ov Y) Y Y ZaY)<|Do 10 Y (Zk (ov Y) (ov Y) (Zr tS9) Y Y Y (Nat.le_of_ble_eq_true Y) (Zd Y) Y)<|Dd<|K7 1 5 10 11 77 78 79 Y<|Zx<|R2 QG Y<|Rm Y<|Za<|⟨_, h, ES [some 0, some 1]⟩
         ·
          refine ZM<|?_
          replace h := lx h ▸ ho1
          exact ⟨_, h, ES [some 0, some 1]⟩
        ·
         exact Ze<|⟨_, h, ES [some 0, some 1]⟩
  ·
   refine Tr<|Rq Y (ZW (ov Y) Y Y Y ZgN Y Y)<|Rx Y (Zk (ov Y) (ov Y) (Zn ZgN Y) Y Y Y (Nat.le_of_ble_eq_true Y) (Zd Y) Y)<|Za<|?_
   obtain rfl := rt h
   exact Zg (Zo Y (.one<|.agg Y Y Y Y ZgN Y Y<|pwB Y))
end Go.Proofs.YtailpehcgelmdaaGreatDoor
