/- A text of the proof: a verified executor of the program form, or the contracts of the functions that the law reaches. -/
import Derived.Test.YtailpehcgelmdaaGreatDoorOkAa
set_option linter.all false
namespace Go.Proofs.YtailpehcgelmdaaGreatDoor
open Go Go.Vx
set_option maxRecDepth 10000
set_option maxHeartbeats 1000000
set_option linter.unusedVariables false
theorem ZgG {t : api_Track} {c0 : api_Instrument} {r : Bool} (h : X3 t c0 = some r) :
 CSpec Tryz.prog gl0 117 [.agg [.str t.Name, .int .i64 t.Series.Den, .sl 56 (List.map R56 t.Series.Samples), .int .i64 t.Long], .rp [.int .i64 c0.Kind, .str c0.Name, .str c0.Track, .int .i64 c0.Places, .int .i64 c0.Low, .int .i64 c0.High, .int .i64 c0.Steps, .sl 136 (List.map R136 c0.Zones), .int .i64 c0.Op, .int .i64 c0.N, .bool c0.Latch, .int .i64 c0.Size] 0] (.bool r) := by
 unfold X3 at h
 replace h := ZP h
 refine So Tryz.func117 Y fun w0 A=>Tr<|Rq Y (ZB (cva<|ov Y) Y tZ_54 Y)<|Ra Y<|Za<|K3 1 2 3 Y<|Tr<|Rq Y (Zc (ov Y) ZfM)<|Rq Y (Zb (ov Y) tS9 Y)<|Rq Y (Zc (ov Y) ZgB)<|Rq Y (Zb (ov Y) tS9 Y)<|R2 Qk Y<|Ra Y<|Za<|?_
 obtain rfl := rt h
 exact Zg (Zo Y (.one<|rb Y))
theorem Zbr {l : List api_Track} {i : api_Instrument} {r : Int} (h : QI l i = some r) :
 CSpec Tryz.prog gl0 78 [.sl 54 (List.map R54 l), .agg [.int .i64 i.Kind, .str i.Name, .str i.Track, .int .i64 i.Places, .int .i64 i.Low, .int .i64 i.High, .int .i64 i.Steps, .sl 136 (List.map R136 i.Zones), .int .i64 i.Op, .int .i64 i.N, .bool i.Latch, .int .i64 i.Size]] (.int .i64 r) := by
 unfold QI at h
 replace h := ZP h
 refine So Tryz.func78 Y fun w0 A=>Tr<|Rq Y (ZB (cva<|ov Y) Y tZ_49 Y)<|Ra Y<|Za<|K3 0 3 4 Y<|Tr<|Rm Y<|Rq Y (ZdS<|.cons (ov Y) .nil)<|bE h fun y h_y h=>Rq Y (Zj (Xx Y (fun z0 _ hz=>ZgG hz) h_y)<|.cons (ov Y) (.b Y)<|.cons (ov Y) (.fnC<|.cons (.b Y) .nil) .nil)<|Ra Y<|Za<|?_
 obtain rfl := rt h
 exact Zg (Zo Y (.one<|rb Y))
theorem Zfs {i : api_Instrument} {c0 : List api_Track} {r : Bool} (h : Xd i c0 = some r) :
 CSpec Tryz.prog gl0 77 [.agg [.int .i64 i.Kind, .str i.Name, .str i.Track, .int .i64 i.Places, .int .i64 i.Low, .int .i64 i.High, .int .i64 i.Steps, .sl 136 (List.map R136 i.Zones), .int .i64 i.Op, .int .i64 i.N, .bool i.Latch, .int .i64 i.Size], .rp [.sl 54 (List.map R54 c0)] 0] (.bool r) := by
 unfold Xd at h
 replace h := ZP h
 refine So Tryz.func77 Y fun w0 A=>Tr<|Rq Y (ZB (cva<|ov Y) Y tZ_49 Y)<|Ra Y<|Za<|K3 1 2 3 Y<|Tr<|Rq Y (Zb (ov Y) Znt Y)<|Rq Y (Zi (ov Y) Zaf Y Y)<|bE h fun y h_y h=>Rq Y (Zj (Zbr h_y)<|.cons (ov Y) (.b Y)<|.cons (ov Y) (.aggB Y) .nil)<|R2 Z8 Y<|Ra Y<|Za<|?_
 obtain rfl := rt h
 exact Zg (Zo Y (.one<|rb Y))
theorem ZbG {p : api_Panel} {l : List api_Track} {r : Int} (h : QU p l = some r) :
 CSpec Tryz.prog gl0 36 [.agg [.sl 49 (List.map R49 p.Instruments)], .sl 54 (List.map R54 l)] (.int .i64 r) := by
 unfold QU at h
 replace h := ZP h
 refine So Tryz.func36 Y fun w0 A=>Tr<|Rq Y (ZB (cva<|ov Y) Y tZ_24 Y)<|Rq Y (ZB (cvs (ov Y)<|ZF Y) Y tZ_25 Y)<|Ra Y<|Za<|Zl<|K2 2 3 Y<|Tr<|Rq Y (Zi (ov Y) ZaH Y Y)<|bE h fun y h_y h=>Rq Y (Zj (Zdx h_y)<|.cons (ov Y) (.aggB Y) .nil)<|Ra Y<|Za<|K3 2 3 5 Y<|Tr<|Rm Y<|R2 Z0 Y<|Za<|K4 2 3 5 10 Y<|If h Y (fun h=>?_) fun h=>?_
 ·
  refine K1 5 Y<|Tr<|Rm Y<|Ra Y<|Za<|?_
  obtain rfl := rt h
  exact Zg (Zo Y (.one<|rb Y))
 ·
  refine Ze<|Zl<|K2 2 3 Y<|Tr<|Rq Y (Zb (ov Y) Znt Y)<|bE h fun y2 h_y2 h=>Rq Y (Zj (Zfv h_y2)<|.cons (ov Y) (.b Y) .nil)<|Ra Y<|Za<|K3 2 3 6 Y<|Tr<|Rm Y<|R2 Z0 Y<|Za<|K4 2 3 6 15 Y<|If h Y (fun h=>?_) fun h=>?_
  ·
   refine K1 6 Y<|Tr<|Rm Y<|Ra Y<|Za<|?_
   obtain rfl := rt h
   exact Zg (Zo Y (.one<|rb Y))
  ·
   refine Ze<|Zl<|K2 2 3 Y<|Tr<|Rq Y (Zc (ov Y) XO)<|Rq Y (Zb (ov Y) ZcQ Y)<|Rq Y (ZdS<|.cons (ov Y) .nil)<|bE h fun y3 h_y3 h=>Rq Y (Zj (QA Y (fun z0 _ hz=>Zfs hz) h_y3)<|.cons (ov Y) (.b Y)<|.cons (ov Y) (.fnC<|.cons (.b Y) .nil) .nil)<|Za<|K1 20 Y<|If h Y (fun h=>?_) fun h=>?_
   ·
    refine K0<|Tr<|Ra Y<|Za<|?_
    obtain rfl := rt h
    exact Zg (Zo Y (.one<|rb Y))
   ·
    refine Ze<|K0<|Tr<|Ra Y<|Za<|?_
    obtain rfl := rt h
    exact Zg (Zo Y (.one<|rb Y))
theorem Zdf {s : List Int} {f : Int → Option Bool} {r : Int} {f_f : FuncId} {f_c : List AV} (f_d : f_c.all datB = true) (f_h : ∀ (z0 : Int) z, f z0 = some z → CSpec Tryz.prog gl0 f_f ([.int .i64 z0] ++ f_c) (.bool z)) (h : XD s f = some r) :
 CSpec Tryz.prog gl0 155 [.sl 3 (List.map R3 s), .fn f_f f_c] (.int .i64 r) := by
 unfold XD at h
 replace h := ZP h
 refine So Tryz.func155 Y fun w0 A=>Tr<|Ra Y<|Za<|J0 (fun j => (.inr j)) ⟨[], []⟩ h (fun h=>?_) fun h=>?_
 ·
  refine K2 0 1 Y<|Tr<|Rm Y<|Rl tZ_3 Jl Y<|Rm Y<|Za<|Zm<|?_
  obtain ⟨r1, hl1, ho1⟩ := Xt h
  refine L1 (fun i=>⟨[(0, .sl 3 (List.map R3 s)), (1, .fn f_f f_c), (7, .int .i64 (s.length : Int)), (8, .int .i64 i)], []⟩) hl1 (ES []<|sd 0 Y Y<|sr 1 Y (rFn<|rld f_d)<|sd 7 Y Y<|sd 8 Y Y sn) fun n1 i h=>?_
  unfold Qi at h
  refine Tr<|R2 Z8 Y<|Za<|Zl<|If h Y (fun h=>?_) fun h=>?_
  ·
   refine Ze<|Zl<|Zm<|K4 0 1 7 8 Y<|Tr<|Rm Y<|Ra Y<|Za<|K5 0 1 5 7 8 Y<|Tr<|Rm Y<|Rm Y<|Rm Y<|bE h fun x h_x h=>Rq Y (ZJ (ov Y) (ov Y) Jl h_x)<|Rq Y (Zb (ov Y) tS3 Y)<|bE h fun y h_y h=>Rq Y (Zbq (ov Y) f_d (f_h _ _ h_y)<|.cons (ov Y) (.b Y) .nil)<|Za<|K6 0 1 5 7 8 16 Y<|If h Y (fun h=>?_) fun h=>?_
   ·
    refine K1 5 Y<|Tr<|Rm Y<|Ra Y<|Za<|?_
    replace h := lx h ▸ ho1
    obtain rfl := rt h
    exact Zg (Zo Y (.one<|rb Y))
   ·
    exact Ze<|K4 0 1 7 8 Y<|Zx<|R2 QG Y<|Rm Y<|Za<|⟨_, h, ES []<|sd 0 Y Y<|sr 1 Y (rFn<|rld f_d)<|sd 7 Y Y<|sd 8 Y Y sn⟩
  ·
   refine ZM<|?_
   replace h := lx h ▸ ho1
   exact ⟨(), h, ES []⟩
 ·
  replace h := elr h
  replace h := t0i h
  refine Tr<|Ra Y<|Za<|?_
  obtain rfl := rt h
  exact Zg (Zo Y (.one<|rb Y))
theorem Zcp {s : List Int} {f : Int → Option Bool} {r : Bool} {f_f : FuncId} {f_c : List AV} (f_d : f_c.all datB = true) (f_h : ∀ (z0 : Int) z, f z0 = some z → CSpec Tryz.prog gl0 f_f ([.int .i64 z0] ++ f_c) (.bool z)) (h : Qj s f = some r) :
 CSpec Tryz.prog gl0 127 [.sl 3 (List.map R3 s), .fn f_f f_c] (.bool r) := by
 unfold Qj at h
 replace h := ZP h
 refine So Tryz.func127 Y fun w0 A=>Tr<|Ra Y<|Za<|Tr<|Rm Y<|Rm Y<|bE h fun y h_y h=>Rq Y (Zj (Zdf f_d f_h h_y)<|.cons (ov Y) (.b Y)<|.cons (ov Y) (Dat.fnC<|.refl fun x hx => .b<|List.all_eq_true.1 f_d x hx) .nil)<|R2 JT Y<|Ra Y<|Za<|?_
 obtain rfl := rt h
 exact Zg (Zo Y (.one<|rb Y))
theorem ZfL {n : Int} {r : Bool} (h : Za0 n = some r) :
 CSpec Tryz.prog gl0 128 [.int .i64 n] (.bool r) := by
 unfold Za0 at h
 replace h := ZP h
 refine So Tryz.func128 Y fun w0 A=>Tr<|Ra Y<|Za<|Tr<|Rm Y<|bE h fun y h_y h=>Rq Y (Zj (ZaC h_y)<|.cons (ov Y) (.b Y) .nil)<|R1 Qe Y<|Ra Y<|Za<|?_
 obtain rfl := rt h
 exact Zg (Zo Y (.one<|rb Y))
theorem Zgt {i : api_Instrument} {m : api_Memo} {r : Int} (h : ZaL i m = some r) :
 CSpec Tryz.prog gl0 91 [.agg [.int .i64 i.Kind, .str i.Name, .str i.Track, .int .i64 i.Places, .int .i64 i.Low, .int .i64 i.High, .int .i64 i.Steps, .sl 136 (List.map R136 i.Zones), .int .i64 i.Op, .int .i64 i.N, .bool i.Latch, .int .i64 i.Size], .agg [.bool m.Lit, .bool m.Some, .int .i64 m.N, .int .i64 m.Count, .sl 3 (List.map R3 m.Tape)]] (.int .i64 r) := by
 unfold ZaL at h
 replace h := ZP h
 refine So Tryz.func91 Y fun w0 A=>Tr<|Rq Y (ZB (cva<|ov Y) Y tZ_49 Y)<|Rq Y (ZB (cva<|ov Y) Y tZ_99 Y)<|Ra Y<|Za<|K2 2 3 Y<|Tr<|Rq Y (Zc (ov Y) Q5)<|Rq Y (Zb (ov Y) tS3 Y)<|R2 ZY Y<|Rm Y<|Rq Y (.guarded ((decide (i.Kind = 3)) == false) Y Y Y Y fun h => Zc (ov Y) Q5)<|Rq Y (.guarded ((decide (i.Kind = 3)) == false) Y Y Y Y fun h => Zb (ow Y h) tS3 Y)<|Rq Y (.guarded ((decide (i.Kind = 3)) == false) Y Y Y Y fun h => ZY (ow Y h)<|ov Y)<|Rq Y (QR (ov Y) fun hp=>ow Y<|gF hp)<|Ra Y<|Za<|K3 2 3 5 Y<|Td md0<|Dq 0 Y (Zc (ov Y) Q5)<|Dq 1 Y (Zb (ov Y) tS3 Y)<|D2 2 ZY Y<|Dq 3 Y (Zc (ov Y) Q5)<|Dq 4 Y (Zb (ov Y) tS3 Y)<|D2 5 ZY Y<|Dq 6 Y (Zc (ov Y) Q5)<|Dq 7 Y (Zb (ov Y) tS3 Y)<|D2 8 ZY Y<|D1 9 QN Y<|D1 10 QN Y<|D1 11 QN Y<|Dd<|Zl<|Zm<|K6 2 3 5 6 7 8 Y<|Tr<|Rq Y (Zc (ov Y) Jr)<|Rq Y (Zb (ov Y) tS4 Y)<|Rm Y<|Rq Y (.guarded (m.Lit == true) Y Y Y Y fun h => Zh<|ov Y)<|Rq Y (.guarded (m.Lit == true) Y Y Y Y fun h => Qe<|ow Y h)<|Rq Y (Z3 (ov Y) fun hp=>ow Y<|gT hp)<|Rm Y<|Rq Y (.guarded ((m.Lit && (!((decide (i.Kind = 3)) || (decide (i.Kind = 5))))) == false) Y Y Y Y fun h => Zc (ov Y) Zcu)<|Rq Y (.guarded ((m.Lit && (!((decide (i.Kind = 3)) || (decide (i.Kind = 5))))) == false) Y Y Y Y fun h => Zb (ow Y h) tS4 Y)<|Rq Y (.guarded ((m.Lit && (!((decide (i.Kind = 3)) || (decide (i.Kind = 5))))) == false) Y Y Y Y fun h => Zh<|ow Y h)<|Rq Y (.guarded2 (((m.Lit && (!((decide (i.Kind = 3)) || (decide (i.Kind = 5))))) == false) && (m.Some == false)) Y Y Y Y fun h => Zc (ov Y) ZcJ)<|Rq Y (.guarded2 (((m.Lit && (!((decide (i.Kind = 3)) || (decide (i.Kind = 5))))) == false) && (m.Some == false)) Y Y Y Y fun h => Zb (ow Y h) tS3 Y)<|Rq Y (.guarded2 (((m.Lit && (!((decide (i.Kind = 3)) || (decide (i.Kind = 5))))) == false) && (m.Some == false)) Y Y Y Y fun h => Z0 (ow Y h)<|ov Y)<|Rq Y (.guarded ((m.Lit && (!((decide (i.Kind = 3)) || (decide (i.Kind = 5))))) == false) Y Y Y Y fun h => QR (ow Y h) fun hp=>ow Y<|gA h<|gF hp)<|Rq Y (.guarded ((m.Lit && (!((decide (i.Kind = 3)) || (decide (i.Kind = 5))))) == false) Y Y Y Y fun h => Zh<|ow Y h)<|Rq Y (.guarded2 (((m.Lit && (!((decide (i.Kind = 3)) || (decide (i.Kind = 5))))) == false) && ((m.Some || (!decide (m.N = 0))) == true)) Y Y Y Y fun h => Zh<|ov Y)<|Rq Y (.guarded2 (((m.Lit && (!((decide (i.Kind = 3)) || (decide (i.Kind = 5))))) == false) && ((m.Some || (!decide (m.N = 0))) == true)) Y Y Y Y fun h => Qe<|ow Y h)<|Rq Y (.guarded ((m.Lit && (!((decide (i.Kind = 3)) || (decide (i.Kind = 5))))) == false) Y Y Y Y fun h => Z3 (ow Y h) fun hp=>ow Y<|gA h<|gT hp)<|Rq Y (QR (ov Y) fun hp=>ow Y<|gF hp)<|Rm Y<|Rq Y (.guarded (((m.Lit && (!((decide (i.Kind = 3)) || (decide (i.Kind = 5))))) || ((m.Some || (!decide (m.N = 0))) && (!(decide (i.Kind = 4))))) == false) Y Y Y Y fun h => Zc (ov Y) Zda)<|Rq Y (.guarded (((m.Lit && (!((decide (i.Kind = 3)) || (decide (i.Kind = 5))))) || ((m.Some || (!decide (m.N = 0))) && (!(decide (i.Kind = 4))))) == false) Y Y Y Y fun h => Zb (ow Y h) tS3 Y)<|Rq Y (.guarded (((m.Lit && (!((decide (i.Kind = 3)) || (decide (i.Kind = 5))))) || ((m.Some || (!decide (m.N = 0))) && (!(decide (i.Kind = 4))))) == false) Y Y Y Y fun h => Z0 (ow Y h)<|ov Y)<|Rq Y (.guarded (((m.Lit && (!((decide (i.Kind = 3)) || (decide (i.Kind = 5))))) || ((m.Some || (!decide (m.N = 0))) && (!(decide (i.Kind = 4))))) == false) Y Y Y Y fun h => Zh<|ow Y h)<|Rq Y (.guarded2 ((((m.Lit && (!((decide (i.Kind = 3)) || (decide (i.Kind = 5))))) || ((m.Some || (!decide (m.N = 0))) && (!(decide (i.Kind = 4))))) == false) && ((!decide (m.Count = 0)) == true)) Y Y Y Y fun h => Zh<|ov Y)<|Rq Y (.guarded2 ((((m.Lit && (!((decide (i.Kind = 3)) || (decide (i.Kind = 5))))) || ((m.Some || (!decide (m.N = 0))) && (!(decide (i.Kind = 4))))) == false) && ((!decide (m.Count = 0)) == true)) Y Y Y Y fun h => Qe<|ow Y h)<|Rq Y (.guarded (((m.Lit && (!((decide (i.Kind = 3)) || (decide (i.Kind = 5))))) || ((m.Some || (!decide (m.N = 0))) && (!(decide (i.Kind = 4))))) == false) Y Y Y Y fun h => Z3 (ow Y h) fun hp=>ow Y<|gA h<|gT hp)<|Rq Y (QR (ov Y) fun hp=>ow Y<|gF hp)<|Rm Y<|Rq Y (.guarded ((((m.Lit && (!((decide (i.Kind = 3)) || (decide (i.Kind = 5))))) || ((m.Some || (!decide (m.N = 0))) && (!(decide (i.Kind = 4))))) || ((!decide (m.Count = 0)) && (!(decide (i.Kind = 5))))) == false) Y Y Y Y fun h => Zc (ov Y) X0)<|Rq Y (.guarded ((((m.Lit && (!((decide (i.Kind = 3)) || (decide (i.Kind = 5))))) || ((m.Some || (!decide (m.N = 0))) && (!(decide (i.Kind = 4))))) || ((!decide (m.Count = 0)) && (!(decide (i.Kind = 5))))) == false) Y Y Y Y fun h => Zb (ow Y h) Zdd Y)<|Rq Y (.guarded ((((m.Lit && (!((decide (i.Kind = 3)) || (decide (i.Kind = 5))))) || ((m.Some || (!decide (m.N = 0))) && (!(decide (i.Kind = 4))))) || ((!decide (m.Count = 0)) && (!(decide (i.Kind = 5))))) == false) Y Y Y Y fun h => Zj3 (Jg (ow Y h) tZ_3) Jl<|Zf3 _ _)<|Rq Y (.guarded ((((m.Lit && (!((decide (i.Kind = 3)) || (decide (i.Kind = 5))))) || ((m.Some || (!decide (m.N = 0))) && (!(decide (i.Kind = 4))))) || ((!decide (m.Count = 0)) && (!(decide (i.Kind = 5))))) == false) Y Y Y Y fun h => QP (ow Y h)<|ov Y)<|Rq Y (.guarded ((((m.Lit && (!((decide (i.Kind = 3)) || (decide (i.Kind = 5))))) || ((m.Some || (!decide (m.N = 0))) && (!(decide (i.Kind = 4))))) || ((!decide (m.Count = 0)) && (!(decide (i.Kind = 5))))) == false) Y Y Y Y fun h => Zh<|ow Y h)<|Rq Y (.guarded2 (((((m.Lit && (!((decide (i.Kind = 3)) || (decide (i.Kind = 5))))) || ((m.Some || (!decide (m.N = 0))) && (!(decide (i.Kind = 4))))) || ((!decide (m.Count = 0)) && (!(decide (i.Kind = 5))))) == false) && ((decide (0 < (m.Tape.length : Int))) == true)) Y Y Y Y fun h => Zh<|ov Y)<|Rq Y (.guarded2 (((((m.Lit && (!((decide (i.Kind = 3)) || (decide (i.Kind = 5))))) || ((m.Some || (!decide (m.N = 0))) && (!(decide (i.Kind = 4))))) || ((!decide (m.Count = 0)) && (!(decide (i.Kind = 5))))) == false) && ((decide (0 < (m.Tape.length : Int))) == true)) Y Y Y Y fun h => Qe<|ow Y h)<|Rq Y (.guarded ((((m.Lit && (!((decide (i.Kind = 3)) || (decide (i.Kind = 5))))) || ((m.Some || (!decide (m.N = 0))) && (!(decide (i.Kind = 4))))) || ((!decide (m.Count = 0)) && (!(decide (i.Kind = 5))))) == false) Y Y Y Y fun h => Z3 (ow Y h) fun hp=>ow Y<|gA h<|gT hp)<|Rq Y (QR (ov Y) fun hp=>ow Y<|gF hp)<|Rm Y<|Rq Y (.guarded (((((m.Lit && (!((decide (i.Kind = 3)) || (decide (i.Kind = 5))))) || ((m.Some || (!decide (m.N = 0))) && (!(decide (i.Kind = 4))))) || ((!decide (m.Count = 0)) && (!(decide (i.Kind = 5))))) || ((decide (0 < (m.Tape.length : Int))) && (!(decide (i.Kind = 6))))) == false) Y Y Y Y fun h => Zc (ov Y) ZcJ)<|Rq Y (.guarded (((((m.Lit && (!((decide (i.Kind = 3)) || (decide (i.Kind = 5))))) || ((m.Some || (!decide (m.N = 0))) && (!(decide (i.Kind = 4))))) || ((!decide (m.Count = 0)) && (!(decide (i.Kind = 5))))) || ((decide (0 < (m.Tape.length : Int))) && (!(decide (i.Kind = 6))))) == false) Y Y Y Y fun h => Zb (ow Y h) tS3 Y)<|Rq Y (.guarded (((((m.Lit && (!((decide (i.Kind = 3)) || (decide (i.Kind = 5))))) || ((m.Some || (!decide (m.N = 0))) && (!(decide (i.Kind = 4))))) || ((!decide (m.Count = 0)) && (!(decide (i.Kind = 5))))) || ((decide (0 < (m.Tape.length : Int))) && (!(decide (i.Kind = 6))))) == false) Y Y Y Y fun h => Z0 (ow Y h)<|ov Y)<|Rq Y (.guarded (((((m.Lit && (!((decide (i.Kind = 3)) || (decide (i.Kind = 5))))) || ((m.Some || (!decide (m.N = 0))) && (!(decide (i.Kind = 4))))) || ((!decide (m.Count = 0)) && (!(decide (i.Kind = 5))))) || ((decide (0 < (m.Tape.length : Int))) && (!(decide (i.Kind = 6))))) == false) Y Y Y Y fun h => Zh<|ow Y h)<|Rq Y (.guarded2 ((((((m.Lit && (!((decide (i.Kind = 3)) || (decide (i.Kind = 5))))) || ((m.Some || (!decide (m.N = 0))) && (!(decide (i.Kind = 4))))) || ((!decide (m.Count = 0)) && (!(decide (i.Kind = 5))))) || ((decide (0 < (m.Tape.length : Int))) && (!(decide (i.Kind = 6))))) == false) && ((!decide (m.N = 0)) == true)) Y Y Y Y fun h => Zc (ov Y) Zcu)<|Rq Y (.guarded2 ((((((m.Lit && (!((decide (i.Kind = 3)) || (decide (i.Kind = 5))))) || ((m.Some || (!decide (m.N = 0))) && (!(decide (i.Kind = 4))))) || ((!decide (m.Count = 0)) && (!(decide (i.Kind = 5))))) || ((decide (0 < (m.Tape.length : Int))) && (!(decide (i.Kind = 6))))) == false) && ((!decide (m.N = 0)) == true)) Y Y Y Y fun h => Zb (ow Y h) tS4 Y)<|Rq Y (.guarded2 ((((((m.Lit && (!((decide (i.Kind = 3)) || (decide (i.Kind = 5))))) || ((m.Some || (!decide (m.N = 0))) && (!(decide (i.Kind = 4))))) || ((!decide (m.Count = 0)) && (!(decide (i.Kind = 5))))) || ((decide (0 < (m.Tape.length : Int))) && (!(decide (i.Kind = 6))))) == false) && ((!decide (m.N = 0)) == true)) Y Y Y Y fun h => Qe<|ow Y h)<|Rq Y (.guarded (((((m.Lit && (!((decide (i.Kind = 3)) || (decide (i.Kind = 5))))) || ((m.Some || (!decide (m.N = 0))) && (!(decide (i.Kind = 4))))) || ((!decide (m.Count = 0)) && (!(decide (i.Kind = 5))))) || ((decide (0 < (m.Tape.length : Int))) && (!(decide (i.Kind = 6))))) == false) Y Y Y Y fun h => Z3 (ow Y h) fun hp=>ow Y<|gA h<|gT hp)<|Rq Y (QR (ov Y) fun hp=>ow Y<|gF hp)<|Ra Y<|Za<|K3 2 3 26 Y<|If h Y (fun h=>?_) fun h=>?_
 ·
  refine K0<|Tr<|Ra Y<|Za<|?_
  obtain rfl := rt h
  exact Zg (Zo Y (.one<|rb Y))
 ·
  refine K2 2 3 Y<|Tr<|Rq Y (Zc (ov Y) Zda)<|Rq Y (Zb (ov Y) tS3 Y)<|bE h fun y h_y h=>Rq Y (Zj (Qm h_y)<|.cons (ov Y) (.b Y)<|.cons (ov Y) (.b Y)<|.cons (ov Y) (.b Y) .nil)<|R1 Qe Y<|Rm Y<|Rq Y (.guarded ((!y) == false) Y Y Y Y fun h => Zc (ov Y) ZcJ)<|Rq Y (.guarded ((!y) == false) Y Y Y Y fun h => Zb (ow Y h) tS3 Y)<|bE h fun y2 h_y2 h=>Rq Y (.guarded ((!y) == false) Y Y Y Y fun h => Zj (ZaC<|gdT h_y2 h)<|.cons (ow Y h) (.b Y) .nil)<|Rq Y (.guarded ((!y) == false) Y Y Y Y fun h => Qe<|ow Y h)<|Rq Y (QR (ov Y) fun hp=>ow Y<|gF hp)<|Ra Y<|Za<|K3 2 3 75 Y<|If h Y (fun h=>?_) fun h=>?_
  ·
   refine K0<|Tr<|Ra Y<|Za<|?_
   obtain rfl := rt h
   exact Zg (Zo Y (.one<|rb Y))
  ·
   refine K2 2 3 Y<|Tr<|Rq Y (Zc (ov Y) X0)<|Rq Y (Zb (ov Y) Zdd Y)<|Rl tZ_3 Jl Y<|Rq Y (Zc (ov Y) Zd1)<|Rq Y (Zb (ov Y) tS3 Y)<|R2 QP Y<|Ra Y<|Za<|K2 3 86 Y<|If h Y (fun h=>?_) fun h=>?_
   ·
    refine K0<|Tr<|Ra Y<|Za<|?_
    obtain rfl := rt h
    exact Zg (Zo Y (.one<|rb Y))
   ·
    refine K1 3 Y<|Tr<|Rq Y (Zc (ov Y) X0)<|Rq Y (Zb (ov Y) Zdd Y)<|bE h fun y3 h_y3 h=>Rq Y (Zj (Zcp Y (fun z0 _ hz=>ZfL hz) h_y3)<|.cons (ov Y) (.b Y)<|.cons (ov Y) .fn .nil)<|Ra Y<|Za<|K1 93 Y<|If h Y (fun h=>?_) fun h=>?_
    ·
     refine K0<|Tr<|Ra Y<|Za<|?_
     obtain rfl := rt h
     exact Zg (Zo Y (.one<|rb Y))
    ·
     refine Ze<|K0<|Tr<|Ra Y<|Za<|?_
     obtain rfl := rt h
     exact Zg (Zo Y (.one<|rb Y))
theorem Zby {p : api_Panel} {s : api_PanelState} {r : Int} (h : Xu p s = some r) :
 CSpec Tryz.prog gl0 49 [.agg [.sl 49 (List.map R49 p.Instruments)], .agg [.int .i64 s.Frame, .sl 99 (List.map R99 s.Memos)]] (.int .i64 r) := by
 unfold Xu at h
 replace h := ZP h
 refine So Tryz.func49 Y fun w0 A=>Tr<|Rq Y (ZB (cva<|ov Y) Y tZ_24 Y)<|Rq Y (ZB (cva<|ov Y) Y tZ_44 Y)<|Ra Y<|Za<|Zl<|Zm<|K2 2 3 Y<|Tr<|Rq Y (Zc (ov Y) J8)<|Rq Y (Zb (ov Y) tS3 Y)<|bE h fun y h_y h=>Rq Y (Zj (Qm h_y)<|.cons (ov Y) (.b Y)<|.cons (ov Y) (.b Y)<|.cons (ov Y) (.b Y) .nil)<|R1 Qe Y<|Ra Y<|Za<|K3 2 3 8 Y<|If h Y (fun h=>?_) fun h=>?_
 ·
  refine K0<|Tr<|Ra Y<|Za<|?_
  obtain rfl := rt h
  exact Zg (Zo Y (.one<|rb Y))
 ·
  refine K2 2 3 Y<|Tr<|Rq Y (Zc (ov Y) Jt)<|Rq Y (Zb (ov Y) ZdV Y)<|Rl tZ_99 Zcl Y<|Rq Y (Zc (ov Y) XO)<|Rq Y (Zb (ov Y) ZcQ Y)<|Rl tZ_49 Zar Y<|R2 Z0 Y<|Ra Y<|Za<|K3 2 3 13 Y<|If h Y (fun h=>?_) fun h=>?_
  ·
   refine K0<|Tr<|Ra Y<|Za<|?_
   obtain rfl := rt h
   exact Zg (Zo Y (.one<|rb Y))
  ·
   refine Ze<|J0 (fun j => (.inr j)) ⟨[], []⟩ h (fun h=>?_) fun h=>?_
   ·
    refine K2 2 3 Y<|Tr<|Rq Y (Zc (ov Y) Jt)<|Rq Y (Zb (ov Y) ZdV Y)<|Rl tZ_99 Zcl Y<|Rm Y<|Za<|Zm<|?_
    obtain ⟨r1, hl1, ho1⟩ := Xt h
    refine L1 (fun i=>⟨[(2, .rp [.sl 49 (List.map R49 p.Instruments)] 0), (22, .sl 99 (List.map R99 s.Memos)), (23, .int .i64 (s.Memos.length : Int)), (24, .int .i64 i)], []⟩) hl1 (ES []) fun n1 i h=>?_
    unfold Xi at h
    refine Tr<|R2 Z8 Y<|Za<|Zl<|If h Y (fun h=>?_) fun h=>?_
    ·
     refine Ze<|Zl<|Zm<|K4 2 22 23 24 Y<|Tr<|Rm Y<|bE h fun x h_x h=>Rq Y (ZJ (ov Y) (ov Y) Zcl h_x)<|Rq Y (Zi (ov Y) Zcc Y Y)<|Rx Y (ZC (row := [_, _, _, _, _]) 0 Y Zki Y tZ_99)<|Ra Y<|Rx Y (Zk (ov Y) (ov Y) (Zn Zcc Y) Y Y Y (Nat.le_of_ble_eq_true Y) (Zd Y) Y)<|Za<|K6 2 5 6 22 23 24 Y<|Td md0<|Dq 0 Y (Zc (ov Y) XO)<|Dq 1 Y (Zb (ov Y) ZcQ Y)<|D1 2 Zh Y<|bE h fun x2 h_x2 h=>Dq 3 Y (ZJ (ov Y) (ov Y) Zar h_x2)<|Dq 4 Y (Zi (ov Y) Zaf Y Y)<|Dq 5 Y (ZW (ov Y) Y Y Y Zcc Y Y)<|bE h fun y2 h_y2 h=>Dq 6 Y (Zj (Zgt h_y2)<|.cons (ov Y) (.aggB Y)<|.cons (ov Y) (.aggB Y) .nil)<|D1 7 QN Y<|Dd<|K5 2 7 22 23 24 Y<|Tr<|Rm Y<|R2 Z0 Y<|Za<|K6 2 7 22 23 24 37 Y<|If h Y (fun h=>?_) fun h=>?_
     ·
      refine K1 7 Y<|Tr<|Rm Y<|Ra Y<|Za<|?_
      replace h := lx h ▸ ho1
      obtain rfl := rt h
      exact Zg (Zo Y (.one<|rb Y))
     ·
      exact Ze<|K4 2 22 23 24 Y<|Zx<|R2 QG Y<|Rm Y<|Za<|⟨_, h, ES []⟩
    ·
     refine ZM<|?_
     replace h := lx h ▸ ho1
     exact ⟨(), h, ES []⟩
   ·
    replace h := elr h
    replace h := t0i h
    refine Tr<|Ra Y<|Za<|?_
    obtain rfl := rt h
    exact Zg (Zo Y (.one<|rb Y))
theorem X9 {x : List api_Sample} {target : Int} {cmp : api_Sample → Int → Option Int} {r : Int × Bool} {cmp_f : FuncId} {cmp_c : List AV} (cmp_d : cmp_c.all datB = true) (cmp_h : ∀ (z0 : api_Sample) (z1 : Int) z, cmp z0 z1 = some z → CSpec Tryz.prog gl0 cmp_f ([.agg [.int .i64 z0.At, .int .i64 z0.N, .int .i64 z0.Mark], .int .i64 z1] ++ cmp_c) (.int .i64 z)) (h : Zy x target cmp = some r) :
 CSpec Tryz.prog gl0 184 [.sl 56 (List.map R56 x), .int .i64 target, .fn cmp_f cmp_c] (.tuple [.int .i64 r.1, .bool r.2]) := by
 unfold Zy at h
 replace h := ZP h
 refine So Tryz.func184 Y fun w0 A=>Tr<|Ra Y<|Ra Y<|Za<|K3 0 1 2 Y<|Tr<|Rm Y<|Rl tZ_56 Zer Y<|Ra Y<|Za<|K4 0 1 2 8 Y<|Tr<|Rm Y<|Ra Y<|Ra Y<|Za<|I1 (fun i=>⟨[(0, .sl 56 (List.map R56 x)), (1, .int .i64 target), (2, .fn cmp_f cmp_c), (8, .int .i64 (x.length : Int)), (9, .int .i64 i)], []⟩) h (fun h=>?_) fun i h=>?_
 ·
  refine Zm<|?_
  obtain ⟨r1, hl1, ho1⟩ := Xt h
  refine L2 (fun i2 j=>⟨[(0, .sl 56 (List.map R56 x)), (1, .int .i64 target), (2, .fn cmp_f cmp_c), (8, .int .i64 (x.length : Int)), (9, .int .i64 i2), (10, .int .i64 j)], []⟩) hl1 (ES []<|sd 0 Y Y<|sd 1 Y Y<|sr 2 Y (rFn<|rld cmp_d)<|sd 8 Y Y<|sd 9 Y Y<|sd 10 Y Y sn) fun n1 i2 j h=>?_
  unfold Zw at h
  refine Zl<|Tr<|Rm Y<|Rm Y<|R2 Z8 Y<|Za<|K7 0 1 2 8 9 10 17 Y<|If h Y (fun h=>?_) fun h=>?_
  ·
   refine Ze<|Zm<|K6 0 1 2 8 9 10 Y<|Tr<|Rm Y<|Rm Y<|R2 QG Y<|Rq Y (ZgM (ov Y) tI3 ZlI Y)<|bE h fun q h_q h=>Rq Y (Zmd (ov Y) (ov Y) h_q)<|Rq Y (ZgM (ov Y) ZlI tI3 Y)<|Ra Y<|Za<|K7 0 1 2 8 9 10 11 Y<|Tr<|Rm Y<|Rm Y<|Rm Y<|bE h fun x2 h_x2 h=>Rq Y (ZJ (ov Y) (ov Y) Zer h_x2)<|Rq Y (Zi (ov Y) Jq Y Y)<|Rm Y<|bE h fun y h_y h=>Rq Y (Zbq (ov Y) cmp_d (cmp_h _ _ _ h_y)<|.cons (ov Y) (.aggB Y)<|.cons (ov Y) (.b Y) .nil)<|R2 Z8 Y<|Za<|K8 0 1 2 8 9 10 11 31 Y<|If h Y (fun h=>?_) fun h=>?_
   ·
    exact K7 0 1 2 8 9 10 11 Y<|Zx<|Rm Y<|R2 QG Y<|Ra Y<|Za<|⟨_, h, ES []<|sd 0 Y Y<|sd 1 Y Y<|sr 2 Y (rFn<|rld cmp_d)<|sd 8 Y Y<|sd 9 Y Y<|sd 10 Y Y sn⟩
   ·
    exact K7 0 1 2 8 9 10 11 Y<|Zx<|Rm Y<|Ra Y<|Za<|⟨_, h, ES []<|sd 0 Y Y<|sd 1 Y Y<|sr 2 Y (rFn<|rld cmp_d)<|sd 8 Y Y<|sd 9 Y Y<|sd 10 Y Y sn⟩
  ·
   refine ZM<|?_
   replace h := lx h ▸ ho1
   exact ⟨_, h, ES []<|sd 0 Y Y<|sd 1 Y Y<|sr 2 Y (rFn<|rld cmp_d)<|sd 8 Y Y<|sd 9 Y Y sn⟩
 ·
  refine Tr<|Rm Y<|Rm Y<|Rm Y<|R2 Z8 Y<|Rm Y<|Rq Y (.guarded ((decide (i < (x.length : Int))) == true) Y Y Y Y fun h => Zh<|ov Y)<|Rq Y (.guarded ((decide (i < (x.length : Int))) == true) Y Y Y Y fun h => Zh<|ov Y)<|Rq Y (.guarded ((decide (i < (x.length : Int))) == true) Y Y Y Y fun h => Zh<|ov Y)<|bE h fun x3 h_x3 h=>Rq Y (.guarded ((decide (i < (x.length : Int))) == true) Y Y Y Y fun h => ZJ (ow Y h) (ow Y h) Zer<|gdT h_x3 h)<|Rq Y (.guarded ((decide (i < (x.length : Int))) == true) Y Y Y Y fun h => Zi (ow Y h) Jq Y Y)<|Rq Y (.guarded ((decide (i < (x.length : Int))) == true) Y Y Y Y fun h => Zh<|ov Y)<|bE h fun y2 h_y2 h=>Rq Y (.guarded ((decide (i < (x.length : Int))) == true) Y Y Y Y fun h => Zbq (ow Y h) cmp_d (cmp_h _ _ _<|gdT h_y2 h)<|.cons (ow Y h) (.aggB Y)<|.cons (ow Y h) (.b Y) .nil)<|Rq Y (.guarded ((decide (i < (x.length : Int))) == true) Y Y Y Y fun h => ZY (ow Y h)<|ov Y)<|Rq Y (Z3 (ov Y) fun hp=>ow Y<|gT hp)<|Ra Y<|Ra Y<|Za<|?_
  obtain rfl := rt h
  exact Zg (Zo Y (.two (rb Y)<|rb Y))
theorem ZgQ {x : api_Sample} {at_ : Int} {r : Int} (h : QT x at_ = some r) :
 CSpec Tryz.prog gl0 185 [.agg [.int .i64 x.At, .int .i64 x.N, .int .i64 x.Mark], .int .i64 at_] (.int .i64 r) := by
 unfold QT at h
 replace h := ZP h
 refine So Tryz.func185 Y fun w0 A=>Tr<|Rq Y (ZB (cva<|ov Y) Y tZ_56 Y)<|Ra Y<|Za<|K3 1 2 4 Y<|Tr<|Rq Y (Zc (ov Y) Zem)<|Rq Y (Zb (ov Y) tS3 Y)<|Rm Y<|R2 Zes Y<|Ra Y<|Za<|?_
 obtain rfl := rt h
 exact Zg (Zo Y (.one<|rb Y))
theorem ZhG {s : api_Series} {at_ : Int} {r : Int} (h : JL s at_ = some r) :
 CSpec Tryz.prog gl0 166 [.agg [.int .i64 s.Den, .sl 56 (List.map R56 s.Samples)], .int .i64 at_] (.int .i64 r) := by
 unfold JL at h
 replace h := ZP h
 refine So Tryz.func166 Y fun w0 A=>Tr<|Rq Y (ZB (cva<|ov Y) Y tZ_52 Y)<|Ra Y<|Za<|K2 1 2 Y<|Tr<|Rq Y (Zc (ov Y) Za8)<|Rq Y (Zb (ov Y) Zfx Y)<|Rm Y<|bE h fun y h_y h=>Rq Y (Zj (X9 Y (fun z0 z1 _ hz=>ZgQ hz) h_y)<|.cons (ov Y) (.b Y)<|.cons (ov Y) (.b Y)<|.cons (ov Y) .fn .nil)<|Rm Y<|Rq Y (Zu (ov Y) Y)<|Rq Y (Zu (ov Y) Y)<|Ra Y<|Ra Y<|Za<|Zl<|K2 5 6 Y<|Tr<|Rm Y<|Za<|K2 5 14 Y<|If h Y (fun h=>?_) fun h=>?_
 ·
  refine K1 5 Y<|Tr<|Rm Y<|Ra Y<|Za<|?_
  obtain rfl := rt h
  exact Zg (Zo Y (.one<|rb Y))
 ·
  refine Ze<|K1 5 Y<|Tr<|Rm Y<|R2 Zes Y<|Ra Y<|Za<|?_
  obtain rfl := rt h
  exact Zg (Zo Y (.one<|rb Y))
theorem Zic {x : api_Sample} {r : Bool} (h : Zbu x = some r) :
 CSpec Tryz.prog gl0 167 [.agg [.int .i64 x.At, .int .i64 x.N, .int .i64 x.Mark]] (.bool r) := by
 unfold Zbu at h
 replace h := ZP h
 refine So Tryz.func167 Y fun w0 A=>Tr<|Rq Y (ZB (cva<|ov Y) Y tZ_56 Y)<|Ra Y<|Za<|K2 1 2 Y<|Tr<|Rq Y (Zc (ov Y) ZfO)<|Rq Y (Zb (ov Y) tS3 Y)<|R2 JT Y<|Ra Y<|Za<|?_
 obtain rfl := rt h
 exact Zg (Zo Y (.one<|rb Y))
theorem Zi3 {s : api_Series} {at_ : Int} {long : Int} {r : api_Sample × Bool} (h : Zbm s at_ long = some r) :
 CSpec Tryz.prog gl0 152 [.agg [.int .i64 s.Den, .sl 56 (List.map R56 s.Samples)], .int .i64 at_, .int .i64 long] (.tuple [.agg [.int .i64 r.1.At, .int .i64 r.1.N, .int .i64 r.1.Mark], .bool r.2]) := by
 unfold Zbm at h
 replace h := ZP h
 refine So Tryz.func152 Y fun w0 A=>Tr<|Rq Y (ZB (cva<|ov Y) Y tZ_52 Y)<|Rx Y (ZC (row := [_, _, _]) 0 Y ZdU Y tZ_56)<|Ra Y<|Za<|K4 1 2 3 6 Y<|Tr<|Rq Y (Zi (ov Y) Zju Y Y)<|Rm Y<|bE h fun y h_y h=>Rq Y (Zj (ZhG h_y)<|.cons (ov Y) (.aggB Y)<|.cons (ov Y) (.b Y) .nil)<|Ra Y<|Za<|Zl<|K5 1 2 3 6 8 Y<|Tr<|Rm Y<|R2 Z8 Y<|Rm Y<|Rq Y (.guarded ((decide (y < 0)) == false) Y Y Y Y fun h => Zc (ov Y) Za8)<|Rq Y (.guarded ((decide (y < 0)) == false) Y Y Y Y fun h => Zb (ow Y h) Zfx Y)<|Rq Y (.guarded ((decide (y < 0)) == false) Y Y Y Y fun h => Zh<|ov Y)<|bE h fun x h_x h=>Rq Y (.guarded ((decide (y < 0)) == false) Y Y Y Y fun h => ZJ (ow Y h) (ow Y h) Zer<|gdT h_x h)<|Rq Y (.guarded ((decide (y < 0)) == false) Y Y Y Y fun h => Zi (ow Y h) Jq Y Y)<|bE h fun y2 h_y2 h=>Rq Y (.guarded ((decide (y < 0)) == false) Y Y Y Y fun h => Zj (Zic<|gdT h_y2 h)<|.cons (ow Y h) (.aggB Y) .nil)<|Rq Y (.guarded ((decide (y < 0)) == false) Y Y Y Y fun h => Qe<|ow Y h)<|Rq Y (QR (ov Y) fun hp=>ow Y<|gF hp)<|Rm Y<|Rq Y (.guarded (((decide (y < 0)) || (!y2)) == false) Y Y Y Y fun h => Zh<|ov Y)<|Rq Y (.guarded (((decide (y < 0)) || (!y2)) == false) Y Y Y Y fun h => Zc (ov Y) Za8)<|Rq Y (.guarded (((decide (y < 0)) || (!y2)) == false) Y Y Y Y fun h => Zb (ow Y h) Zfx Y)<|Rq Y (.guarded (((decide (y < 0)) || (!y2)) == false) Y Y Y Y fun h => Zh<|ov Y)<|bE h fun x2 h_x2 h=>Rq Y (.guarded (((decide (y < 0)) || (!y2)) == false) Y Y Y Y fun h => ZJ (ow Y h) (ow Y h) Zer<|gdT h_x2 h)<|Rq Y (.guarded (((decide (y < 0)) || (!y2)) == false) Y Y Y Y fun h => Zc (ow Y h) Zem)<|Rq Y (.guarded (((decide (y < 0)) || (!y2)) == false) Y Y Y Y fun h => Zb (ow Y h) tS3 Y)<|Rq Y (.guarded (((decide (y < 0)) || (!y2)) == false) Y Y Y Y fun h => Zho (ow Y h) (ow Y h) Y)<|Rq Y (.guarded (((decide (y < 0)) || (!y2)) == false) Y Y Y Y fun h => Zh<|ov Y)<|Rq Y (.guarded (((decide (y < 0)) || (!y2)) == false) Y Y Y Y fun h => QP (ow Y h)<|ow Y h)<|Rq Y (QR (ov Y) fun hp=>ow Y<|gF hp)<|Za<|K4 3 6 8 34 Y<|If h Y (fun h=>?_) fun h=>?_
 ·
  refine K1 6 Y<|Tr<|Rq Y (QM (ys := [_, _, _]) ZiT ZiJ ZdU .nil Y)<|Rx Y (Zk (ov Y) (ov Y) (Zn Jq Y) Y Y Y (Nat.le_of_ble_eq_true Y) (Zd Y) Y)<|Ra Y<|Za<|?_
  obtain rfl := rt h
  exact Zg (Zo Y (.two (.agg Y Y Y Y Jq Y Y<|pwB Y)<|rb Y))
 ·
  refine Ze<|K3 3 6 8 Y<|Tr<|Rq Y (Zc (ov Y) Za8)<|Rq Y (Zb (ov Y) Zfx Y)<|Rm Y<|bE h fun x3 h_x3 h=>Rq Y (ZJ (ov Y) (ov Y) Zer h_x3)<|Rq Y (Zi (ov Y) Jq Y Y)<|Rx Y (Zk (ov Y) (ov Y) (Zn Jq Y) Y Y Y (Nat.le_of_ble_eq_true Y) (Zd Y) Y)<|Ra Y<|Za<|?_
  obtain rfl := rt h
  exact Zg (Zo Y (.two (.agg Y Y Y Y Jq Y Y<|pwB Y)<|rb Y))
theorem Zjj {s : api_Series} {at_ : Int} {long : Int} {r : api_Sample × Bool} (h : ZbQ s at_ long = some r) :
 CSpec Tryz.prog gl0 120 [.agg [.int .i64 s.Den, .sl 56 (List.map R56 s.Samples)], .int .i64 at_, .int .i64 long] (.tuple [.agg [.int .i64 r.1.At, .int .i64 r.1.N, .int .i64 r.1.Mark], .bool r.2]) := by
 unfold ZbQ at h
 replace h := ZP h
 refine So Tryz.func120 Y fun w0 A=>Tr<|Rq Y (ZB (cva<|ov Y) Y tZ_52 Y)<|Rx Y (ZC (row := [_, _, _]) 0 Y ZdU Y tZ_56)<|Ra Y<|Za<|K5 1 2 3 6 7 Y<|Tr<|Rq Y (Zi (ov Y) Zju Y Y)<|Rm Y<|Rm Y<|bE h fun y h_y h=>Rq Y (Zj (Zi3 h_y)<|.cons (ov Y) (.aggB Y)<|.cons (ov Y) (.b Y)<|.cons (ov Y) (.b Y) .nil)<|Rq Y (Zu (ov Y) Y)<|Rq Y (Zu (ov Y) Y)<|Rx Y (Zk (ov Y) (ov Y) (Zn Jq Y) Y Y Y (Nat.le_of_ble_eq_true Y) (Zd Y) Y)<|Ra Y<|Za<|?_
 obtain rfl := rt h
 exact Zg (Zo Y (.two (.agg Y Y Y Y Jq Y Y<|pwB Y)<|rb Y))
theorem Zdp {t : api_Track} {frame : Int} {r : api_Sample × Bool} (h : JB t frame = some r) :
 CSpec Tryz.prog gl0 88 [.agg [.str t.Name, .int .i64 t.Series.Den, .sl 56 (List.map R56 t.Series.Samples), .int .i64 t.Long], .int .i64 frame] (.tuple [.agg [.int .i64 r.1.At, .int .i64 r.1.N, .int .i64 r.1.Mark], .bool r.2]) := by
 unfold JB at h
 replace h := ZP h
 refine So Tryz.func88 Y fun w0 A=>Tr<|Rq Y (ZB (cva<|ov Y) Y tZ_54 Y)<|Rx Y (ZC (row := [_, _, _]) 0 Y ZdU Y tZ_56)<|Ra Y<|Za<|K4 1 2 4 5 Y<|Tr<|Rq Y (Zc (ov Y) ZfE)<|Rq Y (Zi (ov Y) Zju Y Y)<|Rm Y<|R2 Ziv Y<|R2 QG Y<|R2 Zes Y<|Rq Y (Zc (ov Y) Zj9)<|Rq Y (Zb (ov Y) tS3 Y)<|bE h fun y h_y h=>Rq Y (Zj (Zjj h_y)<|.cons (ov Y) (.aggB Y)<|.cons (ov Y) (.b Y)<|.cons (ov Y) (.b Y) .nil)<|Rq Y (Zu (ov Y) Y)<|Rq Y (Zu (ov Y) Y)<|Rx Y (Zk (ov Y) (ov Y) (Zn Jq Y) Y Y Y (Nat.le_of_ble_eq_true Y) (Zd Y) Y)<|Ra Y<|Za<|?_
 obtain rfl := rt h
 exact Zg (Zo Y (.two (.agg Y Y Y Y Jq Y Y<|pwB Y)<|rb Y))
theorem Zj2 {xs r : List Int} (h : ZaG xs = some r) :
 CSpec Tryz.prog gl0 84 [.sl 3 (List.map R3 xs)] (.sl 3 (List.map R3 r)) := by
 have h2 : app [] xs = some r := h
 refine So Tryz.func84 Y fun w0 A=>Tr<|Ra Y<|Za<|Zl<|Zl<|Zx<|Rm Y<|Ze3 (ov Y) Zmu Y fun b hb=>?_
 refine Za<|ZfT Y (fun hb2=>?_) fun hb2=>?_
 ·
  obtain rfl : xs = [] := by simpa using hb hb2
  obtain rfl : r = [] := by simpa [app, apz] using h2.symm
  refine Tr<|Ra Y<|Za<|Zg<|Zo Y<|.one<|.tmp Y<|View.nils _
 ·
  refine Ze<|Tr<|Rx Y (ZfB (r := 0) (xs := []) (f := R3) Y Jl .nil Y Y Y)<|Rm Y<|Rx Y (Zbs (ov Y) (Jg (ov Y) tZ_3) Jl Y Y (fun _=>Zd Y) Y h2)<|Ra Y<|Za<|Zg<|Zo Y<|.one<|.tmp Y<|View.ownM Y Y D3
theorem Zjb {op : Int} {a : Int} {b : Int} {r : Bool} (h : Zah op a b = some r) :
 CSpec Tryz.prog gl0 129 [.int .i64 op, .int .i64 a, .int .i64 b] (.bool r) := by
 unfold Zah at h
 replace h := ZP h
 refine So Tryz.func129 Y fun w0 A=>Tr<|Ra Y<|Za<|Zl<|K3 0 1 2 Y<|Tr<|Rm Y<|Za<|Zm<|K3 1 2 7 Y<|Tr<|R2 ZY Y<|Ra Y<|Za<|K4 1 2 7 8 Y<|If h Y (fun h=>?_) fun h=>?_
 ·
  refine K2 1 2 Y<|Tr<|Rm Y<|Rm Y<|R2 Z8 Y<|Ra Y<|Za<|?_
  obtain rfl := rt h
  exact Zg (Zo Y (.one<|rb Y))
 ·
  refine K3 1 2 7 Y<|Tr<|R2 ZY Y<|Ra Y<|Za<|K4 1 2 7 13 Y<|If h Y (fun h=>?_) fun h=>?_
  ·
   refine K2 1 2 Y<|Tr<|Rm Y<|Rm Y<|R2 ZaM Y<|Ra Y<|Za<|?_
   obtain rfl := rt h
   exact Zg (Zo Y (.one<|rb Y))
  ·
   refine K3 1 2 7 Y<|Tr<|R2 ZY Y<|Ra Y<|Za<|K4 1 2 7 18 Y<|If h Y (fun h=>?_) fun h=>?_
   ·
    refine K2 1 2 Y<|Tr<|Rm Y<|Rm Y<|R2 ZY Y<|Ra Y<|Za<|?_
    obtain rfl := rt h
    exact Zg (Zo Y (.one<|rb Y))
   ·
    refine K3 1 2 7 Y<|Tr<|R2 ZY Y<|Ra Y<|Za<|K4 1 2 7 23 Y<|If h Y (fun h=>?_) fun h=>?_
    ·
     refine K2 1 2 Y<|Tr<|Rm Y<|Rm Y<|R2 Z0 Y<|Ra Y<|Za<|?_
     obtain rfl := rt h
     exact Zg (Zo Y (.one<|rb Y))
    ·
     refine K3 1 2 7 Y<|Tr<|R2 ZY Y<|Ra Y<|Za<|K3 1 2 28 Y<|If h Y (fun h=>?_) fun h=>?_
     ·
      refine K2 1 2 Y<|Tr<|Rm Y<|Rm Y<|R2 JT Y<|Ra Y<|Za<|?_
      obtain rfl := rt h
      exact Zg (Zo Y (.one<|rb Y))
     ·
      refine Ze<|K2 1 2 Y<|Tr<|Rm Y<|Rm Y<|R2 QP Y<|Ra Y<|Za<|?_
      obtain rfl := rt h
      exact Zg (Zo Y (.one<|rb Y))
theorem Zh3 {xs r : List Int} (h : ZaG xs = some r) :
 GSpec Tryz.prog gl0 84 [.sl 3 (List.map R3 xs)] [] (.own 0 r.length) [some ⟨3, List.map R3 r⟩] := by
 have h2 : app [] xs = some r := h
 refine Zbf (by kernel_rfl) Tryz.func84 Y Y<|?_
 intro w0 A W φ0
 refine Tr<|Ra Y<|Za<|Zl<|Zl<|Zx<|Rm Y<|Ze3 (ov Y) Zmu Y fun b hb=>?_
 refine Za<|ZfT Y (fun hb2=>?_) fun hb2=>?_
 ·
  obtain rfl : xs = [] := by simpa using hb hb2
  obtain rfl : r = [] := by simpa [app, apz] using h2.symm
  exact Tr<|Ra Y<|Za<|Zg<|Zfn [none] Y (.cons (.tmp Y) .nil) (.row 3 .nil) Y Y<|.row Y
 ·
  exact Ze<|Tr<|Rx Y (ZfB (r := 0) (xs := []) (f := R3) Y Jl .nil Y Y Y)<|Rm Y<|Rx Y (Zbs (ov Y) (Jg (ov Y) tZ_3) Jl Y Y (fun _=>Zd Y) Y h2)<|Ra Y<|Za<|Zg<|Zfn [some 0] Y (.cons (.tmp Y) .nil) (.cons Y (roM D3) .nil) Y Y<|.own _ Y
theorem ZhK {tape : List Int} {size : Int} {n : Int} {r : (List Int)} (h : JS tape size n = some r) :
 CSpec Tryz.prog gl0 130 [.sl 3 (List.map R3 tape), .int .i64 size, .int .i64 n] (.sl 3 (List.map R3 r)) := by
 unfold JS at h
 replace h := ZP h
 refine So Tryz.func130 Y fun w0 A=>Tr<|Ra Y<|Za<|K3 0 1 2 Y<|Tr<|Rm Y<|bE h fun y h_y h=>Rx Y (Xp [] (Zh3 h_y) (.cons (ov Y) (.dat Y) .nil) .nil Y (.lent 0 (.inr ⟨Nat.le_of_ble_eq_true Y, Y⟩) Y (roM D3) .nil) Y Y<|.own _<|.inr ⟨Nat.le_of_ble_eq_true Y, Y⟩)<|Rm Y<|R_q (.sl 3<|List.map R3 ([n] : List Int)) Y (Jm Jl (.cons (cvs (ov Y)<|ZF Y) Y (.cons (.b Y) .nil) .nil) Y Y)<|bE h fun l h_l h=>Rx Y (Zbo (ov Y) (Jg (ov Y) tZ_3) Jl Y Y Y (fun _=>Zd Y) Y h_l)<|Ra Y<|Za<|Zl<|K2 1 7 Y<|Tr<|Rm Y<|Rq Y (Zfa (ov Y) Y Y Jl)<|Rm Y<|R2 ZaM Y<|Za<|K2 7 18 Y<|If h Y (fun h=>?_) fun h=>?_
 ·
  refine K1 7 Y<|Tr<|Rm Y<|Ra Y<|Za<|?_
  obtain rfl := rt h
  exact Zg (Zo Y (.one<|.tmp Y<|View.ownM Y Y D3))
 ·
  refine Ze<|I1 (fun out=>⟨[(7, .own 0 out.length)], [some ⟨3, List.map R3 out⟩]⟩) h (fun h=>?_) fun out h=>?_
  ·
   refine K1 7 Y<|Tr<|Ra Y<|Za<|Zm<|?_
   obtain ⟨r1, hl1, ho1⟩ := Xt h
   refine L2 (fun out2 i=>⟨[(7, .own 0 out2.length), (8, .int .i64 i)], [some ⟨3, List.map R3 out2⟩]⟩) hl1 (ES [some 0]) fun n1 out2 i h=>?_
   unfold Q1 at h
   refine Zl<|Tr<|Rm Y<|R2 QG Y<|Rm Y<|Rq Y (Zfa (ov Y) Y Y Jl)<|R2 ZaM Y<|Za<|K3 7 8 24 Y<|If h Y (fun h=>?_) fun h=>?_
   ·
    exact Ze<|Zl<|Zm<|K2 7 8 Y<|Tr<|Rm Y<|Rm Y<|Rm Y<|R2 QG Y<|bE h fun u h_u h=>Rq Y (Zpd (ov Y) Y Y Jl (oi<|ov Y) (oi<|ov Y) h_u)<|bE h fun u2 h_u2 h=>Rq Y (Zon (ov Y) ZmE Y (List.length_map ..) tZ_3 Y h_u2)<|Ra Y<|Za<|K3 7 8 9 Y<|Zcf (cw := md0) (by kernel_rfl)<|D1 0 Zh Y<|D1 1 Zh Y<|Dq 2 Y (ZK (ov Y) Y<|List.length_map ..)<|bE h fun u3 h_u3 h=>bE h fun x h_x h=>Dq 3 Y (ZnW (ov Y) (ov Y) ZmE Y Y tZ_3 (ZiM h_u).1 h_u3 h_x)<|Dq 4 Y (ZgZ (ov Y) Y Y h_x tS3 Y)<|Dq 5 Y (ZK (ov Y) Y<|List.length_map ..)<|bE h fun u4 h_u4 h=>bE h fun x2 h_x2 h=>Dq 6 Y (ZnW (ov Y) (ov Y) ZmE Y Y tZ_3 (ZiM h_u).1 h_u4 h_x2)<|Do 7 Y (Zhd (u' := x) (ov Y) (ov Y) (Zr tS3) Y Y h_x2 Y (Zd Y) Y)<|Dd<|K2 7 8 Y<|Zx<|Rm Y<|R2 QG Y<|Ra Y<|Za<|⟨_, h, ES [some 0]<|sr 7 Y (Znx (Eq.symm<|(List.length_set ..).trans Y) Y)<|sd 8 Y Y sn⟩
   ·
    refine ZM<|?_
    replace h := lx h ▸ ho1
    exact ⟨_, h, ES [some 0]⟩
  ·
   refine Tr<|Rm Y<|Rm Y<|Rq Y (Zfa (ov Y) Y Y Jl)<|R2 Zes Y<|bE h fun l2 h_l2 h=>ZkS (Ent.sel [none] (sr 7 Y (Zfk Y Y Y D3)<|sr 40 Y (Zfk Y Y Y D3)<|sr 41 Y (Zfk Y Y Y D3)<|sd 42 Y Y<|sd 43 Y Y sn) (.row 3 .nil) Y Y)<|Rq Y (ZfN (ov Y) Jl on (oi<|ov Y) h_l2)<|Ra Y<|Za<|?_
   obtain rfl := rt h
   exact Zg (Zo Y (.one<|rb Y))
theorem Zco {i : api_Instrument} {m : api_Memo} {n : Int} {known : Bool} {r : api_Memo} (h : QW i m n known = some r) :
 CSpec Tryz.prog gl0 92 [.agg [.int .i64 i.Kind, .str i.Name, .str i.Track, .int .i64 i.Places, .int .i64 i.Low, .int .i64 i.High, .int .i64 i.Steps, .sl 136 (List.map R136 i.Zones), .int .i64 i.Op, .int .i64 i.N, .bool i.Latch, .int .i64 i.Size], .agg [.bool m.Lit, .bool m.Some, .int .i64 m.N, .int .i64 m.Count, .sl 3 (List.map R3 m.Tape)], .int .i64 n, .bool known] (.agg [.bool r.Lit, .bool r.Some, .int .i64 r.N, .int .i64 r.Count, .sl 3 (List.map R3 r.Tape)]) := by
 unfold QW at h
 replace h := ZP h
 refine So Tryz.func92 Y fun w0 A=>Tr<|Rq Y (ZB (cva<|ov Y) Y tZ_49 Y)<|Rx Y (ZlA 0 Y (ov Y) Zcc Y)<|Rx Y (ZC (row := [_, _, _, _, _]) 1 Y Zki Y tZ_99)<|Za<|K5 2 3 4 5 8 Y<|Tr<|Rm Y<|Rm Y<|Rq Y (.guarded (known == true) Y Y Y Y fun h => Zc (ov Y) Q5)<|Rq Y (.guarded (known == true) Y Y Y Y fun h => Zb (ow Y h) tS3 Y)<|Rq Y (.guarded (known == true) Y Y Y Y fun h => ZY (ow Y h)<|ov Y)<|Rq Y (.guarded (known == true) Y Y Y Y fun h => Zh<|ow Y h)<|Rq Y (.guarded2 ((known == true) && ((decide (i.Kind = 3)) == false)) Y Y Y Y fun h => Zc (ov Y) Q5)<|Rq Y (.guarded2 ((known == true) && ((decide (i.Kind = 3)) == false)) Y Y Y Y fun h => Zb (ow Y h) tS3 Y)<|Rq Y (.guarded2 ((known == true) && ((decide (i.Kind = 3)) == false)) Y Y Y Y fun h => ZY (ow Y h)<|ov Y)<|Rq Y (.guarded (known == true) Y Y Y Y fun h => QR (ow Y h) fun hp=>ow Y<|gA h<|gF hp)<|Rq Y (Z3 (ov Y) fun hp=>ow Y<|gT hp)<|Rm Y<|Rq Y (.guarded ((known && ((decide (i.Kind = 3)) || (decide (i.Kind = 5)))) == true) Y Y Y Y fun h => Zc (ov Y) ZgF)<|Rq Y (.guarded ((known && ((decide (i.Kind = 3)) || (decide (i.Kind = 5)))) == true) Y Y Y Y fun h => Zb (ow Y h) tS3 Y)<|Rq Y (.guarded ((known && ((decide (i.Kind = 3)) || (decide (i.Kind = 5)))) == true) Y Y Y Y fun h => Zh<|ov Y)<|Rq Y (.guarded ((known && ((decide (i.Kind = 3)) || (decide (i.Kind = 5)))) == true) Y Y Y Y fun h => Zc (ov Y) ZgS)<|Rq Y (.guarded ((known && ((decide (i.Kind = 3)) || (decide (i.Kind = 5)))) == true) Y Y Y Y fun h => Zb (ow Y h) tS3 Y)<|bE h fun y h_y h=>Rq Y (.guarded ((known && ((decide (i.Kind = 3)) || (decide (i.Kind = 5)))) == true) Y Y Y Y fun h => Zj (Zjb<|gdT h_y h)<|.cons (ow Y h) (.b Y)<|.cons (ow Y h) (.b Y)<|.cons (ow Y h) (.b Y) .nil)<|Rq Y (Z3 (ov Y) fun hp=>ow Y<|gT hp)<|Ra Y<|Za<|I1 (fun m2=>⟨[(5, .ptr 0 1 0 0), (8, .ptr 1 1 0 0)], [some ⟨99, [[.bool m2.Lit, .bool m2.Some, .int .i64 m2.N, .int .i64 m2.Count, .sl 3 (List.map R3 m2.Tape)]]⟩, some ⟨99, [[.bool false, .bool false, .int .i64 0, .int .i64 0, .nils]]⟩]⟩) h (fun h=>?_) fun m2 h=>?_
 ·
  refine Zm<|K6 2 3 4 5 8 9 Y<|Tr<|Rq Y (Zc (ov Y) Q5)<|Rq Y (Zb (ov Y) tS3 Y)<|R2 ZY Y<|Ra Y<|Za<|K7 2 3 4 5 8 9 29 Y<|If h Y (fun h=>?_) fun h=>?_
  ·
   exact K4 4 5 8 9 Y<|Zx<|Rm Y<|Rm Y<|Rq Y (.guarded (((known && ((decide (i.Kind = 3)) || (decide (i.Kind = 5)))) && y) == false) Y Y Y Y fun h => Zc (ov Y) Zg5)<|Rq Y (.guarded (((known && ((decide (i.Kind = 3)) || (decide (i.Kind = 5)))) && y) == false) Y Y Y Y fun h => Zb (ow Y h) tS4 Y)<|Rq Y (.guarded (((known && ((decide (i.Kind = 3)) || (decide (i.Kind = 5)))) && y) == false) Y Y Y Y fun h => Zh<|ow Y h)<|Rq Y (.guarded2 ((((known && ((decide (i.Kind = 3)) || (decide (i.Kind = 5)))) && y) == false) && (i.Latch == true)) Y Y Y Y fun h => Zf (ov Y) Y Y Jr)<|Rq Y (.guarded2 ((((known && ((decide (i.Kind = 3)) || (decide (i.Kind = 5)))) && y) == false) && (i.Latch == true)) Y Y Y Y fun h => Zt (ow Y h) Y Y Y tS4 Y)<|Rq Y (.guarded (((known && ((decide (i.Kind = 3)) || (decide (i.Kind = 5)))) && y) == false) Y Y Y Y fun h => Z3 (ow Y h) fun hp=>ow Y<|gA h<|gT hp)<|Rq Y (QR (ov Y) fun hp=>ow Y<|gF hp)<|Rq Y (Zf (ov Y) Y Y Jr)<|Rx Y (Zk (ov Y) (ov Y) (Zr tS4) Y Y Y (Nat.le_of_ble_eq_true Y) (Zd Y) Y)<|Za<|⟨_, h, ES [some 0, some 1]⟩
  ·
   refine K6 2 3 4 5 8 9 Y<|Tr<|Rq Y (Zc (ov Y) Q5)<|Rq Y (Zb (ov Y) tS3 Y)<|R2 ZY Y<|Ra Y<|Za<|K7 2 3 4 5 8 9 43 Y<|If h Y (fun h=>?_) fun h=>?_
   ·
    refine Zl<|K3 5 8 9 Y<|Tr<|Rm Y<|Rm Y<|Rq Y (.guarded (((known && ((decide (i.Kind = 3)) || (decide (i.Kind = 5)))) && y) == true) Y Y Y Y fun h => Zf (ov Y) Y Y Jr)<|Rq Y (.guarded (((known && ((decide (i.Kind = 3)) || (decide (i.Kind = 5)))) && y) == true) Y Y Y Y fun h => Zt (ow Y h) Y Y Y tS4 Y)<|Rq Y (.guarded (((known && ((decide (i.Kind = 3)) || (decide (i.Kind = 5)))) && y) == true) Y Y Y Y fun h => Qe<|ow Y h)<|Rq Y (Z3 (ov Y) fun hp=>ow Y<|gT hp)<|Za<|K4 5 8 9 52 Y<|If h Y (fun h=>?_) fun h=>?_
    ·
     exact K3 5 8 9 Y<|Zx<|Rq Y (Zf (ov Y) Y Y Zda)<|Rq Y (Zt (ov Y) Y Y Y tS3 Y)<|R2 QG Y<|Rq Y (Zf (ov Y) Y Y Zda)<|Rx Y (Zk (ov Y) (ov Y) (Zr tS3) Y Y Y (Nat.le_of_ble_eq_true Y) (Zd Y) Y)<|Za<|K3 5 8 9 Y<|Zx<|Rm Y<|Rq Y (Zf (ov Y) Y Y Jr)<|Rx Y (Zk (ov Y) (ov Y) (Zr tS4) Y Y Y (Nat.le_of_ble_eq_true Y) (Zd Y) Y)<|Za<|⟨_, h, ES [some 0, some 1]⟩
    ·
     exact Ze<|K3 5 8 9 Y<|Zx<|Rm Y<|Rq Y (Zf (ov Y) Y Y Jr)<|Rx Y (Zk (ov Y) (ov Y) (Zr tS4) Y Y Y (Nat.le_of_ble_eq_true Y) (Zd Y) Y)<|Za<|⟨_, h, ES [some 0, some 1]⟩
   ·
    refine K5 2 3 4 5 8 Y<|Tr<|Rq Y (Zc (ov Y) Q5)<|Rq Y (Zb (ov Y) tS3 Y)<|R2 ZY Y<|Rm Y<|Rq Y (.guarded ((decide (i.Kind = 4)) == true) Y Y Y Y fun h => Zh<|ov Y)<|Rq Y (Z3 (ov Y) fun hp=>ow Y<|gT hp)<|Ra Y<|Za<|K6 2 3 4 5 8 59 Y<|If h Y (fun h=>?_) fun h=>?_
    ·
     refine I1 (fun n2=>⟨[(2, .int .i64 n2), (5, .ptr 0 1 0 0), (8, .ptr 1 1 0 0)], [some ⟨99, [[.bool m.Lit, .bool m.Some, .int .i64 m.N, .int .i64 m.Count, .sl 3 (List.map R3 m.Tape)]]⟩, some ⟨99, [[.bool false, .bool false, .int .i64 0, .int .i64 0, .nils]]⟩]⟩) h (fun h=>?_) fun n2 h=>?_
     ·
      refine K3 2 5 8 Y<|Tr<|Rq Y (Zf (ov Y) Y Y Zcu)<|Rq Y (Zt (ov Y) Y Y Y tS4 Y)<|Za<|K4 2 5 8 67 Y<|If h Y (fun h=>?_) fun h=>?_
      ·
       exact K3 2 5 8 Y<|Zx<|Rm Y<|Rq Y (Zf (ov Y) Y Y ZcJ)<|Rq Y (Zt (ov Y) Y Y Y tS3 Y)<|Rq Y (Zmh (ov Y) (ov Y) Y)<|Ra Y<|Za<|⟨_, h, ES [some 0, some 1]⟩
      ·
       exact Ze<|⟨_, h, ES [some 0, some 1]⟩
     ·
      exact Zx<|Rm Y<|Rq Y (Zf (ov Y) Y Y ZcJ)<|Rx Y (Zk (ov Y) (ov Y) (Zr tS3) Y Y Y (Nat.le_of_ble_eq_true Y) (Zd Y) Y)<|Rq Y (Zf (ov Y) Y Y Zcu)<|Rx Y (Zk (ov Y) (ov Y) (Zr tS4) Y Y Y (Nat.le_of_ble_eq_true Y) (Zd Y) Y)<|Za<|⟨_, h, ES [some 0, some 1]⟩
    ·
     refine K5 2 3 4 5 8 Y<|Tr<|Rq Y (Zc (ov Y) Q5)<|Rq Y (Zb (ov Y) tS3 Y)<|R2 ZY Y<|Rm Y<|Rq Y (.guarded ((decide (i.Kind = 6)) == true) Y Y Y Y fun h => Zh<|ov Y)<|Rq Y (Z3 (ov Y) fun hp=>ow Y<|gT hp)<|Ra Y<|Za<|K5 2 4 5 8 75 Y<|If h Y (fun h=>?_) fun h=>?_
     ·
      exact K4 2 4 5 8 Y<|Zx<|Rq Y (Zf (ov Y) Y Y X0)<|Rq Y (Zt (ov Y) Y Y Y Zdd Y)<|Rq Y (Zc (ov Y) Zd1)<|Rq Y (Zb (ov Y) tS3 Y)<|Rm Y<|bE h fun y2 h_y2 h=>Rq Y (Zj (ZhK h_y2)<|.cons (ov Y) (.b Y)<|.cons (ov Y) (.b Y)<|.cons (ov Y) (.b Y) .nil)<|Rq Y (Zf (ov Y) Y Y X0)<|Rx Y (Zk (ov Y) (ov Y) (Zr Zdd) Y Y Y (Nat.le_of_ble_eq_true Y) (Zd Y) Y)<|Za<|⟨_, h, ES [some 0, some 1]⟩
     ·
      exact Ze<|⟨_, h, ES [some 0, some 1]⟩
 ·
  refine Tr<|Rq Y (ZW (ov Y) Y Y Y Zcc Y Y)<|Rx Y (Zk (ov Y) (ov Y) (Zn Zcc Y) Y Y Y (Nat.le_of_ble_eq_true Y) (Zd Y) Y)<|Za<|?_
  obtain rfl := rt h
  exact Zg (Zo Y (.one<|.agg Y Y Y Y Zcc Y Y<|pwB Y))
theorem ZhR {p : api_Panel} {l : List api_Track} {s : api_PanelState} {r : api_PanelState} (h : Q8 p l s = some r) :
 CSpec Tryz.prog gl0 50 [.agg [.sl 49 (List.map R49 p.Instruments)], .sl 54 (List.map R54 l), .agg [.int .i64 s.Frame, .sl 99 (List.map R99 s.Memos)]] (.agg [.int .i64 r.Frame, .sl 99 (List.map R99 r.Memos)]) := by
 unfold Q8 at h
 replace h := ZP h
 refine So Tryz.func50 Y fun w0 A=>Tr<|Rq Y (ZB (cva<|ov Y) Y tZ_24 Y)<|Rq Y (ZB (cva<|ov Y) Y tZ_44 Y)<|Rx Y (ZC (row := [_, _]) 0 Y ZdY Y tZ_44)<|Za<|K4 1 3 5 6 Y<|Tr<|Rq Y (Zc (ov Y) J8)<|Rq Y (Zb (ov Y) tS3 Y)<|R2 QG Y<|Rq Y (QM (ys := [_, _]) Zgn Zgp ZdY (.cons (cvs (ov Y)<|ZF Y) .nil) Y)<|Rx Y (ZC (row := [_, _]) 1 Y ZdY Y tZ_44)<|Rx Y (Zk (ov Y) (ov Y) (Zn Xe Y) Y Y Y (Nat.le_of_ble_eq_true Y) (Zd Y) Y)<|Za<|I1 (fun Memos=>⟨[(6, .ptr 0 1 0 0), (7, .ptr 1 1 0 0)], [some ⟨44, [[.int .i64 0, .nils]]⟩, some ⟨44, [[.int .i64 (i64 (s.Frame + 1)), .own 2 Memos.length]]⟩, some ⟨99, List.map R99 Memos⟩]⟩) h (fun h=>?_) fun Memos h=>?_
 ·
  refine K5 1 3 5 6 7 Y<|Tr<|Rq Y (Zc (ov Y) XO)<|Rq Y (Zb (ov Y) ZcQ Y)<|Rl tZ_49 Zar Y<|Rm Y<|Za<|Zm<|?_
  obtain ⟨r1, hl1, ho1⟩ := Xt h
  refine L2 (fun Memos2 i=>⟨[(1, .sl 54 (List.map R54 l)), (5, .rp [.int .i64 s.Frame, .sl 99 (List.map R99 s.Memos)] 0), (6, .ptr 0 1 0 0), (7, .ptr 1 1 0 0), (18, .sl 49 (List.map R49 p.Instruments)), (19, .int .i64 (p.Instruments.length : Int)), (20, .int .i64 i)], [some ⟨44, [[.int .i64 0, .nils]]⟩, some ⟨44, [[.int .i64 (i64 (s.Frame + 1)), .own 2 Memos2.length]]⟩, some ⟨99, List.map R99 Memos2⟩]⟩) hl1 (ES [some 0, some 1, none]) fun n1 Memos2 i h=>?_
  unfold QK at h
  refine Tr<|R2 Z8 Y<|Za<|Zl<|If h Y (fun h=>?_) fun h=>?_
  ·
   exact Ze<|Zl<|Zm<|K7 1 5 6 7 18 19 20 Y<|Tr<|Rm Y<|bE h fun x h_x h=>Rq Y (ZJ (ov Y) (ov Y) Zar h_x)<|Rq Y (Zi (ov Y) Zaf Y Y)<|Rx Y (ZC (row := [_, _, _, _, _, _, _, _, _, _, _, _]) 3 Y Zjy Y tZ_49)<|Ra Y<|Rx Y (Zk (ov Y) (ov Y) (Zn Zaf Y) Y Y Y (Nat.le_of_ble_eq_true Y) (Zd Y) Y)<|Za<|K9 1 5 6 7 8 9 18 19 20 Y<|Td md0<|Zb6 0 _ Y (by kernel_rfl) Y Y (fun hp'=>Zh<|ov Y)<|Zb6 1 _ Y (by kernel_rfl) Y Y (fun hp'=>Zh<|ov Y)<|Zb9 2 _ Y (by kernel_rfl) Y Y Y ExtW.refl (fun hp' hx=>ZW (ov Y) (hx.get Y Y) Y Y Zaf Y Y)<|bE h fun y h_y h=>Zb9 3 _ Y (by kernel_rfl) Y Y Y ExtW.refl (fun hp' hx=>Zj (Zbr h_y)<|.cons (ov Y) (.b Y)<|.cons (ov Y) (.aggB Y) .nil)<|bE h fun x2 h_x2 h=>Zb9 4 _ Y (by kernel_rfl) Y Y Y ExtW.refl (fun hp' hx=>ZJ (ov Y) (ov Y) Zdl h_x2)<|Zb9 5 _ Y (by kernel_rfl) Y Y Y ExtW.refl (fun hp' hx=>Zi (ov Y) ZeQ Y Y)<|Zb9 6 _ Y (by kernel_rfl) Y Y Y ExtW.refl (fun hp' hx=>Zf (ov Y) (hx.get Y Y) Y J8)<|Zb9 7 _ Y (by kernel_rfl) Y Y Y ExtW.refl (fun hp' hx=>Zt (ov Y) (hx.get Y Y) Y Y tS3 Y)<|bE h fun y2 h_y2 h=>Zb9 8 _ Y (by kernel_rfl) Y Y Y ExtW.refl (fun hp' hx=>Zj (Zdp h_y2)<|.cons (ov Y) (.aggB Y)<|.cons (ov Y) (.b Y) .nil)<|Zb6 9 _ Y (by kernel_rfl) Y Y (fun hp'=>Zh<|ov Y)<|Zb6 10 _ Y (by kernel_rfl) Y Y (fun hp'=>Zu (ov Y) Y)<|Zb6 11 _ Y (by kernel_rfl) Y Y (fun hp'=>Zu (ov Y) Y)<|Zib 12 _ _ Y (by kernel_rfl) Y Y (fun _=>Ext.app) (fun h=>by cases h) (ZC (row := [_, _, _]) 4 Y ZdU Y tZ_56)<|Do 13 Y (Zk (ov Y) (ov Y) (Zn Jq Y) Y Y Y (Nat.le_of_ble_eq_true Y) (Zd Y) Y)<|D1 14 QN Y<|Dd<|K11 1 5 6 7 8 9 10 11 18 19 20 Y<|Tr<|Rq Y (Zc (ov Y) Jt)<|Rq Y (Zb (ov Y) ZdV Y)<|Rm Y<|bE h fun x3 h_x3 h=>Rq Y (ZJ (ov Y) (ov Y) Zcl h_x3)<|Rq Y (Zi (ov Y) Zcc Y Y)<|Rx Y (ZC (row := [_, _, _, _, _]) 5 Y Zki Y tZ_99)<|Rx Y (Zk (ov Y) (ov Y) (Zn Zcc Y) Y Y Y (Nat.le_of_ble_eq_true Y) (Zd Y) Y)<|Za<|K11 1 5 6 7 9 10 11 12 18 19 20 Y<|Tr<|Rq Y (Zf (ov Y) Y Y X0)<|Rq Y (Zt (ov Y) Y Y Y Zdd Y)<|bE h fun y3 h_y3 h=>Rq Y (Zj (Zj2 h_y3)<|.cons (ov Y) (.b Y) .nil)<|Rq Y (Zf (ov Y) Y Y X0)<|Rx Y (Zk (ov Y) (ov Y) (Zr Zdd) Y Y Y (Nat.le_of_ble_eq_true Y) (Zd Y) Y)<|Za<|K11 1 5 6 7 9 10 11 12 18 19 20 Y<|Zcf (cw := md0) (by kernel_rfl)<|Dq 0 Y (Zf (ov Y) Y Y Jt)<|Dq 1 Y (Zt (ov Y) Y Y Y ZdV Y)<|Dq 2 Y (ZW (ov Y) Y Y Y Zaf Y Y)<|Dq 3 Y (ZW (ov Y) Y Y Y Zcc Y Y)<|Dq 4 Y (Zf (ov Y) Y Y Zbj)<|Dq 5 Y (Zt (ov Y) Y Y Y tS3 Y)<|D1 6 Zh Y<|bE h fun y4 h_y4 h=>Dq 7 Y (Zj (Zco h_y4)<|.cons (ov Y) (.aggB Y)<|.cons (ov Y) (.aggB Y)<|.cons (ov Y) (.b Y)<|.cons (ov Y) (.b Y) .nil)<|ZkD 8 (.sl 99<|List.map R99 ([y4] : List api_Memo)) Y (by kernel_rfl) Y Y (Jm Zcl (.cons (cva<|ov Y) Y (pwD Y) .nil) Y Y)<|bE h fun l2 h_l2 h=>Do 9 Y (Zbo (ov Y) (Jg (ov Y) tZ_99) Zcl Y Y Y (fun _=>Zd Y) Y h_l2)<|Dq 10 Y (Zf (ov Y) Y Y Jt)<|Do 11 Y (Zk (ov Y) (ov Y) (Zr ZdV) Y Y Y (Nat.le_of_ble_eq_true Y) (Zd Y) Y)<|Dd<|K7 1 5 6 7 18 19 20 Y<|Zx<|R2 QG Y<|Rm Y<|Za<|⟨_, h, ES [some 0, some 1, some 2]⟩
  ·
   refine ZM<|?_
   replace h := lx h ▸ ho1
   exact ⟨_, h, ES [some 0, some 1, some 2]⟩
 ·
  refine Tr<|Rq Y (ZW (ov Y) Y Y Y Xe Y Y)<|Rx Y (Zk (ov Y) (ov Y) (Zn Xe Y) Y Y Y (Nat.le_of_ble_eq_true Y) (Zd Y) Y)<|Za<|?_
  obtain rfl := rt h
  exact Zg (Zo Y (.one<|.agg Y Y Y Y Xe Y Y<|.cons (Dat.view<|.b Y)<|.cons (View.ownM Y Y D99) .nil))
theorem Zhu {p : api_Panel} {l : List api_Track} {s : api_PanelState} {r : api_PanelState × Int} (h : ZbA p l s = some r) :
 CSpec Tryz.prog gl0 18 [.agg [.sl 49 (List.map R49 p.Instruments)], .sl 54 (List.map R54 l), .agg [.int .i64 s.Frame, .sl 99 (List.map R99 s.Memos)]] (.tuple [.agg [.int .i64 r.1.Frame, .sl 99 (List.map R99 r.1.Memos)], .int .i64 r.2]) := by
 unfold ZbA at h
 replace h := ZP h
 refine So Tryz.func18 Y fun w0 A=>Tr<|Rq Y (ZB (cva<|ov Y) Y tZ_24 Y)<|Rq Y (ZB (cva<|ov Y) Y tZ_44 Y)<|Rx Y (ZC (row := [_, _]) 0 Y ZdY Y tZ_44)<|Ra Y<|Za<|Zl<|K4 1 3 5 6 Y<|Tr<|Rq Y (Zi (ov Y) ZaH Y Y)<|Rm Y<|bE h fun y h_y h=>Rq Y (Zj (ZbG h_y)<|.cons (ov Y) (.aggB Y)<|.cons (ov Y) (.b Y) .nil)<|Ra Y<|Za<|K5 1 3 5 6 8 Y<|Tr<|Rm Y<|R2 Z0 Y<|Za<|K6 1 3 5 6 8 14 Y<|If h Y (fun h=>?_) fun h=>?_
 ·
  refine K2 6 8 Y<|Tr<|Rq Y (QM (ys := [_, _]) Zgn Zgp ZdY .nil Y)<|Rm Y<|Rx Y (Zk (ov Y) (ov Y) (Zn Xe Y) Y Y Y (Nat.le_of_ble_eq_true Y) (Zd Y) Y)<|Ra Y<|Za<|?_
  obtain rfl := rt h
  exact Zg (Zo Y (.two (.agg Y Y Y Y Xe Y Y<|.cons (Dat.view<|.b Y)<|.cons (View.nils 99) .nil)<|rb Y))
 ·
  refine Ze<|Zl<|K4 1 3 5 6 Y<|Tr<|Rq Y (Zi (ov Y) ZaH Y Y)<|Rq Y (Zi (ov Y) Xe Y Y)<|bE h fun y2 h_y2 h=>Rq Y (Zj (Zby h_y2)<|.cons (ov Y) (.aggB Y)<|.cons (ov Y) (.aggB Y) .nil)<|Ra Y<|Za<|K5 1 3 5 6 9 Y<|Tr<|Rm Y<|R2 Z0 Y<|Za<|K6 1 3 5 6 9 21 Y<|If h Y (fun h=>?_) fun h=>?_
  ·
   refine K2 6 9 Y<|Tr<|Rq Y (QM (ys := [_, _]) Zgn Zgp ZdY .nil Y)<|Rm Y<|Rx Y (Zk (ov Y) (ov Y) (Zn Xe Y) Y Y Y (Nat.le_of_ble_eq_true Y) (Zd Y) Y)<|Ra Y<|Za<|?_
   obtain rfl := rt h
   exact Zg (Zo Y (.two (.agg Y Y Y Y Xe Y Y<|.cons (Dat.view<|.b Y)<|.cons (View.nils 99) .nil)<|rb Y))
  ·
   refine Ze<|Zl<|K4 1 3 5 6 Y<|Tr<|Rq Y (Zc (ov Y) J8)<|Rq Y (Zb (ov Y) tS3 Y)<|R2 ZY Y<|Za<|K5 1 3 5 6 26 Y<|If h Y (fun h=>?_) fun h=>?_
   ·
    refine K1 6 Y<|Tr<|Rq Y (QM (ys := [_, _]) Zgn Zgp ZdY .nil Y)<|Rx Y (Zk (ov Y) (ov Y) (Zn Xe Y) Y Y Y (Nat.le_of_ble_eq_true Y) (Zd Y) Y)<|Ra Y<|Za<|?_
    obtain rfl := rt h
    exact Zg (Zo Y (.two (.agg Y Y Y Y Xe Y Y<|.cons (Dat.view<|.b Y)<|.cons (View.nils 99) .nil)<|rb Y))
   ·
    refine Ze<|K4 1 3 5 6 Y<|Tr<|Rq Y (Zi (ov Y) ZaH Y Y)<|Rm Y<|Rq Y (Zi (ov Y) Xe Y Y)<|bE h fun y3 h_y3 h=>Rq Y (Zj (ZhR h_y3)<|.cons (ov Y) (.aggB Y)<|.cons (ov Y) (.b Y)<|.cons (ov Y) (.aggB Y) .nil)<|Rx Y (Zk (ov Y) (ov Y) (Zn Xe Y) Y Y Y (Nat.le_of_ble_eq_true Y) (Zd Y) Y)<|Ra Y<|Za<|?_
    obtain rfl := rt h
    exact Zg (Zo Y (.two (.agg Y Y Y Y Xe Y Y<|pwB Y)<|rb Y))
theorem Qn {n : Int} {low : Int} {high : Int} {r : Bool} (h : Z1 n low high = some r) :
 CSpec Tryz.prog gl0 47 [.int .i64 n, .int .i64 low, .int .i64 high] (.bool r) := by
 unfold Z1 at h
 replace h := ZP h
 refine So Tryz.func47 Y fun w0 A=>Tr<|Ra Y<|Za<|Tr<|Rm Y<|Rm Y<|R2 Z8 Y<|Rm Y<|Rq Y (.guarded ((decide (n < low)) == false) Y Y Y Y fun h => Zh<|ov Y)<|Rq Y (.guarded ((decide (n < low)) == false) Y Y Y Y fun h => Zh<|ov Y)<|Rq Y (.guarded ((decide (n < low)) == false) Y Y Y Y fun h => QP (ow Y h)<|ow Y h)<|Rq Y (QR (ov Y) fun hp=>ow Y<|gF hp)<|Ra Y<|Za<|?_
 obtain rfl := rt h
 exact Zg (Zo Y (.one<|rb Y))
theorem Zft {s : Str} {r : Bool} (h : ZbR s = some r) :
 CSpec Tryz.prog gl0 139 [.str s] (.bool r) := by
 unfold ZbR at h
 replace h := ZP h
 refine So Tryz.func139 Y fun w0 A=>Tr<|Ra Y<|Za<|J0 (fun j => (.inr j)) ⟨[(0, .str s)], []⟩ h (fun h=>?_) fun h=>?_
 ·
  refine K1 0 Y<|Tr<|Ra Y<|Za<|Zm<|?_
  obtain ⟨r1, hl1, ho1⟩ := Xt h
  refine L1 (fun i=>⟨[(0, .str s), (3, .int .i64 i)], []⟩) hl1 (ES []) fun n1 i h=>?_
  unfold Zab at h
  refine Zl<|Tr<|Rm Y<|Rm Y<|Rq Y (Qs (ov Y) Qf Y)<|R2 Z8 Y<|Za<|K3 0 3 8 Y<|If h Y (fun h=>?_) fun h=>?_
  ·
   refine Ze<|Zl<|Zm<|K2 0 3 Y<|Tr<|Rm Y<|Rm Y<|bE h fun b h_b h=>Rq Y (Xg (ov Y) (ov Y) Qf h_b)<|Ra Y<|Za<|K3 0 3 4 Y<|Tr<|Rm Y<|R2 JT Y<|Rm Y<|Rq Y (.guarded ((decide (97 ≤ b)) == true) Y Y Y Y fun h => Zh<|ov Y)<|Rq Y (.guarded ((decide (97 ≤ b)) == true) Y Y Y Y fun h => ZaM (ow Y h)<|ov Y)<|Rq Y (Z3 (ov Y) fun hp=>ow Y<|gT hp)<|Rm Y<|Rq Y (.guarded (((decide (97 ≤ b)) && (decide (b ≤ 122))) == false) Y Y Y Y fun h => Zh<|ov Y)<|Rq Y (.guarded (((decide (97 ≤ b)) && (decide (b ≤ 122))) == false) Y Y Y Y fun h => JT (ow Y h)<|ov Y)<|Rq Y (.guarded (((decide (97 ≤ b)) && (decide (b ≤ 122))) == false) Y Y Y Y fun h => Zh<|ow Y h)<|Rq Y (.guarded2 ((((decide (97 ≤ b)) && (decide (b ≤ 122))) == false) && ((decide (48 ≤ b)) == true)) Y Y Y Y fun h => Zh<|ov Y)<|Rq Y (.guarded2 ((((decide (97 ≤ b)) && (decide (b ≤ 122))) == false) && ((decide (48 ≤ b)) == true)) Y Y Y Y fun h => ZaM (ow Y h)<|ov Y)<|Rq Y (.guarded (((decide (97 ≤ b)) && (decide (b ≤ 122))) == false) Y Y Y Y fun h => Z3 (ow Y h) fun hp=>ow Y<|gA h<|gT hp)<|Rq Y (QR (ov Y) fun hp=>ow Y<|gF hp)<|Rm Y<|Rq Y (.guarded ((((decide (97 ≤ b)) && (decide (b ≤ 122))) || ((decide (48 ≤ b)) && (decide (b ≤ 57)))) == false) Y Y Y Y fun h => Zh<|ov Y)<|Rq Y (.guarded ((((decide (97 ≤ b)) && (decide (b ≤ 122))) || ((decide (48 ≤ b)) && (decide (b ≤ 57)))) == false) Y Y Y Y fun h => ZY (ow Y h)<|ov Y)<|Rq Y (QR (ov Y) fun hp=>ow Y<|gF hp)<|R1 Qe Y<|Za<|K3 0 3 32 Y<|If h Y (fun h=>?_) fun h=>?_
   ·
    refine K0<|Tr<|Ra Y<|Za<|?_
    replace h := lx h ▸ ho1
    obtain rfl := rt h
    exact Zg (Zo Y (.one<|rb Y))
   ·
    exact Ze<|K2 0 3 Y<|Zx<|Rm Y<|R2 QG Y<|Ra Y<|Za<|⟨_, h, ES []⟩
  ·
   refine ZM<|?_
   replace h := lx h ▸ ho1
   exact ⟨(), h, ES []⟩
 ·
  replace h := elr h
  replace h := t0i h
  refine Tr<|Rm Y<|Rq Y (Qs (ov Y) Qf Y)<|R2 JT Y<|Rm Y<|Rq Y (.guarded ((decide (1 ≤ (s.length : Int))) == true) Y Y Y Y fun h => Zh<|ov Y)<|Rq Y (.guarded ((decide (1 ≤ (s.length : Int))) == true) Y Y Y Y fun h => Qs (ow Y h) Qf Y)<|Rq Y (.guarded ((decide (1 ≤ (s.length : Int))) == true) Y Y Y Y fun h => ZaM (ow Y h)<|ov Y)<|Rq Y (Z3 (ov Y) fun hp=>ow Y<|gT hp)<|Ra Y<|Za<|?_
  obtain rfl := rt h
  exact Zg (Zo Y (.one<|rb Y))
theorem Zfu {kind : Int} {l : List Int} {r : Bool} (h : ZcV kind l = some r) :
 CSpec Tryz.prog gl0 100 [.int .i64 kind, .sl 3 (List.map R3 l)] (.bool r) := by
 unfold ZcV at h
 replace h := ZP h
 refine So Tryz.func100 Y fun w0 A=>Tr<|Ra Y<|Za<|J0 (fun j => (.inr j)) ⟨[], []⟩ h (fun h=>?_) fun h=>?_
 ·
  refine K2 0 1 Y<|Tr<|Rm Y<|Rl tZ_3 Jl Y<|Rm Y<|Za<|Zm<|?_
  obtain ⟨r1, hl1, ho1⟩ := Xt h
  refine L1 (fun i=>⟨[(0, .int .i64 kind), (7, .sl 3 (List.map R3 l)), (8, .int .i64 (l.length : Int)), (9, .int .i64 i)], []⟩) hl1 (ES []) fun n1 i h=>?_
  unfold ZbS at h
  refine Tr<|R2 Z8 Y<|Za<|Zl<|If h Y (fun h=>?_) fun h=>?_
  ·
   refine Ze<|Zl<|Zm<|K4 0 7 8 9 Y<|Tr<|bE h fun x h_x h=>Rq Y (ZJ (ov Y) (ov Y) Jl h_x)<|Rq Y (Zb (ov Y) tS3 Y)<|Ra Y<|Za<|K5 0 6 7 8 9 Y<|Tr<|Rm Y<|Rm Y<|R2 ZY Y<|Za<|K5 0 7 8 9 15 Y<|If h Y (fun h=>?_) fun h=>?_
   ·
    refine K0<|Tr<|Ra Y<|Za<|?_
    replace h := lx h ▸ ho1
    obtain rfl := rt h
    exact Zg (Zo Y (.one<|rb Y))
   ·
    exact Ze<|K4 0 7 8 9 Y<|Zx<|R2 QG Y<|Rm Y<|Za<|⟨_, h, ES []⟩
  ·
   refine ZM<|?_
   replace h := lx h ▸ ho1
   exact ⟨(), h, ES []⟩
 ·
  replace h := elr h
  replace h := t0i h
  refine Tr<|Ra Y<|Za<|?_
  obtain rfl := rt h
  exact Zg (Zo Y (.one<|rb Y))
theorem Zi2 {i : api_Instrument} {r : Bool} (h : ZcX i = some r) :
 CSpec Tryz.prog gl0 140 [.agg [.int .i64 i.Kind, .str i.Name, .str i.Track, .int .i64 i.Places, .int .i64 i.Low, .int .i64 i.High, .int .i64 i.Steps, .sl 136 (List.map R136 i.Zones), .int .i64 i.Op, .int .i64 i.N, .bool i.Latch, .int .i64 i.Size]] (.bool r) := by
 unfold ZcX at h
 replace h := ZP h
 refine So Tryz.func140 Y fun w0 A=>Tr<|Rq Y (ZB (cva<|ov Y) Y tZ_49 Y)<|Ra Y<|Za<|K1 1 Y<|Tr<|Rq Y (Zc (ov Y) Q5)<|Rq Y (Zb (ov Y) tS3 Y)<|R2 ZY Y<|Ra Y<|Za<|Zl<|Zm<|K2 1 3 Y<|Tr<|Rq Y (Zc (ov Y) Zdt)<|Rq Y (Zb (ov Y) tS3 Y)<|R2 Z0 Y<|Rm Y<|Rq Y (.guarded ((!decide (i.Places = 0)) == true) Y Y Y Y fun h => Zc (ov Y) Q5)<|Rq Y (.guarded ((!decide (i.Places = 0)) == true) Y Y Y Y fun h => Zb (ow Y h) tS3 Y)<|R_q (.when ((!decide (i.Places = 0)) == true)<|.sl 3<|List.map R3 ([1, 4, 6] : List Int)) Y (.guarded ((!decide (i.Places = 0)) == true) Y Y Y Y fun h => Jm Jl (.cons (cvs (ov Y)<|ZF Y) Y (.cons (.b Y) .nil)<|.cons (cvs (ov Y)<|ZF Y) Y (.cons (.b Y) .nil)<|.cons (cvs (ov Y)<|ZF Y) Y (.cons (.b Y) .nil) .nil) Y Y)<|bE h fun y h_y h=>Rq Y (.guarded ((!decide (i.Places = 0)) == true) Y Y Y Y fun h => Zj (Zfu<|gdT h_y h)<|.cons (ow Y h) (.b Y)<|.cons (ow Y h) (.b Y) .nil)<|Rq Y (.guarded ((!decide (i.Places = 0)) == true) Y Y Y Y fun h => Qe<|ow Y h)<|Rq Y (Z3 (ov Y) fun hp=>ow Y<|gT hp)<|Ra Y<|Za<|K3 1 3 7 Y<|If h Y (fun h=>?_) fun h=>?_
 ·
  refine K0<|Tr<|Ra Y<|Za<|?_
  obtain rfl := rt h
  exact Zg (Zo Y (.one<|rb Y))
 ·
  refine K2 1 3 Y<|Tr<|Rm Y<|R1 Qe Y<|Rm Y<|Rq Y (.guarded ((!(decide (i.Kind = 2))) == true) Y Y Y Y fun h => Zc (ov Y) Zc9)<|Rq Y (.guarded ((!(decide (i.Kind = 2))) == true) Y Y Y Y fun h => Zb (ow Y h) tS3 Y)<|Rq Y (.guarded ((!(decide (i.Kind = 2))) == true) Y Y Y Y fun h => Z0 (ow Y h)<|ov Y)<|Rq Y (.guarded ((!(decide (i.Kind = 2))) == true) Y Y Y Y fun h => Zh<|ow Y h)<|Rq Y (.guarded2 (((!(decide (i.Kind = 2))) == true) && ((!decide (i.Low = 0)) == false)) Y Y Y Y fun h => Zc (ov Y) Zep)<|Rq Y (.guarded2 (((!(decide (i.Kind = 2))) == true) && ((!decide (i.Low = 0)) == false)) Y Y Y Y fun h => Zb (ow Y h) tS3 Y)<|Rq Y (.guarded2 (((!(decide (i.Kind = 2))) == true) && ((!decide (i.Low = 0)) == false)) Y Y Y Y fun h => Z0 (ow Y h)<|ov Y)<|Rq Y (.guarded ((!(decide (i.Kind = 2))) == true) Y Y Y Y fun h => QR (ow Y h) fun hp=>ow Y<|gA h<|gF hp)<|Rq Y (.guarded ((!(decide (i.Kind = 2))) == true) Y Y Y Y fun h => Zh<|ow Y h)<|Rq Y (.guarded2 (((!(decide (i.Kind = 2))) == true) && (((!decide (i.Low = 0)) || (!decide (i.High = 0))) == false)) Y Y Y Y fun h => Zc (ov Y) ZfR)<|Rq Y (.guarded2 (((!(decide (i.Kind = 2))) == true) && (((!decide (i.Low = 0)) || (!decide (i.High = 0))) == false)) Y Y Y Y fun h => Zb (ow Y h) tS3 Y)<|Rq Y (.guarded2 (((!(decide (i.Kind = 2))) == true) && (((!decide (i.Low = 0)) || (!decide (i.High = 0))) == false)) Y Y Y Y fun h => Z0 (ow Y h)<|ov Y)<|Rq Y (.guarded ((!(decide (i.Kind = 2))) == true) Y Y Y Y fun h => QR (ow Y h) fun hp=>ow Y<|gA h<|gF hp)<|Rq Y (.guarded ((!(decide (i.Kind = 2))) == true) Y Y Y Y fun h => Zh<|ow Y h)<|Rq Y (.guarded2 (((!(decide (i.Kind = 2))) == true) && ((((!decide (i.Low = 0)) || (!decide (i.High = 0))) || (!decide (i.Steps = 0))) == false)) Y Y Y Y fun h => Zc (ov Y) Zc8)<|Rq Y (.guarded2 (((!(decide (i.Kind = 2))) == true) && ((((!decide (i.Low = 0)) || (!decide (i.High = 0))) || (!decide (i.Steps = 0))) == false)) Y Y Y Y fun h => Zb (ow Y h) Zit Y)<|Rq Y (.guarded2 (((!(decide (i.Kind = 2))) == true) && ((((!decide (i.Low = 0)) || (!decide (i.High = 0))) || (!decide (i.Steps = 0))) == false)) Y Y Y Y fun h => Zj3 (Jg (ow Y h) tZ_136) Zgf<|Zf3 _ _)<|Rq Y (.guarded2 (((!(decide (i.Kind = 2))) == true) && ((((!decide (i.Low = 0)) || (!decide (i.High = 0))) || (!decide (i.Steps = 0))) == false)) Y Y Y Y fun h => QP (ow Y h)<|ov Y)<|Rq Y (.guarded ((!(decide (i.Kind = 2))) == true) Y Y Y Y fun h => QR (ow Y h) fun hp=>ow Y<|gA h<|gF hp)<|Rq Y (Z3 (ov Y) fun hp=>ow Y<|gT hp)<|Ra Y<|Za<|K2 1 18 Y<|If h Y (fun h=>?_) fun h=>?_
  ·
   refine K0<|Tr<|Ra Y<|Za<|?_
   obtain rfl := rt h
   exact Zg (Zo Y (.one<|rb Y))
  ·
   refine K1 1 Y<|Tr<|Rq Y (Zc (ov Y) ZgF)<|Rq Y (Zb (ov Y) tS3 Y)<|R2 Z0 Y<|Rm Y<|Rq Y (.guarded ((!decide (i.Op = 0)) == false) Y Y Y Y fun h => Zc (ov Y) ZgS)<|Rq Y (.guarded ((!decide (i.Op = 0)) == false) Y Y Y Y fun h => Zb (ow Y h) tS3 Y)<|Rq Y (.guarded ((!decide (i.Op = 0)) == false) Y Y Y Y fun h => Z0 (ow Y h)<|ov Y)<|Rq Y (QR (ov Y) fun hp=>ow Y<|gF hp)<|Rm Y<|Rq Y (.guarded (((!decide (i.Op = 0)) || (!decide (i.N = 0))) == true) Y Y Y Y fun h => Zc (ov Y) Q5)<|Rq Y (.guarded (((!decide (i.Op = 0)) || (!decide (i.N = 0))) == true) Y Y Y Y fun h => Zb (ow Y h) tS3 Y)<|R_q (.when (((!decide (i.Op = 0)) || (!decide (i.N = 0))) == true)<|.sl 3<|List.map R3 ([3, 5] : List Int)) Y (.guarded (((!decide (i.Op = 0)) || (!decide (i.N = 0))) == true) Y Y Y Y fun h => Jm Jl (.cons (cvs (ov Y)<|ZF Y) Y (.cons (.b Y) .nil)<|.cons (cvs (ov Y)<|ZF Y) Y (.cons (.b Y) .nil) .nil) Y Y)<|bE h fun y2 h_y2 h=>Rq Y (.guarded (((!decide (i.Op = 0)) || (!decide (i.N = 0))) == true) Y Y Y Y fun h => Zj (Zfu<|gdT h_y2 h)<|.cons (ow Y h) (.b Y)<|.cons (ow Y h) (.b Y) .nil)<|Rq Y (.guarded (((!decide (i.Op = 0)) || (!decide (i.N = 0))) == true) Y Y Y Y fun h => Qe<|ow Y h)<|Rq Y (Z3 (ov Y) fun hp=>ow Y<|gT hp)<|Ra Y<|Za<|K2 1 42 Y<|If h Y (fun h=>?_) fun h=>?_
   ·
    refine K0<|Tr<|Ra Y<|Za<|?_
    obtain rfl := rt h
    exact Zg (Zo Y (.one<|rb Y))
   ·
    refine K1 1 Y<|Tr<|Rq Y (Zc (ov Y) Zg5)<|Rq Y (Zb (ov Y) tS4 Y)<|Rm Y<|Rq Y (.guarded (i.Latch == true) Y Y Y Y fun h => Zc (ov Y) Q5)<|Rq Y (.guarded (i.Latch == true) Y Y Y Y fun h => Zb (ow Y h) tS3 Y)<|Rq Y (.guarded (i.Latch == true) Y Y Y Y fun h => Z0 (ow Y h)<|ov Y)<|Rq Y (Z3 (ov Y) fun hp=>ow Y<|gT hp)<|Ra Y<|Za<|K2 1 58 Y<|If h Y (fun h=>?_) fun h=>?_
    ·
     refine K0<|Tr<|Ra Y<|Za<|?_
     obtain rfl := rt h
     exact Zg (Zo Y (.one<|rb Y))
    ·
     refine Ze<|K1 1 Y<|Tr<|Rq Y (Zc (ov Y) Zd1)<|Rq Y (Zb (ov Y) tS3 Y)<|R2 Z0 Y<|Rm Y<|Rq Y (.guarded ((!decide (i.Size = 0)) == true) Y Y Y Y fun h => Zc (ov Y) Q5)<|Rq Y (.guarded ((!decide (i.Size = 0)) == true) Y Y Y Y fun h => Zb (ow Y h) tS3 Y)<|Rq Y (.guarded ((!decide (i.Size = 0)) == true) Y Y Y Y fun h => Z0 (ow Y h)<|ov Y)<|Rq Y (Z3 (ov Y) fun hp=>ow Y<|gT hp)<|Ra Y<|Za<|?_
     obtain rfl := rt h
     exact Zg (Zo Y (.one<|rb Y))
theorem Zhi {i : api_Instrument} {r : Int} (h : Zbb i = some r) :
 CSpec Tryz.prog gl0 141 [.agg [.int .i64 i.Kind, .str i.Name, .str i.Track, .int .i64 i.Places, .int .i64 i.Low, .int .i64 i.High, .int .i64 i.Steps, .sl 136 (List.map R136 i.Zones), .int .i64 i.Op, .int .i64 i.N, .bool i.Latch, .int .i64 i.Size]] (.int .i64 r) := by
 unfold Zbb at h
 replace h := ZP h
 refine So Tryz.func141 Y fun w0 A=>Tr<|Rq Y (ZB (cva<|ov Y) Y tZ_49 Y)<|Ra Y<|Za<|Zl<|K1 1 Y<|Tr<|Rq Y (Zc (ov Y) Zc9)<|Rq Y (Zb (ov Y) tS3 Y)<|Rq Y (Zc (ov Y) Zep)<|Rq Y (Zb (ov Y) tS3 Y)<|R2 JT Y<|Rm Y<|Rq Y (.guarded ((decide (i.High ≤ i.Low)) == false) Y Y Y Y fun h => Zc (ov Y) Zc9)<|Rq Y (.guarded ((decide (i.High ≤ i.Low)) == false) Y Y Y Y fun h => Zb (ow Y h) tS3 Y)<|bE h fun y h_y h=>Rq Y (.guarded ((decide (i.High ≤ i.Low)) == false) Y Y Y Y fun h => Zj (Qn<|gdT h_y h)<|.cons (ow Y h) (.b Y)<|.cons (ov Y) (.b Y)<|.cons (ov Y) (.b Y) .nil)<|Rq Y (QR (ov Y) fun hp=>ow Y<|gF hp)<|Rm Y<|Rq Y (.guarded (((decide (i.High ≤ i.Low)) || y) == false) Y Y Y Y fun h => Zc (ov Y) Zep)<|Rq Y (.guarded (((decide (i.High ≤ i.Low)) || y) == false) Y Y Y Y fun h => Zb (ow Y h) tS3 Y)<|bE h fun y2 h_y2 h=>Rq Y (.guarded (((decide (i.High ≤ i.Low)) || y) == false) Y Y Y Y fun h => Zj (Qn<|gdT h_y2 h)<|.cons (ow Y h) (.b Y)<|.cons (ov Y) (.b Y)<|.cons (ov Y) (.b Y) .nil)<|Rq Y (QR (ov Y) fun hp=>ow Y<|gF hp)<|Rm Y<|Rq Y (.guarded ((((decide (i.High ≤ i.Low)) || y) || y2) == false) Y Y Y Y fun h => Zc (ov Y) ZfR)<|Rq Y (.guarded ((((decide (i.High ≤ i.Low)) || y) || y2) == false) Y Y Y Y fun h => Zb (ow Y h) tS3 Y)<|bE h fun y3 h_y3 h=>Rq Y (.guarded ((((decide (i.High ≤ i.Low)) || y) || y2) == false) Y Y Y Y fun h => Zj (Qn<|gdT h_y3 h)<|.cons (ow Y h) (.b Y)<|.cons (ov Y) (.b Y)<|.cons (ov Y) (.b Y) .nil)<|Rq Y (QR (ov Y) fun hp=>ow Y<|gF hp)<|Za<|K2 1 24 Y<|If h Y (fun h=>?_) fun h=>?_
 ·
  refine K0<|Tr<|Ra Y<|Za<|?_
  obtain rfl := rt h
  exact Zg (Zo Y (.one<|rb Y))
 ·
  refine Ze<|Zl<|K1 1 Y<|Tr<|Rq Y (Zc (ov Y) Zc8)<|Rq Y (Zb (ov Y) Zit Y)<|Rl tZ_136 Zgf Y<|R2 QP Y<|Za<|K2 1 28 Y<|If h Y (fun h=>?_) fun h=>?_
  ·
   refine K0<|Tr<|Ra Y<|Za<|?_
   obtain rfl := rt h
   exact Zg (Zo Y (.one<|rb Y))
  ·
   refine Ze<|J0 (fun j => (.inr j)) ⟨[], []⟩ h (fun h=>?_) fun h=>?_
   ·
    refine K1 1 Y<|Tr<|Rq Y (Zc (ov Y) Zc8)<|Rq Y (Zb (ov Y) Zit Y)<|Rl tZ_136 Zgf Y<|Rm Y<|Za<|Zm<|?_
    obtain ⟨r1, hl1, ho1⟩ := Xt h
    refine L1 (fun i2=>⟨[(1, .rp [.int .i64 i.Kind, .str i.Name, .str i.Track, .int .i64 i.Places, .int .i64 i.Low, .int .i64 i.High, .int .i64 i.Steps, .sl 136 (List.map R136 i.Zones), .int .i64 i.Op, .int .i64 i.N, .bool i.Latch, .int .i64 i.Size] 0), (30, .sl 136 (List.map R136 i.Zones)), (31, .int .i64 (i.Zones.length : Int)), (32, .int .i64 i2)], []⟩) hl1 (ES []) fun n1 i2 h=>?_
    unfold XS at h
    refine Tr<|R2 Z8 Y<|Za<|Zl<|If h Y (fun h=>?_) fun h=>?_
    ·
     refine Ze<|Zl<|Zm<|K4 1 30 31 32 Y<|Tr<|Rm Y<|bE h fun x h_x h=>Rq Y (ZJ (ov Y) (ov Y) Zgf h_x)<|Rq Y (Zi (ov Y) ZhX Y Y)<|Rx Y (ZC (row := [_, _, _]) 0 Y ZlE Y tZ_136)<|Ra Y<|Rx Y (Zk (ov Y) (ov Y) (Zn ZhX Y) Y Y Y (Nat.le_of_ble_eq_true Y) (Zd Y) Y)<|Za<|Zm<|K6 1 3 4 30 31 32 Y<|Tr<|Rq Y (Zf (ov Y) Y Y ZiE)<|Rq Y (Zt (ov Y) Y Y Y tS9 Y)<|bE h fun y4 h_y4 h=>Rq Y (Zj (Zft h_y4)<|.cons (ov Y) (.b Y) .nil)<|R1 Qe Y<|Ra Y<|Za<|K7 1 3 4 30 31 32 37 Y<|If h Y (fun h=>?_) fun h=>?_
     ·
      refine K0<|Tr<|Ra Y<|Za<|?_
      replace h := lx h ▸ ho1
      obtain rfl := rt h
      exact Zg (Zo Y (.one<|rb Y))
     ·
      refine K6 1 3 4 30 31 32 Y<|Tr<|Rq Y (Zf (ov Y) Y Y Zf0)<|Rq Y (Zt (ov Y) Y Y Y tS3 Y)<|Rq Y (Zf (ov Y) Y Y Zf4)<|Rq Y (Zt (ov Y) Y Y Y tS3 Y)<|R2 QP Y<|Ra Y<|Za<|K7 1 3 4 30 31 32 42 Y<|If h Y (fun h=>?_) fun h=>?_
      ·
       refine K0<|Tr<|Ra Y<|Za<|?_
       replace h := lx h ▸ ho1
       obtain rfl := rt h
       exact Zg (Zo Y (.one<|rb Y))
      ·
       refine K6 1 3 4 30 31 32 Y<|Td md0<|D1 0 Zh Y<|D2 1 QP Y<|D1 2 Zh Y<|Dq 3 Y (.guarded ((decide (0 < i2)) == true) Y Y Y Y fun h => Zf (ov Y) Y Y Zf0)<|Dq 4 Y (.guarded ((decide (0 < i2)) == true) Y Y Y Y fun h => Zt (ow Y h) Y Y Y tS3 Y)<|Dq 5 Y (.guarded ((decide (0 < i2)) == true) Y Y Y Y fun h => Zc (ov Y) Zc8)<|Dq 6 Y (.guarded ((decide (0 < i2)) == true) Y Y Y Y fun h => Zb (ow Y h) Zit Y)<|Dq 7 Y (.guarded ((decide (0 < i2)) == true) Y Y Y Y fun h => Zh<|ov Y)<|Dq 8 Y (.guarded ((decide (0 < i2)) == true) Y Y Y Y fun h => Zho (ow Y h) (ov Y) Y)<|bE h fun x2 h_x2 h=>Dq 9 Y (.guarded ((decide (0 < i2)) == true) Y Y Y Y fun h => ZJ (ow Y h) (ow Y h) Zgf<|gdT h_x2 h)<|Dq 10 Y (.guarded ((decide (0 < i2)) == true) Y Y Y Y fun h => Zc (ow Y h) Zf4)<|Dq 11 Y (.guarded ((decide (0 < i2)) == true) Y Y Y Y fun h => Zb (ow Y h) tS3 Y)<|Dq 12 Y (.guarded ((decide (0 < i2)) == true) Y Y Y Y fun h => ZaM (ow Y h)<|ow Y h)<|Dq 13 Y (Z3 (ov Y) fun hp=>ow Y<|gT hp)<|D1 14 QN Y<|Dd<|K5 1 30 31 32 48 Y<|If h Y (fun h=>?_) fun h=>?_
       ·
        refine K0<|Tr<|Ra Y<|Za<|?_
        replace h := lx h ▸ ho1
        obtain rfl := rt h
        exact Zg (Zo Y (.one<|rb Y))
       ·
        exact Ze<|K4 1 30 31 32 Y<|Zx<|R2 QG Y<|Rm Y<|Za<|⟨_, h, ES []⟩
    ·
     refine ZM<|?_
     replace h := lx h ▸ ho1
     exact ⟨(), h, ES []⟩
   ·
    replace h := elr h
    replace h := t0i h
    refine Tr<|Ra Y<|Za<|?_
    obtain rfl := rt h
    exact Zg (Zo Y (.one<|rb Y))
theorem ZeE {i : api_Instrument} {r : Int} (h : XL i = some r) :
 CSpec Tryz.prog gl0 99 [.agg [.int .i64 i.Kind, .str i.Name, .str i.Track, .int .i64 i.Places, .int .i64 i.Low, .int .i64 i.High, .int .i64 i.Steps, .sl 136 (List.map R136 i.Zones), .int .i64 i.Op, .int .i64 i.N, .bool i.Latch, .int .i64 i.Size]] (.int .i64 r) := by
 unfold XL at h
 replace h := ZP h
 refine So Tryz.func99 Y fun w0 A=>Tr<|Rq Y (ZB (cva<|ov Y) Y tZ_49 Y)<|Ra Y<|Za<|Zl<|K1 1 Y<|Tr<|Rq Y (Zc (ov Y) Q5)<|Rq Y (Zb (ov Y) tS3 Y)<|bE h fun y h_y h=>Rq Y (Zj (Qn h_y)<|.cons (ov Y) (.b Y)<|.cons (ov Y) (.b Y)<|.cons (ov Y) (.b Y) .nil)<|Za<|K2 1 5 Y<|If h Y (fun h=>?_) fun h=>?_
 ·
  refine K0<|Tr<|Ra Y<|Za<|?_
  obtain rfl := rt h
  exact Zg (Zo Y (.one<|rb Y))
 ·
  refine Ze<|Zl<|K1 1 Y<|Tr<|Rq Y (Zc (ov Y) ZfS)<|Rq Y (Zb (ov Y) tS9 Y)<|bE h fun y2 h_y2 h=>Rq Y (Zj (Zft h_y2)<|.cons (ov Y) (.b Y) .nil)<|R1 Qe Y<|Rm Y<|Rq Y (.guarded ((!y2) == false) Y Y Y Y fun h => Zc (ov Y) ZgB)<|Rq Y (.guarded ((!y2) == false) Y Y Y Y fun h => Zb (ow Y h) tS9 Y)<|Rq Y (.guarded ((!y2) == false) Y Y Y Y fun h => Qk (ow Y h)<|ov Y)<|Rq Y (QR (ov Y) fun hp=>ow Y<|gF hp)<|Rm Y<|Rq Y (.guarded (((!y2) || (decide (i.Track = []))) == false) Y Y Y Y fun h => Zc (ov Y) ZgB)<|Rq Y (.guarded (((!y2) || (decide (i.Track = []))) == false) Y Y Y Y fun h => Zb (ow Y h) tS9 Y)<|Rq Y (.guarded (((!y2) || (decide (i.Track = []))) == false) Y Y Y Y fun h => Qs (ow Y h) Qf Y)<|Rq Y (.guarded (((!y2) || (decide (i.Track = []))) == false) Y Y Y Y fun h => QP (ow Y h)<|ov Y)<|Rq Y (QR (ov Y) fun hp=>ow Y<|gF hp)<|Za<|K2 1 20 Y<|If h Y (fun h=>?_) fun h=>?_
  ·
   refine K0<|Tr<|Ra Y<|Za<|?_
   obtain rfl := rt h
   exact Zg (Zo Y (.one<|rb Y))
  ·
   refine Ze<|Zl<|K1 1 Y<|Tr<|Rq Y (Zi (ov Y) Zaf Y Y)<|bE h fun y3 h_y3 h=>Rq Y (Zj (Zi2 h_y3)<|.cons (ov Y) (.aggB Y) .nil)<|Za<|K2 1 22 Y<|If h Y (fun h=>?_) fun h=>?_
   ·
    refine K0<|Tr<|Ra Y<|Za<|?_
    obtain rfl := rt h
    exact Zg (Zo Y (.one<|rb Y))
   ·
    refine Ze<|Zl<|K1 1 Y<|Tr<|Rq Y (Zc (ov Y) Zdt)<|Rq Y (Zb (ov Y) tS3 Y)<|bE h fun y4 h_y4 h=>Rq Y (Zj (Qn h_y4)<|.cons (ov Y) (.b Y)<|.cons (ov Y) (.b Y)<|.cons (ov Y) (.b Y) .nil)<|Za<|K2 1 25 Y<|If h Y (fun h=>?_) fun h=>?_
    ·
     refine K0<|Tr<|Ra Y<|Za<|?_
     obtain rfl := rt h
     exact Zg (Zo Y (.one<|rb Y))
    ·
     refine Ze<|Zl<|K1 1 Y<|Tr<|Rq Y (Zc (ov Y) Q5)<|Rq Y (Zb (ov Y) tS3 Y)<|Za<|Zm<|K2 1 27 Y<|Tr<|R2 ZY Y<|Ra Y<|Za<|K3 1 27 28 Y<|If h Y (fun h=>?_) fun h=>?_
     ·
      refine K1 1 Y<|Tr<|Rq Y (Zi (ov Y) Zaf Y Y)<|bE h fun y5 h_y5 h=>Rq Y (Zj (Zhi h_y5)<|.cons (ov Y) (.aggB Y) .nil)<|Ra Y<|Za<|?_
      obtain rfl := rt h
      exact Zg (Zo Y (.one<|rb Y))
     ·
      refine I1 (fun v=>⟨[(1, .rp [.int .i64 i.Kind, .str i.Name, .str i.Track, .int .i64 i.Places, .int .i64 i.Low, .int .i64 i.High, .int .i64 i.Steps, .sl 136 (List.map R136 i.Zones), .int .i64 i.Op, .int .i64 i.N, .bool i.Latch, .int .i64 i.Size] 0), (27, .int .i64 i.Kind), (32, .bool v)], []⟩) h (fun h=>?_) fun v h=>?_
      ·
       refine K2 1 27 Y<|Tr<|R2 ZY Y<|Ra Y<|Za<|K3 1 27 32 Y<|If h Y (fun h=>?_) fun h=>?_
       ·
        exact Ze<|⟨_, h, ES []⟩
       ·
        exact Zx<|R2 ZY Y<|Ra Y<|Za<|⟨_, h, ES []⟩
      ·
       refine If h Y (fun h=>?_) fun h=>?_
       ·
        refine Zl<|K1 1 Y<|Tr<|Rq Y (Zc (ov Y) ZgF)<|Rq Y (Zb (ov Y) tS3 Y)<|bE h fun y6 h_y6 h=>Rq Y (Zj (Qn h_y6)<|.cons (ov Y) (.b Y)<|.cons (ov Y) (.b Y)<|.cons (ov Y) (.b Y) .nil)<|Za<|K2 1 37 Y<|If h Y (fun h=>?_) fun h=>?_
        ·
         refine K0<|Tr<|Ra Y<|Za<|?_
         obtain rfl := rt h
         exact Zg (Zo Y (.one<|rb Y))
        ·
         refine Ze<|K1 1 Y<|Tr<|Rq Y (Zc (ov Y) ZgS)<|Rq Y (Zb (ov Y) tS3 Y)<|bE h fun y7 h_y7 h=>Rq Y (Zj (Qn h_y7)<|.cons (ov Y) (.b Y)<|.cons (ov Y) (.b Y)<|.cons (ov Y) (.b Y) .nil)<|Za<|K1 40 Y<|If h Y (fun h=>?_) fun h=>?_
         ·
          refine K0<|Tr<|Ra Y<|Za<|?_
          obtain rfl := rt h
          exact Zg (Zo Y (.one<|rb Y))
         ·
          refine Ze<|K0<|Tr<|Ra Y<|Za<|?_
          obtain rfl := rt h
          exact Zg (Zo Y (.one<|rb Y))
       ·
        refine K2 1 27 Y<|Tr<|R2 ZY Y<|Ra Y<|Za<|K2 1 41 Y<|If h Y (fun h=>?_) fun h=>?_
        ·
         refine K1 1 Y<|Tr<|Rq Y (Zc (ov Y) Zd1)<|Rq Y (Zb (ov Y) tS3 Y)<|bE h fun y8 h_y8 h=>Rq Y (Zj (Qn h_y8)<|.cons (ov Y) (.b Y)<|.cons (ov Y) (.b Y)<|.cons (ov Y) (.b Y) .nil)<|Za<|K1 45 Y<|If h Y (fun h=>?_) fun h=>?_
         ·
          refine K0<|Tr<|Ra Y<|Za<|?_
          obtain rfl := rt h
          exact Zg (Zo Y (.one<|rb Y))
         ·
          refine Ze<|K0<|Tr<|Ra Y<|Za<|?_
          obtain rfl := rt h
          exact Zg (Zo Y (.one<|rb Y))
        ·
         refine Ze<|K0<|Tr<|Ra Y<|Za<|?_
         obtain rfl := rt h
         exact Zg (Zo Y (.one<|rb Y))
theorem Zej {p : api_Panel} {r : Int} (h : ZbK p = some r) :
 CSpec Tryz.prog gl0 54 [.agg [.sl 49 (List.map R49 p.Instruments)]] (.int .i64 r) := by
 unfold ZbK at h
 replace h := ZP h
 refine So Tryz.func54 Y fun w0 A=>Tr<|Rq Y (ZB (cva<|ov Y) Y tZ_24 Y)<|Ra Y<|Za<|Zl<|K1 1 Y<|Tr<|Rq Y (Zc (ov Y) XO)<|Rq Y (Zb (ov Y) ZcQ Y)<|Rl tZ_49 Zar Y<|R2 QP Y<|Za<|K2 1 11 Y<|If h Y (fun h=>?_) fun h=>?_
 ·
  refine K0<|Tr<|Ra Y<|Za<|?_
  obtain rfl := rt h
  exact Zg (Zo Y (.one<|rb Y))
 ·
  refine Ze<|J0 (fun j => (.inr j)) ⟨[], []⟩ h (fun h=>?_) fun h=>?_
  ·
   refine K1 1 Y<|Tr<|Rq Y (Zc (ov Y) XO)<|Rq Y (Zb (ov Y) ZcQ Y)<|Rl tZ_49 Zar Y<|Rm Y<|Za<|Zm<|?_
   obtain ⟨r1, hl1, ho1⟩ := Xt h
   refine L1 (fun i=>⟨[(1, .rp [.sl 49 (List.map R49 p.Instruments)] 0), (13, .sl 49 (List.map R49 p.Instruments)), (14, .int .i64 (p.Instruments.length : Int)), (15, .int .i64 i)], []⟩) hl1 (ES []) fun n1 i h=>?_
   unfold ZaU at h
   refine Tr<|R2 Z8 Y<|Za<|Zl<|If h Y (fun h=>?_) fun h=>?_
   ·
    refine Ze<|J0 (fun j => (.inr j)) ⟨[(1, .rp [.sl 49 (List.map R49 p.Instruments)] 0), (13, .sl 49 (List.map R49 p.Instruments)), (14, .int .i64 (p.Instruments.length : Int)), (15, .int .i64 i)], []⟩ h (fun h=>?_) fun h=>?_
    ·
     refine Zm<|K4 1 13 14 15 Y<|Tr<|Rm Y<|bE h fun x h_x h=>Rq Y (ZJ (ov Y) (ov Y) Zar h_x)<|Rq Y (Zi (ov Y) Zaf Y Y)<|Rx Y (ZC (row := [_, _, _, _, _, _, _, _, _, _, _, _]) 0 Y Zjy Y tZ_49)<|Ra Y<|Rx Y (Zk (ov Y) (ov Y) (Zn Zaf Y) Y Y Y (Nat.le_of_ble_eq_true Y) (Zd Y) Y)<|Za<|Zl<|K6 1 3 4 13 14 15 Y<|Tr<|Rq Y (ZW (ov Y) Y Y Y Zaf Y Y)<|bE h fun y h_y h=>Rq Y (Zj (ZeE h_y)<|.cons (ov Y) (.aggB Y) .nil)<|Ra Y<|Za<|K7 1 3 4 5 13 14 15 Y<|Tr<|Rm Y<|R2 Z0 Y<|Za<|K8 1 3 4 5 13 14 15 23 Y<|If h Y (fun h=>?_) fun h=>?_
     ·
      refine K1 5 Y<|Tr<|Rm Y<|Ra Y<|Za<|?_
      replace h := lx h ▸ ho1
      obtain rfl := rt h
      exact Zg (Zo Y (.one<|rb Y))
     ·
      refine Ze<|K6 1 3 4 13 14 15 Y<|Tr<|Rq Y (Zc (ov Y) XO)<|Rq Y (Zb (ov Y) ZcQ Y)<|Rm Y<|bE h fun l h_l h=>Rq Y (ZfN (ov Y) Zar on (oi<|ov Y) h_l)<|Rl tZ_49 Zar Y<|Rm Y<|Za<|Zm<|?_
      obtain ⟨r2, hl2, ho2⟩ := Xt h
      refine L1 (fun i2=>⟨[(1, .rp [.sl 49 (List.map R49 p.Instruments)] 0), (4, .ptr 0 1 0 0), (13, .sl 49 (List.map R49 p.Instruments)), (14, .int .i64 (p.Instruments.length : Int)), (15, .int .i64 i), (28, .sl 49 (List.map R49 l)), (29, .int .i64 (l.length : Int)), (30, .int .i64 i2)], [some ⟨49, [[.int .i64 x.Kind, .str x.Name, .str x.Track, .int .i64 x.Places, .int .i64 x.Low, .int .i64 x.High, .int .i64 x.Steps, .sl 136 (List.map R136 x.Zones), .int .i64 x.Op, .int .i64 x.N, .bool x.Latch, .int .i64 x.Size]]⟩]⟩) hl2 (ES [some 0]) fun n2 i2 h=>?_
      unfold JP at h
      refine Tr<|R2 Z8 Y<|Za<|Zl<|If h Y (fun h=>?_) fun h=>?_
      ·
       refine Ze<|Zl<|Zm<|K8 1 4 13 14 15 28 29 30 Y<|Tr<|bE h fun x2 h_x2 h=>Rq Y (ZJ (ov Y) (ov Y) Zar h_x2)<|Rq Y (Zi (ov Y) Zaf Y Y)<|Rx Y (ZC (row := [_, _, _, _, _, _, _, _, _, _, _, _]) 1 Y Zjy Y tZ_49)<|Rx Y (Zk (ov Y) (ov Y) (Zn Zaf Y) Y Y Y (Nat.le_of_ble_eq_true Y) (Zd Y) Y)<|Za<|K9 1 4 7 13 14 15 28 29 30 Y<|Tr<|Rq Y (Zf (ov Y) Y Y ZfS)<|Rq Y (Zt (ov Y) Y Y Y tS9 Y)<|Rq Y (Zf (ov Y) Y Y ZfS)<|Rq Y (Zt (ov Y) Y Y Y tS9 Y)<|R2 Qk Y<|Za<|K9 1 4 13 14 15 28 29 30 38 Y<|If h Y (fun h=>?_) fun h=>?_
       ·
        refine K0<|Tr<|Ra Y<|Za<|?_
        replace h := lx h ▸ ho2
        replace h := lx h ▸ ho1
        obtain rfl := rt h
        exact Zg (Zo Y (.one<|rb Y))
       ·
        exact Ze<|K8 1 4 13 14 15 28 29 30 Y<|Zx<|R2 QG Y<|Rm Y<|Za<|⟨_, h, ES [some 0]⟩
      ·
       refine ZM<|?_
       replace h := lx h ▸ ho2
       exact ⟨(), h, ES []⟩
    ·
     replace h := elr h
     replace h := t0i h
     exact Zx<|R2 QG Y<|Rm Y<|Za<|⟨_, h, ES []⟩
   ·
    refine ZM<|?_
    replace h := lx h ▸ ho1
    exact ⟨(), h, ES []⟩
  ·
   replace h := elr h
   replace h := t0i h
   refine Tr<|Ra Y<|Za<|?_
   obtain rfl := rt h
   exact Zg (Zo Y (.one<|rb Y))
theorem ZjH  {r : (List Str)} (h : Ze7  = some r) :
 CSpec Tryz.prog gl0 173 [] (.sl 9 (List.map R9 r)) := by
 unfold Ze7 at h
 replace h := ZP h
 refine So Tryz.func173 Y fun w0 A=>Tr<|Ra Y<|Za<|Tr<|R_q (.sl 9<|List.map R9 ([[112, 104, 97, 115, 101], [109, 111, 118, 101], [114, 117, 108, 101], [105, 102], [111, 114], [97, 110, 100], [116, 114, 117, 101], [102, 97, 108, 115, 101], [115, 116, 101, 97, 100, 121], [110, 111, 116], [102, 111, 114], [119, 105, 116, 104, 105, 110], [99, 111, 117, 110, 116], [111, 102], [114, 105, 115, 101, 115], [115, 105, 110, 99, 101]] : List Str)) Y (Jm ZjY (.cons (cvs (ov Y)<|ZF Y) Y (.cons (.b Y) .nil)<|.cons (cvs (ov Y)<|ZF Y) Y (.cons (.b Y) .nil)<|.cons (cvs (ov Y)<|ZF Y) Y (.cons (.b Y) .nil)<|.cons (cvs (ov Y)<|ZF Y) Y (.cons (.b Y) .nil)<|.cons (cvs (ov Y)<|ZF Y) Y (.cons (.b Y) .nil)<|.cons (cvs (ov Y)<|ZF Y) Y (.cons (.b Y) .nil)<|.cons (cvs (ov Y)<|ZF Y) Y (.cons (.b Y) .nil)<|.cons (cvs (ov Y)<|ZF Y) Y (.cons (.b Y) .nil)<|.cons (cvs (ov Y)<|ZF Y) Y (.cons (.b Y) .nil)<|.cons (cvs (ov Y)<|ZF Y) Y (.cons (.b Y) .nil)<|.cons (cvs (ov Y)<|ZF Y) Y (.cons (.b Y) .nil)<|.cons (cvs (ov Y)<|ZF Y) Y (.cons (.b Y) .nil)<|.cons (cvs (ov Y)<|ZF Y) Y (.cons (.b Y) .nil)<|.cons (cvs (ov Y)<|ZF Y) Y (.cons (.b Y) .nil)<|.cons (cvs (ov Y)<|ZF Y) Y (.cons (.b Y) .nil)<|.cons (cvs (ov Y)<|ZF Y) Y (.cons (.b Y) .nil) .nil) Y Y)<|Ra Y<|Za<|?_
 obtain rfl := rt h
 exact Zg (Zo Y (.one<|rb Y))
theorem ZhN {s : Str} {r : Bool} (h : Zbz s = some r) :
 CSpec Tryz.prog gl0 156 [.str s] (.bool r) := by
 unfold Zbz at h
 replace h := ZP h
 refine So Tryz.func156 Y fun w0 A=>Tr<|Ra Y<|Za<|K1 0 Y<|Tr<|bE h fun y h_y h=>Rq Y (Zj (ZjH h_y) .nil)<|Ra Y<|Za<|J0 (fun j => (.inr j)) ⟨[], []⟩ h (fun h=>?_) fun h=>?_
 ·
  refine K2 0 3 Y<|Tr<|Ra Y<|Za<|Zm<|?_
  obtain ⟨r1, hl1, ho1⟩ := Xt h
  refine L1 (fun i=>⟨[(0, .str s), (3, .sl 9 (List.map R9 y)), (4, .int .i64 i)], []⟩) hl1 (ES []) fun n1 i h=>?_
  unfold JZ at h
  refine Zl<|Tr<|Rm Y<|Rm Y<|Rl tZ_9 ZjY Y<|R2 Z8 Y<|Za<|K4 0 3 4 9 Y<|If h Y (fun h=>?_) fun h=>?_
  ·
   refine Ze<|Zl<|Zm<|K3 0 3 4 Y<|Tr<|Rm Y<|Rm Y<|bE h fun x h_x h=>Rq Y (ZJ (ov Y) (ov Y) ZjY h_x)<|Rq Y (Zb (ov Y) tS9 Y)<|Rm Y<|R2 Qk Y<|Za<|K4 0 3 4 17 Y<|If h Y (fun h=>?_) fun h=>?_
   ·
    refine K0<|Tr<|Ra Y<|Za<|?_
    replace h := lx h ▸ ho1
    obtain rfl := rt h
    exact Zg (Zo Y (.one<|rb Y))
   ·
    exact Ze<|K3 0 3 4 Y<|Zx<|Rm Y<|R2 QG Y<|Ra Y<|Za<|⟨_, h, ES []⟩
  ·
   refine ZM<|?_
   replace h := lx h ▸ ho1
   exact ⟨(), h, ES []⟩
 ·
  replace h := elr h
  replace h := t0i h
  refine Tr<|Ra Y<|Za<|?_
  obtain rfl := rt h
  exact Zg (Zo Y (.one<|rb Y))
theorem Zjc {s : Str} {r : Bool} (h : ZcP s = some r) :
 CSpec Tryz.prog gl0 131 [.str s] (.bool r) := by
 unfold ZcP at h
 replace h := ZP h
 refine So Tryz.func131 Y fun w0 A=>Tr<|Ra Y<|Za<|J0 (fun j => (.inr j)) ⟨[(0, .str s)], []⟩ h (fun h=>?_) fun h=>?_
 ·
  refine K1 0 Y<|Tr<|Ra Y<|Za<|Zm<|?_
  obtain ⟨r1, hl1, ho1⟩ := Xt h
  refine L1 (fun i=>⟨[(0, .str s), (3, .int .i64 i)], []⟩) hl1 (ES []) fun n1 i h=>?_
  unfold Zaa at h
  refine Zl<|Tr<|Rm Y<|Rm Y<|Rq Y (Qs (ov Y) Qf Y)<|R2 Z8 Y<|Za<|K3 0 3 8 Y<|If h Y (fun h=>?_) fun h=>?_
  ·
   refine Ze<|Zl<|Zm<|K2 0 3 Y<|Tr<|Rm Y<|Rm Y<|bE h fun b h_b h=>Rq Y (Xg (ov Y) (ov Y) Qf h_b)<|Ra Y<|Za<|K3 0 3 4 Y<|Tr<|Rm Y<|R2 JT Y<|Rm Y<|Rq Y (.guarded ((decide (97 ≤ b)) == true) Y Y Y Y fun h => Zh<|ov Y)<|Rq Y (.guarded ((decide (97 ≤ b)) == true) Y Y Y Y fun h => ZaM (ow Y h)<|ov Y)<|Rq Y (Z3 (ov Y) fun hp=>ow Y<|gT hp)<|Rm Y<|Rq Y (.guarded (((decide (97 ≤ b)) && (decide (b ≤ 122))) == false) Y Y Y Y fun h => Zh<|ov Y)<|Rq Y (.guarded (((decide (97 ≤ b)) && (decide (b ≤ 122))) == false) Y Y Y Y fun h => QP (ow Y h)<|ov Y)<|Rq Y (.guarded (((decide (97 ≤ b)) && (decide (b ≤ 122))) == false) Y Y Y Y fun h => Zh<|ow Y h)<|Rq Y (.guarded2 ((((decide (97 ≤ b)) && (decide (b ≤ 122))) == false) && ((decide (0 < i)) == true)) Y Y Y Y fun h => Zh<|ov Y)<|Rq Y (.guarded2 ((((decide (97 ≤ b)) && (decide (b ≤ 122))) == false) && ((decide (0 < i)) == true)) Y Y Y Y fun h => JT (ow Y h)<|ov Y)<|Rq Y (.guarded2 ((((decide (97 ≤ b)) && (decide (b ≤ 122))) == false) && ((decide (0 < i)) == true)) Y Y Y Y fun h => Zh<|ow Y h)<|Rq Y (.guarded2 (((((decide (97 ≤ b)) && (decide (b ≤ 122))) == false) && ((decide (0 < i)) == true)) && ((decide (48 ≤ b)) == true)) Y Y Y Y fun h => Zh<|ov Y)<|Rq Y (.guarded2 (((((decide (97 ≤ b)) && (decide (b ≤ 122))) == false) && ((decide (0 < i)) == true)) && ((decide (48 ≤ b)) == true)) Y Y Y Y fun h => ZaM (ow Y h)<|ov Y)<|Rq Y (.guarded2 ((((decide (97 ≤ b)) && (decide (b ≤ 122))) == false) && ((decide (0 < i)) == true)) Y Y Y Y fun h => Z3 (ow Y h) fun hp=>ow Y<|gA h<|gT hp)<|Rq Y (.guarded2 ((((decide (97 ≤ b)) && (decide (b ≤ 122))) == false) && ((decide (0 < i)) == true)) Y Y Y Y fun h => Zh<|ow Y h)<|Rq Y (.guarded2 (((((decide (97 ≤ b)) && (decide (b ≤ 122))) == false) && ((decide (0 < i)) == true)) && (((decide (48 ≤ b)) && (decide (b ≤ 57))) == false)) Y Y Y Y fun h => Zh<|ov Y)<|Rq Y (.guarded2 (((((decide (97 ≤ b)) && (decide (b ≤ 122))) == false) && ((decide (0 < i)) == true)) && (((decide (48 ≤ b)) && (decide (b ≤ 57))) == false)) Y Y Y Y fun h => ZY (ow Y h)<|ov Y)<|Rq Y (.guarded2 ((((decide (97 ≤ b)) && (decide (b ≤ 122))) == false) && ((decide (0 < i)) == true)) Y Y Y Y fun h => QR (ow Y h) fun hp=>ow Y<|gA h<|gF hp)<|Rq Y (.guarded (((decide (97 ≤ b)) && (decide (b ≤ 122))) == false) Y Y Y Y fun h => Z3 (ow Y h) fun hp=>ow Y<|gA h<|gT hp)<|Rq Y (QR (ov Y) fun hp=>ow Y<|gF hp)<|R1 Qe Y<|Za<|K3 0 3 36 Y<|If h Y (fun h=>?_) fun h=>?_
   ·
    refine K0<|Tr<|Ra Y<|Za<|?_
    replace h := lx h ▸ ho1
    obtain rfl := rt h
    exact Zg (Zo Y (.one<|rb Y))
   ·
    exact Ze<|K2 0 3 Y<|Zx<|Rm Y<|R2 QG Y<|Ra Y<|Za<|⟨_, h, ES []⟩
  ·
   refine ZM<|?_
   replace h := lx h ▸ ho1
   exact ⟨(), h, ES []⟩
 ·
  replace h := elr h
  replace h := t0i h
  refine Tr<|Rm Y<|R2 ZkH Y<|Rm Y<|Rq Y (.guarded ((!decide (s = [])) == true) Y Y Y Y fun h => Zh<|ov Y)<|Rq Y (.guarded ((!decide (s = [])) == true) Y Y Y Y fun h => Qs (ow Y h) Qf Y)<|Rq Y (.guarded ((!decide (s = [])) == true) Y Y Y Y fun h => ZaM (ow Y h)<|ov Y)<|Rq Y (Z3 (ov Y) fun hp=>ow Y<|gT hp)<|Rm Y<|Rq Y (.guarded (((!decide (s = [])) && (decide ((s.length : Int) ≤ 30))) == true) Y Y Y Y fun h => Zh<|ov Y)<|bE h fun y h_y h=>Rq Y (.guarded (((!decide (s = [])) && (decide ((s.length : Int) ≤ 30))) == true) Y Y Y Y fun h => Zj (ZhN<|gdT h_y h)<|.cons (ow Y h) (.b Y) .nil)<|Rq Y (.guarded (((!decide (s = [])) && (decide ((s.length : Int) ≤ 30))) == true) Y Y Y Y fun h => Qe<|ow Y h)<|Rq Y (Z3 (ov Y) fun hp=>ow Y<|gT hp)<|Ra Y<|Za<|?_
  obtain rfl := rt h
  exact Zg (Zo Y (.one<|rb Y))
theorem JA {n : Int} {low : Int} {high : Int} {r : Bool} (h : XB n low high = some r) :
 CSpec Tryz.prog gl0 158 [.int .i64 n, .int .i64 low, .int .i64 high] (.bool r) := by
 unfold XB at h
 replace h := ZP h
 refine So Tryz.func158 Y fun w0 A=>Tr<|Ra Y<|Za<|Tr<|Rm Y<|Rm Y<|R2 Z8 Y<|Rm Y<|Rq Y (.guarded ((decide (n < low)) == false) Y Y Y Y fun h => Zh<|ov Y)<|Rq Y (.guarded ((decide (n < low)) == false) Y Y Y Y fun h => Zh<|ov Y)<|Rq Y (.guarded ((decide (n < low)) == false) Y Y Y Y fun h => QP (ow Y h)<|ow Y h)<|Rq Y (QR (ov Y) fun hp=>ow Y<|gF hp)<|Ra Y<|Za<|?_
 obtain rfl := rt h
 exact Zg (Zo Y (.one<|rb Y))
theorem ZhJ {mark : Int} {r : Bool} (h : ZcM mark = some r) :
 CSpec Tryz.prog gl0 192 [.int .i64 mark] (.bool r) := by
 unfold ZcM at h
 replace h := ZP h
 refine So Tryz.func192 Y fun w0 A=>Tr<|Ra Y<|Za<|Tr<|Rm Y<|R2 JT Y<|Ra Y<|Za<|?_
 obtain rfl := rt h
 exact Zg (Zo Y (.one<|rb Y))
theorem Zgd {s : api_Sample} {r : Int} (h : J5 s = some r) :
 CSpec Tryz.prog gl0 174 [.agg [.int .i64 s.At, .int .i64 s.N, .int .i64 s.Mark]] (.int .i64 r) := by
 unfold J5 at h
 replace h := ZP h
 refine So Tryz.func174 Y fun w0 A=>Tr<|Rq Y (ZB (cva<|ov Y) Y tZ_56 Y)<|Ra Y<|Za<|Zl<|K1 1 Y<|Tr<|Rq Y (Zc (ov Y) Zem)<|Rq Y (Zb (ov Y) tS3 Y)<|bE h fun y h_y h=>Rq Y (Zj (JA h_y)<|.cons (ov Y) (.b Y)<|.cons (ov Y) (.b Y)<|.cons (ov Y) (.b Y) .nil)<|Rm Y<|Rq Y (.guarded (y == false) Y Y Y Y fun h => Zc (ov Y) Zbj)<|Rq Y (.guarded (y == false) Y Y Y Y fun h => Zb (ow Y h) tS3 Y)<|bE h fun y2 h_y2 h=>Rq Y (.guarded (y == false) Y Y Y Y fun h => Zj (JA<|gdT h_y2 h)<|.cons (ow Y h) (.b Y)<|.cons (ov Y) (.b Y)<|.cons (ov Y) (.b Y) .nil)<|Rq Y (QR (ov Y) fun hp=>ow Y<|gF hp)<|Rm Y<|Rq Y (.guarded ((y || y2) == false) Y Y Y Y fun h => Zc (ov Y) ZfO)<|Rq Y (.guarded ((y || y2) == false) Y Y Y Y fun h => Zb (ow Y h) tS3 Y)<|bE h fun y3 h_y3 h=>Rq Y (.guarded ((y || y2) == false) Y Y Y Y fun h => Zj (JA<|gdT h_y3 h)<|.cons (ow Y h) (.b Y)<|.cons (ov Y) (.b Y)<|.cons (ov Y) (.b Y) .nil)<|Rq Y (QR (ov Y) fun hp=>ow Y<|gF hp)<|Za<|K2 1 15 Y<|If h Y (fun h=>?_) fun h=>?_
 ·
  refine K0<|Tr<|Ra Y<|Za<|?_
  obtain rfl := rt h
  exact Zg (Zo Y (.one<|rb Y))
 ·
  refine Ze<|Zl<|K1 1 Y<|Tr<|Rq Y (Zc (ov Y) Zbj)<|Rq Y (Zb (ov Y) tS3 Y)<|R2 Z0 Y<|Rm Y<|Rq Y (.guarded ((!decide (s.N = 0)) == true) Y Y Y Y fun h => Zc (ov Y) ZfO)<|Rq Y (.guarded ((!decide (s.N = 0)) == true) Y Y Y Y fun h => Zb (ow Y h) tS3 Y)<|bE h fun y4 h_y4 h=>Rq Y (.guarded ((!decide (s.N = 0)) == true) Y Y Y Y fun h => Zj (ZhJ<|gdT h_y4 h)<|.cons (ow Y h) (.b Y) .nil)<|Rq Y (.guarded ((!decide (s.N = 0)) == true) Y Y Y Y fun h => Qe<|ow Y h)<|Rq Y (Z3 (ov Y) fun hp=>ow Y<|gT hp)<|Za<|K1 24 Y<|If h Y (fun h=>?_) fun h=>?_
  ·
   refine K0<|Tr<|Ra Y<|Za<|?_
   obtain rfl := rt h
   exact Zg (Zo Y (.one<|rb Y))
  ·
   refine Ze<|K0<|Tr<|Ra Y<|Za<|?_
   obtain rfl := rt h
   exact Zg (Zo Y (.one<|rb Y))
theorem ZjB {s : api_Series} {r : Int × Int} (h : ZdK s = some r) :
 CSpec Tryz.prog gl0 157 [.agg [.int .i64 s.Den, .sl 56 (List.map R56 s.Samples)]] (.tuple [.int .i64 r.1, .int .i64 r.2]) := by
 unfold ZdK at h
 replace h := ZP h
 refine So Tryz.func157 Y fun w0 A=>Tr<|Rq Y (ZB (cva<|ov Y) Y tZ_52 Y)<|Ra Y<|Ra Y<|Za<|Zl<|K1 1 Y<|Tr<|Rq Y (Zc (ov Y) Zkh)<|Rq Y (Zb (ov Y) tS3 Y)<|bE h fun y h_y h=>Rq Y (Zj (JA h_y)<|.cons (ov Y) (.b Y)<|.cons (ov Y) (.b Y)<|.cons (ov Y) (.b Y) .nil)<|Za<|K2 1 8 Y<|If h Y (fun h=>?_) fun h=>?_
 ·
  refine K0<|Tr<|Ra Y<|Ra Y<|Za<|?_
  obtain rfl := rt h
  exact Zg (Zo Y (.two (rb Y)<|rb Y))
 ·
  refine Ze<|Zl<|K1 1 Y<|Tr<|Rq Y (Zc (ov Y) Za8)<|Rq Y (Zb (ov Y) Zfx Y)<|Rl tZ_56 Zer Y<|R2 QP Y<|Za<|K2 1 12 Y<|If h Y (fun h=>?_) fun h=>?_
  ·
   refine K0<|Tr<|Ra Y<|Ra Y<|Za<|?_
   obtain rfl := rt h
   exact Zg (Zo Y (.two (rb Y)<|rb Y))
  ·
   refine Ze<|J0 (fun j => (.inr j)) ⟨[], []⟩ h (fun h=>?_) fun h=>?_
   ·
    refine K1 1 Y<|Tr<|Ra Y<|Za<|Zm<|?_
    obtain ⟨r1, hl1, ho1⟩ := Xt h
    refine L1 (fun i=>⟨[(1, .rp [.int .i64 s.Den, .sl 56 (List.map R56 s.Samples)] 0), (4, .int .i64 i)], []⟩) hl1 (ES []) fun n1 i h=>?_
    unfold ZbB at h
    refine Zl<|Tr<|Rm Y<|Rq Y (Zc (ov Y) Za8)<|Rq Y (Zb (ov Y) Zfx Y)<|Rl tZ_56 Zer Y<|R2 Z8 Y<|Za<|K3 1 4 17 Y<|If h Y (fun h=>?_) fun h=>?_
    ·
     refine Ze<|Zl<|Zm<|Zl<|K2 1 4 Y<|Tr<|Rq Y (Zc (ov Y) Za8)<|Rq Y (Zb (ov Y) Zfx Y)<|Rm Y<|bE h fun x h_x h=>Rq Y (ZJ (ov Y) (ov Y) Zer h_x)<|Rq Y (Zi (ov Y) Jq Y Y)<|bE h fun y2 h_y2 h=>Rq Y (Zj (Zgd h_y2)<|.cons (ov Y) (.aggB Y) .nil)<|Ra Y<|Za<|K3 1 4 5 Y<|Tr<|Rm Y<|R2 Z0 Y<|Za<|K4 1 4 5 27 Y<|If h Y (fun h=>?_) fun h=>?_
     ·
      refine K2 4 5 Y<|Tr<|Rm Y<|Rm Y<|Ra Y<|Ra Y<|Za<|?_
      replace h := lx h ▸ ho1
      obtain rfl := rt h
      exact Zg (Zo Y (.two (rb Y)<|rb Y))
     ·
      refine Ze<|K2 1 4 Y<|Td md0<|D1 0 Zh Y<|D2 1 QP Y<|D1 2 Zh Y<|Dq 3 Y (.guarded ((decide (0 < i)) == true) Y Y Y Y fun h => Zc (ov Y) Za8)<|Dq 4 Y (.guarded ((decide (0 < i)) == true) Y Y Y Y fun h => Zb (ow Y h) Zfx Y)<|Dq 5 Y (.guarded ((decide (0 < i)) == true) Y Y Y Y fun h => Zh<|ov Y)<|bE h fun x2 h_x2 h=>Dq 6 Y (.guarded ((decide (0 < i)) == true) Y Y Y Y fun h => ZJ (ow Y h) (ow Y h) Zer<|gdT h_x2 h)<|Dq 7 Y (.guarded ((decide (0 < i)) == true) Y Y Y Y fun h => Zc (ow Y h) Zem)<|Dq 8 Y (.guarded ((decide (0 < i)) == true) Y Y Y Y fun h => Zb (ow Y h) tS3 Y)<|Dq 9 Y (.guarded ((decide (0 < i)) == true) Y Y Y Y fun h => Zc (ov Y) Za8)<|Dq 10 Y (.guarded ((decide (0 < i)) == true) Y Y Y Y fun h => Zb (ow Y h) Zfx Y)<|Dq 11 Y (.guarded ((decide (0 < i)) == true) Y Y Y Y fun h => Zh<|ov Y)<|Dq 12 Y (.guarded ((decide (0 < i)) == true) Y Y Y Y fun h => Zho (ow Y h) (ov Y) Y)<|bE h fun x3 h_x3 h=>Dq 13 Y (.guarded ((decide (0 < i)) == true) Y Y Y Y fun h => ZJ (ow Y h) (ow Y h) Zer<|gdT h_x3 h)<|Dq 14 Y (.guarded ((decide (0 < i)) == true) Y Y Y Y fun h => Zc (ow Y h) Zem)<|Dq 15 Y (.guarded ((decide (0 < i)) == true) Y Y Y Y fun h => Zb (ow Y h) tS3 Y)<|Dq 16 Y (.guarded ((decide (0 < i)) == true) Y Y Y Y fun h => ZaM (ow Y h)<|ow Y h)<|Dq 17 Y (Z3 (ov Y) fun hp=>ow Y<|gT hp)<|Dd<|K3 1 4 47 Y<|If h Y (fun h=>?_) fun h=>?_
      ·
       refine K1 4 Y<|Tr<|Rm Y<|Ra Y<|Ra Y<|Za<|?_
       replace h := lx h ▸ ho1
       obtain rfl := rt h
       exact Zg (Zo Y (.two (rb Y)<|rb Y))
      ·
       exact Ze<|K2 1 4 Y<|Zx<|Rm Y<|R2 QG Y<|Ra Y<|Za<|⟨_, h, ES []⟩
    ·
     refine ZM<|?_
     replace h := lx h ▸ ho1
     exact ⟨(), h, ES []⟩
   ·
    replace h := elr h
    replace h := t0i h
    refine Tr<|Ra Y<|Ra Y<|Za<|?_
    obtain rfl := rt h
    exact Zg (Zo Y (.two (rb Y)<|rb Y))
end Go.Proofs.YtailpehcgelmdaaGreatDoor
