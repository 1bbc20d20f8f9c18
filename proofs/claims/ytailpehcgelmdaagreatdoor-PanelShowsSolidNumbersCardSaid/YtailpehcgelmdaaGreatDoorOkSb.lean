/- A text of the proof: a verified executor of the program form, or the contracts of the functions that the law reaches. -/
import Derived.Test.YtailpehcgelmdaaGreatDoorOkSa
set_option linter.all false
namespace Go.Proofs.YtailpehcgelmdaaGreatDoor
open Go Go.Vx
set_option maxRecDepth 10000
set_option maxHeartbeats 1000000
set_option linter.unusedVariables false
theorem XZ{s:List api_Instrument}{f:api_Instrument→Option Bool}{r:Int}{f_f:FuncId}{f_c:List AV}(f_d:f_c.all datB=true)(f_h: ∀ (z0:api_Instrument) z,f z0=some z→CSpec Tryz.prog gl0 f_f ([.agg [.int .i64 z0.Kind,.str z0.Name,.str z0.Track,.int .i64 z0.Places,.int .i64 z0.Low,.int .i64 z0.High,.int .i64 z0.Steps,.sl 136 (List.map R136 z0.Zones),.int .i64 z0.Op,.int .i64 z0.N,.bool z0.Latch,.int .i64 z0.Size]]++f_c) (.bool z))(h:Zy s f=some r):
 CSpec Tryz.prog gl0 115 [.sl 49 (List.map R49 s),.fn f_f f_c] (.int .i64 r):=by
 unfold Zy at h
 replace h:=Z9 h
 refine So Tryz.func115 Y fun w0 A=>Tr<|Ra Y<|Za<|J0 (fun j=>(.inr j)) ⟨[],[]⟩ h (fun h=>?_) fun h=>?_
 ·
  refine K2 0 1 Y<|Tr<|Rm Y<|Rl tZ_49 Zc1 Y<|Rm Y<|Za<|Zr<|?_
  obtain⟨r1,hl1,ho1⟩:=Zay h
  refine L1 (fun i=>⟨[(0,.sl 49 (List.map R49 s)),(1,.fn f_f f_c),(7,.int .i64 (s.length:Int)),(8,.int .i64 i)],[]⟩) hl1 (ES []<|sd 0 Y Y<|sr 1 Y (rFn<|rld f_d)<|sd 7 Y Y<|sd 8 Y Y sn) fun n1 i h=>?_
  unfold Zn at h
  refine Tr<|R2 QE Y<|Za<|Zt<|If h Y (fun h=>?_) fun h=>?_
  ·
   refine Zf<|Zt<|Zr<|K4 0 1 7 8 Y<|Tr<|Rm Y<|Ra Y<|Za<|K5 0 1 5 7 8 Y<|Tr<|Rm Y<|Rm Y<|Rm Y<|bE h fun x h_x h=>Rq Y (QX (ov Y) (ov Y) Zc1 h_x)<|Rq Y (ZB (ov Y) Zds Y Y)<|bE h fun y h_y h=>Rq Y (Zbi (ov Y) f_d (f_h _ _ h_y)<|.cons (ov Y) (.aggB Y) .nil)<|Za<|K6 0 1 5 7 8 16 Y<|If h Y (fun h=>?_) fun h=>?_
   ·
    refine K1 5 Y<|Tr<|Rm Y<|Ra Y<|Za<|?_
    replace h:=lx h▸ho1
    obtain rfl:=rt h
    exact Zj (ZD Y (.one<|rb Y))
   ·
    exact Zf<|K4 0 1 7 8 Y<|ZH<|R2 Jh Y<|Rm Y<|Za<|⟨_,h,ES []<|sd 0 Y Y<|sr 1 Y (rFn<|rld f_d)<|sd 7 Y Y<|sd 8 Y Y sn⟩
  ·
   refine Z3<|?_
   replace h:=lx h▸ho1
   exact⟨(),h,ES []⟩
 ·
  replace h:=elr h
  replace h:=t0i h
  refine Tr<|Ra Y<|Za<|?_
  obtain rfl:=rt h
  exact Zj (ZD Y (.one<|rb Y))
theorem Qp{s:List api_Instrument}{f:api_Instrument→Option Bool}{r:Bool}{f_f:FuncId}{f_c:List AV}(f_d:f_c.all datB=true)(f_h: ∀ (z0:api_Instrument) z,f z0=some z→CSpec Tryz.prog gl0 f_f ([.agg [.int .i64 z0.Kind,.str z0.Name,.str z0.Track,.int .i64 z0.Places,.int .i64 z0.Low,.int .i64 z0.High,.int .i64 z0.Steps,.sl 136 (List.map R136 z0.Zones),.int .i64 z0.Op,.int .i64 z0.N,.bool z0.Latch,.int .i64 z0.Size]]++f_c) (.bool z))(h:Zh s f=some r):
 CSpec Tryz.prog gl0 76 [.sl 49 (List.map R49 s),.fn f_f f_c] (.bool r):=by
 unfold Zh at h
 replace h:=Z9 h
 refine So Tryz.func76 Y fun w0 A=>Tr<|Ra Y<|Za<|Tr<|Rm Y<|Rm Y<|bE h fun y h_y h=>Rq Y (Zm (XZ f_d f_h h_y)<|.cons (ov Y) (.b Y)<|.cons (ov Y) (Dat.fnC<|.refl fun x hx=> .b<|List.all_eq_true.1 f_d x hx) .nil)<|R2 ZbN Y<|Ra Y<|Za<|?_
 obtain rfl:=rt h
 exact Zj (ZD Y (.one<|rb Y))
theorem ZfP{x:api_Instrument}{c0:api_Instrument}{r:Bool}(h:J3 x c0=some r):
 CSpec Tryz.prog gl0 98 [.agg [.int .i64 x.Kind,.str x.Name,.str x.Track,.int .i64 x.Places,.int .i64 x.Low,.int .i64 x.High,.int .i64 x.Steps,.sl 136 (List.map R136 x.Zones),.int .i64 x.Op,.int .i64 x.N,.bool x.Latch,.int .i64 x.Size],.rp [.int .i64 c0.Kind,.str c0.Name,.str c0.Track,.int .i64 c0.Places,.int .i64 c0.Low,.int .i64 c0.High,.int .i64 c0.Steps,.sl 136 (List.map R136 c0.Zones),.int .i64 c0.Op,.int .i64 c0.N,.bool c0.Latch,.int .i64 c0.Size] 0] (.bool r):=by
 unfold J3 at h
 replace h:=Z9 h
 refine So Tryz.func98 Y fun w0 A=>Tr<|Rq Y (Qn (cva<|ov Y) Y tZ_49 Y)<|Ra Y<|Za<|K3 1 2 3 Y<|Tr<|Rq Y (Ze (ov Y) Zjj)<|Rq Y (Zc (ov Y) tS9 Y)<|Rq Y (Ze (ov Y) Zjj)<|Rq Y (Zc (ov Y) tS9 Y)<|R2 Qg Y<|Ra Y<|Za<|?_
 obtain rfl:=rt h
 exact Zj (ZD Y (.one<|rb Y))
theorem Zhd{p:api_Panel}{r:Int}(h:Zac p=some r):
 CSpec Tryz.prog gl0 53 [.agg [.sl 49 (List.map R49 p.Instruments)]] (.int .i64 r):=by
 unfold Zac at h
 replace h:=Z9 h
 refine So Tryz.func53 Y fun w0 A=>Tr<|Rq Y (Qn (cva<|ov Y) Y tZ_24 Y)<|Ra Y<|Za<|Zt<|K1 1 Y<|Tr<|Rq Y (Ze (ov Y) Zba)<|Rq Y (Zc (ov Y) Zfq Y)<|Rl tZ_49 Zc1 Y<|R2 JC Y<|Za<|K2 1 9 Y<|If h Y (fun h=>?_) fun h=>?_
 ·
  refine K0<|Tr<|Ra Y<|Za<|?_
  obtain rfl:=rt h
  exact Zj (ZD Y (.one<|rb Y))
 ·
  refine Zf<|J0 (fun j=>(.inr j)) ⟨[],[]⟩ h (fun h=>?_) fun h=>?_
  ·
   refine K1 1 Y<|Tr<|Rq Y (Ze (ov Y) Zba)<|Rq Y (Zc (ov Y) Zfq Y)<|Rl tZ_49 Zc1 Y<|Rm Y<|Za<|Zr<|?_
   obtain⟨r1,hl1,ho1⟩:=Zay h
   refine L1 (fun i=>⟨[(1,.rp [.sl 49 (List.map R49 p.Instruments)] 0),(11,.sl 49 (List.map R49 p.Instruments)),(12,.int .i64 (p.Instruments.length:Int)),(13,.int .i64 i)],[]⟩) hl1 (ES []) fun n1 i h=>?_
   unfold Xv at h
   refine Tr<|R2 QE Y<|Za<|Zt<|If h Y (fun h=>?_) fun h=>?_
   ·
    refine Zf<|Zt<|Zr<|K4 1 11 12 13 Y<|Tr<|Rm Y<|bE h fun x h_x h=>Rq Y (QX (ov Y) (ov Y) Zc1 h_x)<|Rq Y (ZB (ov Y) Zds Y Y)<|Rx Y (Z8 (row:= [_,_,_,_,_,_,_,_,_,_,_,_]) 0 Y ZkE Y tZ_49)<|Ra Y<|Rx Y (Zq (ov Y) (ov Y) (ZE Zds Y) Y Y Y (Nat.le_of_ble_eq_true Y) (Zd Y) Y)<|Za<|Zt<|K6 1 3 4 11 12 13 Y<|Tr<|Rq Y (Qk (ov Y) Y Y Y Zds Y Y)<|bE h fun y h_y h=>Rq Y (Zm (Zc2 h_y)<|.cons (ov Y) (.aggB Y) .nil)<|Ra Y<|Za<|K7 1 3 4 5 11 12 13 Y<|Tr<|Rm Y<|R2 Jz Y<|Za<|K8 1 3 4 5 11 12 13 21 Y<|If h Y (fun h=>?_) fun h=>?_
    ·
     refine K1 5 Y<|Tr<|Rm Y<|Ra Y<|Za<|?_
     replace h:=lx h▸ho1
     obtain rfl:=rt h
     exact Zj (ZD Y (.one<|rb Y))
    ·
     refine Zf<|K6 1 3 4 11 12 13 Y<|Tr<|Rq Y (Ze (ov Y) Zba)<|Rq Y (Zc (ov Y) Zfq Y)<|Rm Y<|bE h fun l h_l h=>Rq Y (Zhg (ov Y) Zc1 on (oi<|ov Y) h_l)<|ZkU (Ent.sel [none] (sd 1 Y Y<|sd 3 Y Y<|sr 4 Y (.frp ⟨Y,⟨_,Y⟩,Y,Y⟩)<|sd 11 Y Y<|sd 12 Y Y<|sd 13 Y Y<|sd 23 Y Y<|sd 24 Y Y<|sd 25 Y Y<|sd 26 Y Y sn) (.row 49 .nil) Y Y)<|Rq Y (Zbq<|.cons (ov Y) .nil)<|bE h fun y2 h_y2 h=>Rq Y (Zm (Qp Y (fun z0 _ hz=>ZfP hz) h_y2)<|.cons (ov Y) (.b Y)<|.cons (ov Y) (.fnC<|.cons (.b Y) .nil) .nil)<|Za<|K5 1 11 12 13 28 Y<|If h Y (fun h=>?_) fun h=>?_
     ·
      refine K0<|Tr<|Ra Y<|Za<|?_
      replace h:=lx h▸ho1
      obtain rfl:=rt h
      exact Zj (ZD Y (.one<|rb Y))
     ·
      exact Zf<|K4 1 11 12 13 Y<|ZH<|R2 Jh Y<|Rm Y<|Za<|⟨_,h,ES []⟩
   ·
    refine Z3<|?_
    replace h:=lx h▸ho1
    exact⟨(),h,ES []⟩
  ·
   replace h:=elr h
   replace h:=t0i h
   refine Tr<|Ra Y<|Za<|?_
   obtain rfl:=rt h
   exact Zj (ZD Y (.one<|rb Y))
theorem ZdL{n:Int}{low:Int}{high:Int}{r:Bool}(h:Jg n low high=some r):
 CSpec Tryz.prog gl0 114 [.int .i64 n,.int .i64 low,.int .i64 high] (.bool r):=by
 unfold Jg at h
 replace h:=Z9 h
 refine So Tryz.func114 Y fun w0 A=>Tr<|Ra Y<|Za<|Tr<|Rm Y<|Rm Y<|R2 ZbN Y<|Rm Y<|Rq Y (.guarded ((decide (low≤n))==true) Y Y Y Y fun h=>Zg<|ov Y)<|Rq Y (.guarded ((decide (low≤n))==true) Y Y Y Y fun h=>Zg<|ov Y)<|Rq Y (.guarded ((decide (low≤n))==true) Y Y Y Y fun h=>ZcL (ow Y h)<|ow Y h)<|Rq Y (XT (ov Y) fun hp=>ow Y<|gT hp)<|Ra Y<|Za<|?_
 obtain rfl:=rt h
 exact Zj (ZD Y (.one<|rb Y))
theorem Zgk{s:Str}{r:Bool}(h:JJ s=some r):
 CSpec Tryz.prog gl0 148 [.str s] (.bool r):=by
 unfold JJ at h
 replace h:=Z9 h
 refine So Tryz.func148 Y fun w0 A=>Tr<|Ra Y<|Za<|Zt<|K1 0 Y<|Tr<|Rm Y<|Za<|Zr<|I1 (fun v=>⟨[(4,.bool v)],[]⟩) h (fun h=>?_) fun v h=>?_
 ·
  refine K1 3 Y<|Tr<|R2 Qg Y<|Ra Y<|Za<|K2 3 4 Y<|ZeF h Y (fun b4 h=>?_) fun b4 h=>?_
  ·
   exact Zf<|⟨_,h,ES []⟩
  ·
   refine Tr<|R2 Qg Y<|Ra Y<|Za<|K2 3 4 Y<|ZeF h Y (fun b4 h=>?_) fun b4 h=>?_
   ·
    exact Zf<|⟨_,h,ES []⟩
   ·
    refine Tr<|R2 Qg Y<|Ra Y<|Za<|K2 3 4 Y<|ZeF h Y (fun b4 h=>?_) fun b4 h=>?_
    ·
     exact Zf<|⟨_,h,ES []⟩
    ·
     refine Tr<|R2 Qg Y<|Ra Y<|Za<|K2 3 4 Y<|ZeF h Y (fun b4 h=>?_) fun b4 h=>?_
     ·
      exact Zf<|⟨_,h,ES []⟩
     ·
      refine Tr<|R2 Qg Y<|Ra Y<|Za<|K2 3 4 Y<|ZeF h Y (fun b4 h=>?_) fun b4 h=>?_
      ·
       exact Zf<|⟨_,h,ES []⟩
      ·
       refine Tr<|R2 Qg Y<|Ra Y<|Za<|K2 3 4 Y<|ZeF h Y (fun b4 h=>?_) fun b4 h=>?_
       ·
        exact Zf<|⟨_,h,ES []⟩
       ·
        refine Tr<|R2 Qg Y<|Ra Y<|Za<|K2 3 4 Y<|ZeF h Y (fun b4 h=>?_) fun b4 h=>?_
        ·
         exact Zf<|⟨_,h,ES []⟩
        ·
         refine Tr<|R2 Qg Y<|Ra Y<|Za<|K2 3 4 Y<|ZeF h Y (fun b4 h=>?_) fun b4 h=>?_
         ·
          exact Zf<|⟨_,h,ES []⟩
         ·
          refine Tr<|R2 Qg Y<|Ra Y<|Za<|K2 3 4 Y<|ZeF h Y (fun b4 h=>?_) fun b4 h=>?_
          ·
           exact Zf<|⟨_,h,ES []⟩
          ·
           refine Tr<|R2 Qg Y<|Ra Y<|Za<|K2 3 4 Y<|ZeF h Y (fun b4 h=>?_) fun b4 h=>?_
           ·
            exact Zf<|⟨_,h,ES []⟩
           ·
            refine Tr<|R2 Qg Y<|Ra Y<|Za<|K2 3 4 Y<|ZeF h Y (fun b4 h=>?_) fun b4 h=>?_
            ·
             exact Zf<|⟨_,h,ES []⟩
            ·
             refine Tr<|R2 Qg Y<|Ra Y<|Za<|K2 3 4 Y<|ZeF h Y (fun b4 h=>?_) fun b4 h=>?_
             ·
              exact Zf<|⟨_,h,ES []⟩
             ·
              refine Tr<|R2 Qg Y<|Ra Y<|Za<|K2 3 4 Y<|ZeF h Y (fun b4 h=>?_) fun b4 h=>?_
              ·
               exact Zf<|⟨_,h,ES []⟩
              ·
               refine Tr<|R2 Qg Y<|Ra Y<|Za<|K2 3 4 Y<|ZeF h Y (fun b4 h=>?_) fun b4 h=>?_
               ·
                exact Zf<|⟨_,h,ES []⟩
               ·
                refine Tr<|R2 Qg Y<|Ra Y<|Za<|K2 3 4 Y<|If h Y (fun h=>?_) fun h=>?_
                ·
                 exact Zf<|⟨_,h,ES []⟩
                ·
                 exact ZH<|R2 Qg Y<|Ra Y<|Za<|⟨_,h,ES []⟩
 ·
  refine If h Y (fun h=>?_) fun h=>?_
  ·
   refine K0<|Tr<|Ra Y<|Za<|?_
   obtain rfl:=rt h
   exact Zj (ZD Y (.one<|rb Y))
  ·
   refine Zf<|K0<|Tr<|Ra Y<|Za<|?_
   obtain rfl:=rt h
   exact Zj (ZD Y (.one<|rb Y))
theorem Zfh{c_:Int}{r:Bool}(h:JA c_=some r):
 CSpec Tryz.prog gl0 149 [.int .u8 c_] (.bool r):=by
 unfold JA at h
 replace h:=Z9 h
 refine So Tryz.func149 Y fun w0 A=>Tr<|Ra Y<|Za<|Tr<|Rm Y<|R2 ZbN Y<|Rm Y<|Rq Y (.guarded ((decide (97≤c_))==true) Y Y Y Y fun h=>Zg<|ov Y)<|Rq Y (.guarded ((decide (97≤c_))==true) Y Y Y Y fun h=>ZcL (ow Y h)<|ov Y)<|Rq Y (XT (ov Y) fun hp=>ow Y<|gT hp)<|Rm Y<|Rq Y (.guarded (((decide (97≤c_))&&(decide (c_≤122)))==false) Y Y Y Y fun h=>Zg<|ov Y)<|Rq Y (.guarded (((decide (97≤c_))&&(decide (c_≤122)))==false) Y Y Y Y fun h=>ZbN (ow Y h)<|ov Y)<|Rq Y (.guarded (((decide (97≤c_))&&(decide (c_≤122)))==false) Y Y Y Y fun h=>Zg<|ow Y h)<|Rq Y (.guarded2 ((((decide (97≤c_))&&(decide (c_≤122)))==false)&&((decide (48≤c_))==true)) Y Y Y Y fun h=>Zg<|ov Y)<|Rq Y (.guarded2 ((((decide (97≤c_))&&(decide (c_≤122)))==false)&&((decide (48≤c_))==true)) Y Y Y Y fun h=>ZcL (ow Y h)<|ov Y)<|Rq Y (.guarded (((decide (97≤c_))&&(decide (c_≤122)))==false) Y Y Y Y fun h=>XT (ow Y h) fun hp=>ow Y<|gA h<|gT hp)<|Rq Y (Zab (ov Y) fun hp=>ow Y<|gF hp)<|Rm Y<|Rq Y (.guarded ((((decide (97≤c_))&&(decide (c_≤122))) || ((decide (48≤c_))&&(decide (c_≤57))))==false) Y Y Y Y fun h=>Zg<|ov Y)<|Rq Y (.guarded ((((decide (97≤c_))&&(decide (c_≤122))) || ((decide (48≤c_))&&(decide (c_≤57))))==false) Y Y Y Y fun h=>Xs (ow Y h)<|ov Y)<|Rq Y (Zab (ov Y) fun hp=>ow Y<|gF hp)<|Ra Y<|Za<|?_
 obtain rfl:=rt h
 exact Zj (ZD Y (.one<|rb Y))
theorem Zgf{s:Str}{r:Bool}(h:JR s=some r):
 CSpec Tryz.prog gl0 110 [.str s] (.bool r):=by
 unfold JR at h
 replace h:=Z9 h
 refine So Tryz.func110 Y fun w0 A=>Tr<|Ra Y<|Za<|Zt<|K1 0 Y<|Tr<|Rm Y<|Rq Y (QL (ov Y) QB Y)<|bE h fun y h_y h=>Rq Y (Zm (ZdL h_y)<|.cons (ov Y) (.b Y)<|.cons (ov Y) (.b Y)<|.cons (ov Y) (.b Y) .nil)<|R1 Xt Y<|Rm Y<|Rq Y (.guarded ((!y)==false) Y Y Y Y fun h=>Zg<|ov Y)<|bE h fun b h_b h=>Rq Y (.guarded ((!y)==false) Y Y Y Y fun h=>Xp (ow Y h) (ov Y) QB<|gdT h_b h)<|Rq Y (.guarded ((!y)==false) Y Y Y Y fun h=>QE (ow Y h)<|ov Y)<|Rq Y (Zab (ov Y) fun hp=>ow Y<|gF hp)<|Rm Y<|Rq Y (.guarded (((!y) || (decide (b<97)))==false) Y Y Y Y fun h=>Zg<|ov Y)<|bE h fun b2 h_b2 h=>Rq Y (.guarded (((!y) || (decide (b<97)))==false) Y Y Y Y fun h=>Xp (ow Y h) (ov Y) QB<|gdT h_b2 h)<|Rq Y (.guarded (((!y) || (decide (b<97)))==false) Y Y Y Y fun h=>JC (ow Y h)<|ov Y)<|Rq Y (Zab (ov Y) fun hp=>ow Y<|gF hp)<|Rm Y<|Rq Y (.guarded ((((!y) || (decide (b<97))) || (decide (122<b2)))==false) Y Y Y Y fun h=>Zg<|ov Y)<|bE h fun y2 h_y2 h=>Rq Y (.guarded ((((!y) || (decide (b<97))) || (decide (122<b2)))==false) Y Y Y Y fun h=>Zm (Zgk<|gdT h_y2 h)<|.cons (ow Y h) (.b Y) .nil)<|Rq Y (Zab (ov Y) fun hp=>ow Y<|gF hp)<|Za<|K2 0 21 Y<|If h Y (fun h=>?_) fun h=>?_
 ·
  refine K0<|Tr<|Ra Y<|Za<|?_
  obtain rfl:=rt h
  exact Zj (ZD Y (.one<|rb Y))
 ·
  refine Zf<|J0 (fun j=>(.inr j)) ⟨[],[]⟩ h (fun h=>?_) fun h=>?_
  ·
   refine K1 0 Y<|Tr<|Rm Y<|Rq Y (QL (ov Y) QB Y)<|Rm Y<|Za<|Zr<|?_
   obtain⟨r1,hl1,ho1⟩:=Zay h
   refine L1 (fun i=>⟨[(0,.str s),(23,.int .i64 (s.length:Int)),(24,.int .i64 i)],[]⟩) hl1 (ES []) fun n1 i h=>?_
   unfold Xb at h
   refine Tr<|R2 QE Y<|Za<|Zt<|If h Y (fun h=>?_) fun h=>?_
   ·
    refine Zf<|Zt<|Zr<|K3 0 23 24 Y<|Tr<|Rm Y<|Ra Y<|Za<|K4 0 3 23 24 Y<|Tr<|Rm Y<|Rm Y<|bE h fun b3 h_b3 h=>Rq Y (Xp (ov Y) (ov Y) QB h_b3)<|bE h fun y3 h_y3 h=>Rq Y (Zm (Zfh h_y3)<|.cons (ov Y) (.b Y) .nil)<|R1 Xt Y<|Za<|K4 0 23 24 31 Y<|If h Y (fun h=>?_) fun h=>?_
    ·
     refine K0<|Tr<|Ra Y<|Za<|?_
     replace h:=lx h▸ho1
     obtain rfl:=rt h
     exact Zj (ZD Y (.one<|rb Y))
    ·
     exact Zf<|K3 0 23 24 Y<|ZH<|R2 Jh Y<|Rm Y<|Za<|⟨_,h,ES []⟩
   ·
    refine Z3<|?_
    replace h:=lx h▸ho1
    exact⟨(),h,ES []⟩
  ·
   replace h:=elr h
   replace h:=t0i h
   refine Tr<|Ra Y<|Za<|?_
   obtain rfl:=rt h
   exact Zj (ZD Y (.one<|rb Y))
theorem Xi{s:List api_Track}{f:api_Track→Option Bool}{r:Int}{f_f:FuncId}{f_c:List AV}(f_d:f_c.all datB=true)(f_h: ∀ (z0:api_Track) z,f z0=some z→CSpec Tryz.prog gl0 f_f ([.agg [.str z0.Name,.int .i64 z0.Series.Den,.sl 56 (List.map R56 z0.Series.Samples),.int .i64 z0.Long]]++f_c) (.bool z))(h:Zz s f=some r):
 CSpec Tryz.prog gl0 116 [.sl 54 (List.map R54 s),.fn f_f f_c] (.int .i64 r):=by
 unfold Zz at h
 replace h:=Z9 h
 refine So Tryz.func116 Y fun w0 A=>Tr<|Ra Y<|Za<|J0 (fun j=>(.inr j)) ⟨[],[]⟩ h (fun h=>?_) fun h=>?_
 ·
  refine K2 0 1 Y<|Tr<|Rm Y<|Rl tZ_54 Zeq Y<|Rm Y<|Za<|Zr<|?_
  obtain⟨r1,hl1,ho1⟩:=Zay h
  refine L1 (fun i=>⟨[(0,.sl 54 (List.map R54 s)),(1,.fn f_f f_c),(7,.int .i64 (s.length:Int)),(8,.int .i64 i)],[]⟩) hl1 (ES []<|sd 0 Y Y<|sr 1 Y (rFn<|rld f_d)<|sd 7 Y Y<|sd 8 Y Y sn) fun n1 i h=>?_
  unfold Zk at h
  refine Tr<|R2 QE Y<|Za<|Zt<|If h Y (fun h=>?_) fun h=>?_
  ·
   refine Zf<|Zt<|Zr<|K4 0 1 7 8 Y<|Tr<|Rm Y<|Ra Y<|Za<|K5 0 1 5 7 8 Y<|Tr<|Rm Y<|Rm Y<|Rm Y<|bE h fun x h_x h=>Rq Y (QX (ov Y) (ov Y) Zeq h_x)<|Rq Y (ZB (ov Y) Zic Y Y)<|bE h fun y h_y h=>Rq Y (Zbi (ov Y) f_d (f_h _ _ h_y)<|.cons (ov Y) (.aggB Y) .nil)<|Za<|K6 0 1 5 7 8 16 Y<|If h Y (fun h=>?_) fun h=>?_
   ·
    refine K1 5 Y<|Tr<|Rm Y<|Ra Y<|Za<|?_
    replace h:=lx h▸ho1
    obtain rfl:=rt h
    exact Zj (ZD Y (.one<|rb Y))
   ·
    exact Zf<|K4 0 1 7 8 Y<|ZH<|R2 Jh Y<|Rm Y<|Za<|⟨_,h,ES []<|sd 0 Y Y<|sr 1 Y (rFn<|rld f_d)<|sd 7 Y Y<|sd 8 Y Y sn⟩
  ·
   refine Z3<|?_
   replace h:=lx h▸ho1
   exact⟨(),h,ES []⟩
 ·
  replace h:=elr h
  replace h:=t0i h
  refine Tr<|Ra Y<|Za<|?_
  obtain rfl:=rt h
  exact Zj (ZD Y (.one<|rb Y))
theorem JS{s:List api_Track}{f:api_Track→Option Bool}{r:Bool}{f_f:FuncId}{f_c:List AV}(f_d:f_c.all datB=true)(f_h: ∀ (z0:api_Track) z,f z0=some z→CSpec Tryz.prog gl0 f_f ([.agg [.str z0.Name,.int .i64 z0.Series.Den,.sl 56 (List.map R56 z0.Series.Samples),.int .i64 z0.Long]]++f_c) (.bool z))(h:Zw s f=some r):
 CSpec Tryz.prog gl0 111 [.sl 54 (List.map R54 s),.fn f_f f_c] (.bool r):=by
 unfold Zw at h
 replace h:=Z9 h
 refine So Tryz.func111 Y fun w0 A=>Tr<|Ra Y<|Za<|Tr<|Rm Y<|Rm Y<|bE h fun y h_y h=>Rq Y (Zm (Xi f_d f_h h_y)<|.cons (ov Y) (.b Y)<|.cons (ov Y) (Dat.fnC<|.refl fun x hx=> .b<|List.all_eq_true.1 f_d x hx) .nil)<|R2 ZbN Y<|Ra Y<|Za<|?_
 obtain rfl:=rt h
 exact Zj (ZD Y (.one<|rb Y))
theorem ZdC{x:api_Track}{c0:api_Track}{r:Bool}(h:Q7 x c0=some r):
 CSpec Tryz.prog gl0 112 [.agg [.str x.Name,.int .i64 x.Series.Den,.sl 56 (List.map R56 x.Series.Samples),.int .i64 x.Long],.rp [.str c0.Name,.int .i64 c0.Series.Den,.sl 56 (List.map R56 c0.Series.Samples),.int .i64 c0.Long] 0] (.bool r):=by
 unfold Q7 at h
 replace h:=Z9 h
 refine So Tryz.func112 Y fun w0 A=>Tr<|Rq Y (Qn (cva<|ov Y) Y tZ_54 Y)<|Ra Y<|Za<|K3 1 2 3 Y<|Tr<|Rq Y (Ze (ov Y) ZgM)<|Rq Y (Zc (ov Y) tS9 Y)<|Rq Y (Ze (ov Y) ZgM)<|Rq Y (Zc (ov Y) tS9 Y)<|R2 Qg Y<|Ra Y<|Za<|?_
 obtain rfl:=rt h
 exact Zj (ZD Y (.one<|rb Y))
theorem ZaA{n:Int}{low:Int}{high:Int}{r:Bool}(h:Xl n low high=some r):
 CSpec Tryz.prog gl0 164 [.int .i64 n,.int .i64 low,.int .i64 high] (.bool r):=by
 unfold Xl at h
 replace h:=Z9 h
 refine So Tryz.func164 Y fun w0 A=>Tr<|Ra Y<|Za<|Tr<|Rm Y<|Rm Y<|R2 ZbN Y<|Rm Y<|Rq Y (.guarded ((decide (low≤n))==true) Y Y Y Y fun h=>Zg<|ov Y)<|Rq Y (.guarded ((decide (low≤n))==true) Y Y Y Y fun h=>Zg<|ov Y)<|Rq Y (.guarded ((decide (low≤n))==true) Y Y Y Y fun h=>ZcL (ow Y h)<|ow Y h)<|Rq Y (XT (ov Y) fun hp=>ow Y<|gT hp)<|Ra Y<|Za<|?_
 obtain rfl:=rt h
 exact Zj (ZD Y (.one<|rb Y))
theorem Zgu{s:api_Series}{r:Int×Int}(h:JL s=some r):
 CSpec Tryz.prog gl0 150 [.agg [.int .i64 s.Den,.sl 56 (List.map R56 s.Samples)]] (.tuple [.int .i64 r.1,.int .i64 r.2]):=by
 unfold JL at h
 replace h:=Z9 h
 refine So Tryz.func150 Y fun w0 A=>Tr<|Rq Y (Qn (cva<|ov Y) Y tZ_52 Y)<|Ra Y<|Ra Y<|Za<|Zt<|K1 1 Y<|Tr<|Rq Y (Ze (ov Y) ZiV)<|Rq Y (Zc (ov Y) tS3 Y)<|bE h fun y h_y h=>Rq Y (Zm (ZaA h_y)<|.cons (ov Y) (.b Y)<|.cons (ov Y) (.b Y)<|.cons (ov Y) (.b Y) .nil)<|R1 Xt Y<|Za<|K2 1 9 Y<|If h Y (fun h=>?_) fun h=>?_
 ·
  refine K0<|Tr<|Ra Y<|Ra Y<|Za<|?_
  obtain rfl:=rt h
  exact Zj (ZD Y (.two (rb Y)<|rb Y))
 ·
  refine Zf<|Zt<|K1 1 Y<|Tr<|Rq Y (Ze (ov Y) ZcU)<|Rq Y (Zc (ov Y) Zho Y)<|Rl tZ_56 ZeH Y<|R2 JC Y<|Za<|K2 1 13 Y<|If h Y (fun h=>?_) fun h=>?_
  ·
   refine K0<|Tr<|Ra Y<|Ra Y<|Za<|?_
   obtain rfl:=rt h
   exact Zj (ZD Y (.two (rb Y)<|rb Y))
  ·
   refine Zf<|J0 (fun j=>(.inr j)) ⟨[],[]⟩ h (fun h=>?_) fun h=>?_
   ·
    refine K1 1 Y<|Tr<|Rq Y (Ze (ov Y) ZcU)<|Rq Y (Zc (ov Y) Zho Y)<|Rl tZ_56 ZeH Y<|Rm Y<|Za<|Zr<|?_
    obtain⟨r1,hl1,ho1⟩:=Zay h
    refine L1 (fun i=>⟨[(1,.rp [.int .i64 s.Den,.sl 56 (List.map R56 s.Samples)] 0),(15,.sl 56 (List.map R56 s.Samples)),(16,.int .i64 (s.Samples.length:Int)),(17,.int .i64 i)],[]⟩) hl1 (ES []) fun n1 i h=>?_
    unfold XE at h
    refine Tr<|R2 QE Y<|Za<|Zt<|If h Y (fun h=>?_) fun h=>?_
    ·
     refine Zf<|Zt<|Zr<|K4 1 15 16 17 Y<|Tr<|Rm Y<|bE h fun x h_x h=>Rq Y (QX (ov Y) (ov Y) ZeH h_x)<|Rq Y (ZB (ov Y) ZdA Y Y)<|Rx Y (Z8 (row:= [_,_,_]) 0 Y Zio Y tZ_56)<|Ra Y<|Rx Y (Zq (ov Y) (ov Y) (ZE ZdA Y) Y Y Y (Nat.le_of_ble_eq_true Y) (Zd Y) Y)<|Za<|Zr<|K6 1 4 5 15 16 17 Y<|Tr<|Rq Y (Zb (ov Y) Y Y ZfH)<|Rq Y (Zo (ov Y) Y Y Y tS3 Y)<|bE h fun y2 h_y2 h=>Rq Y (Zm (ZaA h_y2)<|.cons (ov Y) (.b Y)<|.cons (ov Y) (.b Y)<|.cons (ov Y) (.b Y) .nil)<|R1 Xt Y<|Rm Y<|Rq Y (.guarded ((!y2)==false) Y Y Y Y fun h=>Zb (ov Y) Y Y Ze6)<|Rq Y (.guarded ((!y2)==false) Y Y Y Y fun h=>Zo (ow Y h) Y Y Y tS3 Y)<|bE h fun y3 h_y3 h=>Rq Y (.guarded ((!y2)==false) Y Y Y Y fun h=>Zm (ZaA<|gdT h_y3 h)<|.cons (ow Y h) (.b Y)<|.cons (ov Y) (.b Y)<|.cons (ov Y) (.b Y) .nil)<|Rq Y (.guarded ((!y2)==false) Y Y Y Y fun h=>Xt<|ow Y h)<|Rq Y (Zab (ov Y) fun hp=>ow Y<|gF hp)<|Rm Y<|Rq Y (.guarded (((!y2) || (!y3))==false) Y Y Y Y fun h=>Zb (ov Y) Y Y ZgI)<|Rq Y (.guarded (((!y2) || (!y3))==false) Y Y Y Y fun h=>Zo (ow Y h) Y Y Y tS3 Y)<|bE h fun y4 h_y4 h=>Rq Y (.guarded (((!y2) || (!y3))==false) Y Y Y Y fun h=>Zm (ZaA<|gdT h_y4 h)<|.cons (ow Y h) (.b Y)<|.cons (ov Y) (.b Y)<|.cons (ov Y) (.b Y) .nil)<|Rq Y (.guarded (((!y2) || (!y3))==false) Y Y Y Y fun h=>Xt<|ow Y h)<|Rq Y (Zab (ov Y) fun hp=>ow Y<|gF hp)<|Ra Y<|Za<|K7 1 4 5 15 16 17 22 Y<|If h Y (fun h=>?_) fun h=>?_
     ·
      refine K1 4 Y<|Tr<|Rm Y<|Ra Y<|Ra Y<|Za<|?_
      replace h:=lx h▸ho1
      obtain rfl:=rt h
      exact Zj (ZD Y (.two (rb Y)<|rb Y))
     ·
      refine K6 1 4 5 15 16 17 Y<|Tr<|Rq Y (Zb (ov Y) Y Y Ze6)<|Rq Y (Zo (ov Y) Y Y Y tS3 Y)<|R2 Jz Y<|Rm Y<|Rq Y (.guarded ((!decide (x.N=0))==true) Y Y Y Y fun h=>Zb (ov Y) Y Y ZgI)<|Rq Y (.guarded ((!decide (x.N=0))==true) Y Y Y Y fun h=>Zo (ow Y h) Y Y Y tS3 Y)<|Rq Y (.guarded ((!decide (x.N=0))==true) Y Y Y Y fun h=>ZcL (ow Y h)<|ov Y)<|Rq Y (XT (ov Y) fun hp=>ow Y<|gT hp)<|Ra Y<|Za<|K7 1 4 5 15 16 17 40 Y<|If h Y (fun h=>?_) fun h=>?_
      ·
       refine K1 4 Y<|Tr<|Rm Y<|Ra Y<|Ra Y<|Za<|?_
       replace h:=lx h▸ho1
       obtain rfl:=rt h
       exact Zj (ZD Y (.two (rb Y)<|rb Y))
      ·
       refine K6 1 4 5 15 16 17 Y<|Td md0<|D1 0 Zg Y<|D2 1 JC Y<|D1 2 Zg Y<|Dq 3 Y (.guarded ((decide (0<i))==true) Y Y Y Y fun h=>Zb (ov Y) Y Y ZfH)<|Dq 4 Y (.guarded ((decide (0<i))==true) Y Y Y Y fun h=>Zo (ow Y h) Y Y Y tS3 Y)<|Dq 5 Y (.guarded ((decide (0<i))==true) Y Y Y Y fun h=>Ze (ov Y) ZcU)<|Dq 6 Y (.guarded ((decide (0<i))==true) Y Y Y Y fun h=>Zc (ow Y h) Zho Y)<|Dq 7 Y (.guarded ((decide (0<i))==true) Y Y Y Y fun h=>Zg<|ov Y)<|Dq 8 Y (.guarded ((decide (0<i))==true) Y Y Y Y fun h=>ZhF (ow Y h) (ov Y) Y)<|bE h fun x2 h_x2 h=>Dq 9 Y (.guarded ((decide (0<i))==true) Y Y Y Y fun h=>QX (ow Y h) (ow Y h) ZeH<|gdT h_x2 h)<|Dq 10 Y (.guarded ((decide (0<i))==true) Y Y Y Y fun h=>Ze (ow Y h) ZfH)<|Dq 11 Y (.guarded ((decide (0<i))==true) Y Y Y Y fun h=>Zc (ow Y h) tS3 Y)<|Dq 12 Y (.guarded ((decide (0<i))==true) Y Y Y Y fun h=>ZcL (ow Y h)<|ow Y h)<|Dq 13 Y (XT (ov Y) fun hp=>ow Y<|gT hp)<|D1 14 Zaw Y<|Dd<|K6 1 4 15 16 17 50 Y<|If h Y (fun h=>?_) fun h=>?_
       ·
        refine K1 4 Y<|Tr<|Rm Y<|Ra Y<|Ra Y<|Za<|?_
        replace h:=lx h▸ho1
        obtain rfl:=rt h
        exact Zj (ZD Y (.two (rb Y)<|rb Y))
       ·
        exact Zf<|K4 1 15 16 17 Y<|ZH<|R2 Jh Y<|Rm Y<|Za<|⟨_,h,ES []⟩
    ·
     refine Z3<|?_
     replace h:=lx h▸ho1
     exact⟨(),h,ES []⟩
   ·
    replace h:=elr h
    replace h:=t0i h
    refine Tr<|Ra Y<|Ra Y<|Za<|?_
    obtain rfl:=rt h
    exact Zj (ZD Y (.two (rb Y)<|rb Y))
theorem Zgv{s:api_Series}{r:Int}(h:JO s=some r):
 CSpec Tryz.prog gl0 113 [.agg [.int .i64 s.Den,.sl 56 (List.map R56 s.Samples)]] (.int .i64 r):=by
 unfold JO at h
 replace h:=Z9 h
 refine So Tryz.func113 Y fun w0 A=>Tr<|Rq Y (Qn (cva<|ov Y) Y tZ_52 Y)<|Ra Y<|Za<|K1 1 Y<|Tr<|Rq Y (ZB (ov Y) ZkL Y Y)<|bE h fun y h_y h=>Rq Y (Zm (Zgu h_y)<|.cons (ov Y) (.aggB Y) .nil)<|Rm Y<|Rq Y (Zx (ov Y) Y)<|Rq Y (Zx (ov Y) Y)<|Ra Y<|Ra Y<|Za<|K1 4 Y<|Tr<|Rm Y<|Ra Y<|Za<|?_
 obtain rfl:=rt h
 exact Zj (ZD Y (.one<|rb Y))
theorem Zd5{l:List api_Track}{r:Int}(h:QZ l=some r):
 CSpec Tryz.prog gl0 75 [.sl 54 (List.map R54 l)] (.int .i64 r):=by
 unfold QZ at h
 replace h:=Z9 h
 refine So Tryz.func75 Y fun w0 A=>Tr<|Ra Y<|Za<|Zt<|K1 0 Y<|Tr<|Rm Y<|Rl tZ_54 Zeq Y<|R2 JC Y<|Za<|K2 0 8 Y<|If h Y (fun h=>?_) fun h=>?_
 ·
  refine K0<|Tr<|Ra Y<|Za<|?_
  obtain rfl:=rt h
  exact Zj (ZD Y (.one<|rb Y))
 ·
  refine Zf<|J0 (fun j=>(.inr j)) ⟨[],[]⟩ h (fun h=>?_) fun h=>?_
  ·
   refine K1 0 Y<|Tr<|Rm Y<|Rl tZ_54 Zeq Y<|Rm Y<|Za<|Zr<|?_
   obtain⟨r1,hl1,ho1⟩:=Zay h
   refine L1 (fun i=>⟨[(0,.sl 54 (List.map R54 l)),(9,.sl 54 (List.map R54 l)),(10,.int .i64 (l.length:Int)),(11,.int .i64 i)],[]⟩) hl1 (ES []) fun n1 i h=>?_
   unfold Qb at h
   refine Tr<|R2 QE Y<|Za<|Zt<|If h Y (fun h=>?_) fun h=>?_
   ·
    refine Zf<|Zt<|Zr<|K4 0 9 10 11 Y<|Tr<|Rm Y<|bE h fun x h_x h=>Rq Y (QX (ov Y) (ov Y) Zeq h_x)<|Rq Y (ZB (ov Y) Zic Y Y)<|Rx Y (Z8 (row:= [_,_,_,_]) 0 Y Zlz Y tZ_54)<|Ra Y<|Rx Y (Zq (ov Y) (ov Y) (ZE Zic Y) Y Y Y (Nat.le_of_ble_eq_true Y) (Zd Y) Y)<|Za<|Zt<|K6 0 3 4 9 10 11 Y<|Tr<|Rq Y (Zb (ov Y) Y Y ZgM)<|Rq Y (Zo (ov Y) Y Y Y tS9 Y)<|bE h fun y h_y h=>Rq Y (Zm (Zgf h_y)<|.cons (ov Y) (.b Y) .nil)<|R1 Xt Y<|Za<|K7 0 3 4 9 10 11 19 Y<|If h Y (fun h=>?_) fun h=>?_
    ·
     refine K0<|Tr<|Ra Y<|Za<|?_
     replace h:=lx h▸ho1
     obtain rfl:=rt h
     exact Zj (ZD Y (.one<|rb Y))
    ·
     refine Zf<|Zt<|K6 0 3 4 9 10 11 Y<|Tr<|Rm Y<|Rm Y<|bE h fun l2 h_l2 h=>Rq Y (Zhg (ov Y) Zeq on (oi<|ov Y) h_l2)<|ZkU (Ent.sel [none] (sd 0 Y Y<|sd 3 Y Y<|sr 4 Y (.frp ⟨Y,⟨_,Y⟩,Y,Y⟩)<|sd 9 Y Y<|sd 10 Y Y<|sd 11 Y Y<|sd 20 Y Y<|sd 21 Y Y<|sd 22 Y Y sn) (.row 54 .nil) Y Y)<|Rq Y (Zbq<|.cons (ov Y) .nil)<|bE h fun y2 h_y2 h=>Rq Y (Zm (JS Y (fun z0 _ hz=>ZdC hz) h_y2)<|.cons (ov Y) (.b Y)<|.cons (ov Y) (.fnC<|.cons (.b Y) .nil) .nil)<|Za<|K6 0 4 9 10 11 24 Y<|If h Y (fun h=>?_) fun h=>?_
     ·
      refine K0<|Tr<|Ra Y<|Za<|?_
      replace h:=lx h▸ho1
      obtain rfl:=rt h
      exact Zj (ZD Y (.one<|rb Y))
     ·
      refine Zf<|Zt<|K5 0 4 9 10 11 Y<|Tr<|Rq Y (Ze (ov Y) ZeU)<|Rq Y (ZB (ov Y) ZkL Y Y)<|bE h fun y3 h_y3 h=>Rq Y (Zm (Zgv h_y3)<|.cons (ov Y) (.aggB Y) .nil)<|Ra Y<|Za<|K6 0 4 5 9 10 11 Y<|Tr<|Rm Y<|R2 Jz Y<|Za<|K7 0 4 5 9 10 11 29 Y<|If h Y (fun h=>?_) fun h=>?_
      ·
       refine K1 5 Y<|Tr<|Rm Y<|Ra Y<|Za<|?_
       replace h:=lx h▸ho1
       obtain rfl:=rt h
       exact Zj (ZD Y (.one<|rb Y))
      ·
       refine Zf<|K5 0 4 9 10 11 Y<|Tr<|Rq Y (Ze (ov Y) Zkd)<|Rq Y (Zc (ov Y) tS3 Y)<|bE h fun y4 h_y4 h=>Rq Y (Zm (ZdL h_y4)<|.cons (ov Y) (.b Y)<|.cons (ov Y) (.b Y)<|.cons (ov Y) (.b Y) .nil)<|R1 Xt Y<|Za<|K5 0 9 10 11 34 Y<|If h Y (fun h=>?_) fun h=>?_
       ·
        refine K0<|Tr<|Ra Y<|Za<|?_
        replace h:=lx h▸ho1
        obtain rfl:=rt h
        exact Zj (ZD Y (.one<|rb Y))
       ·
        exact Zf<|K4 0 9 10 11 Y<|ZH<|R2 Jh Y<|Rm Y<|Za<|⟨_,h,ES []⟩
   ·
    refine Z3<|?_
    replace h:=lx h▸ho1
    exact⟨(),h,ES []⟩
  ·
   replace h:=elr h
   replace h:=t0i h
   refine Tr<|Ra Y<|Za<|?_
   obtain rfl:=rt h
   exact Zj (ZD Y (.one<|rb Y))
theorem ZeB{t:api_Track}{c0:api_Instrument}{r:Bool}(h:XI t c0=some r):
 CSpec Tryz.prog gl0 117 [.agg [.str t.Name,.int .i64 t.Series.Den,.sl 56 (List.map R56 t.Series.Samples),.int .i64 t.Long],.rp [.int .i64 c0.Kind,.str c0.Name,.str c0.Track,.int .i64 c0.Places,.int .i64 c0.Low,.int .i64 c0.High,.int .i64 c0.Steps,.sl 136 (List.map R136 c0.Zones),.int .i64 c0.Op,.int .i64 c0.N,.bool c0.Latch,.int .i64 c0.Size] 0] (.bool r):=by
 unfold XI at h
 replace h:=Z9 h
 refine So Tryz.func117 Y fun w0 A=>Tr<|Rq Y (Qn (cva<|ov Y) Y tZ_54 Y)<|Ra Y<|Za<|K3 1 2 3 Y<|Tr<|Rq Y (Ze (ov Y) ZgM)<|Rq Y (Zc (ov Y) tS9 Y)<|Rq Y (Ze (ov Y) ZiW)<|Rq Y (Zc (ov Y) tS9 Y)<|R2 Qg Y<|Ra Y<|Za<|?_
 obtain rfl:=rt h
 exact Zj (ZD Y (.one<|rb Y))
theorem ZbA{l:List api_Track}{i:api_Instrument}{r:Int}(h:QA l i=some r):
 CSpec Tryz.prog gl0 78 [.sl 54 (List.map R54 l),.agg [.int .i64 i.Kind,.str i.Name,.str i.Track,.int .i64 i.Places,.int .i64 i.Low,.int .i64 i.High,.int .i64 i.Steps,.sl 136 (List.map R136 i.Zones),.int .i64 i.Op,.int .i64 i.N,.bool i.Latch,.int .i64 i.Size]] (.int .i64 r):=by
 unfold QA at h
 replace h:=Z9 h
 refine So Tryz.func78 Y fun w0 A=>Tr<|Rq Y (Qn (cva<|ov Y) Y tZ_49 Y)<|Ra Y<|Za<|K3 0 3 4 Y<|Tr<|Rm Y<|Rq Y (Zbq<|.cons (ov Y) .nil)<|bE h fun y h_y h=>Rq Y (Zm (Xi Y (fun z0 _ hz=>ZeB hz) h_y)<|.cons (ov Y) (.b Y)<|.cons (ov Y) (.fnC<|.cons (.b Y) .nil) .nil)<|Ra Y<|Za<|?_
 obtain rfl:=rt h
 exact Zj (ZD Y (.one<|rb Y))
theorem Zd3{i:api_Instrument}{c0:List api_Track}{r:Bool}(h:Q4 i c0=some r):
 CSpec Tryz.prog gl0 77 [.agg [.int .i64 i.Kind,.str i.Name,.str i.Track,.int .i64 i.Places,.int .i64 i.Low,.int .i64 i.High,.int .i64 i.Steps,.sl 136 (List.map R136 i.Zones),.int .i64 i.Op,.int .i64 i.N,.bool i.Latch,.int .i64 i.Size],.rp [.sl 54 (List.map R54 c0)] 0] (.bool r):=by
 unfold Q4 at h
 replace h:=Z9 h
 refine So Tryz.func77 Y fun w0 A=>Tr<|Rq Y (Qn (cva<|ov Y) Y tZ_49 Y)<|Ra Y<|Za<|K3 1 2 3 Y<|Tr<|Rq Y (Zc (ov Y) Zkp Y)<|Rq Y (ZB (ov Y) Zds Y Y)<|bE h fun y h_y h=>Rq Y (Zm (ZbA h_y)<|.cons (ov Y) (.b Y)<|.cons (ov Y) (.aggB Y) .nil)<|R2 QE Y<|Ra Y<|Za<|?_
 obtain rfl:=rt h
 exact Zj (ZD Y (.one<|rb Y))
theorem ZeZ{p:api_Panel}{l:List api_Track}{r:Int}(h:XC p l=some r):
 CSpec Tryz.prog gl0 36 [.agg [.sl 49 (List.map R49 p.Instruments)],.sl 54 (List.map R54 l)] (.int .i64 r):=by
 unfold XC at h
 replace h:=Z9 h
 refine So Tryz.func36 Y fun w0 A=>Tr<|Rq Y (Qn (cva<|ov Y) Y tZ_24 Y)<|Rq Y (Qn (cvs (ov Y)<|ZX Y) Y tZ_25 Y)<|Ra Y<|Za<|Zt<|K2 2 3 Y<|Tr<|Rq Y (ZB (ov Y) ZeY Y Y)<|bE h fun y h_y h=>Rq Y (Zm (Zhd h_y)<|.cons (ov Y) (.aggB Y) .nil)<|Ra Y<|Za<|K3 2 3 5 Y<|Tr<|Rm Y<|R2 Jz Y<|Za<|K4 2 3 5 10 Y<|If h Y (fun h=>?_) fun h=>?_
 ·
  refine K1 5 Y<|Tr<|Rm Y<|Ra Y<|Za<|?_
  obtain rfl:=rt h
  exact Zj (ZD Y (.one<|rb Y))
 ·
  refine Zf<|Zt<|K2 2 3 Y<|Tr<|Rq Y (Zc (ov Y) Zkp Y)<|bE h fun y2 h_y2 h=>Rq Y (Zm (Zd5 h_y2)<|.cons (ov Y) (.b Y) .nil)<|Ra Y<|Za<|K3 2 3 6 Y<|Tr<|Rm Y<|R2 Jz Y<|Za<|K4 2 3 6 15 Y<|If h Y (fun h=>?_) fun h=>?_
  ·
   refine K1 6 Y<|Tr<|Rm Y<|Ra Y<|Za<|?_
   obtain rfl:=rt h
   exact Zj (ZD Y (.one<|rb Y))
  ·
   refine Zf<|Zt<|K2 2 3 Y<|Tr<|Rq Y (Ze (ov Y) Zba)<|Rq Y (Zc (ov Y) Zfq Y)<|Rq Y (Zbq<|.cons (ov Y) .nil)<|bE h fun y3 h_y3 h=>Rq Y (Zm (Qp Y (fun z0 _ hz=>Zd3 hz) h_y3)<|.cons (ov Y) (.b Y)<|.cons (ov Y) (.fnC<|.cons (.b Y) .nil) .nil)<|Za<|K1 20 Y<|If h Y (fun h=>?_) fun h=>?_
   ·
    refine K0<|Tr<|Ra Y<|Za<|?_
    obtain rfl:=rt h
    exact Zj (ZD Y (.one<|rb Y))
   ·
    refine Zf<|K0<|Tr<|Ra Y<|Za<|?_
    obtain rfl:=rt h
    exact Zj (ZD Y (.one<|rb Y))
theorem Zid{xs r:List api_Instrument}(h:JX xs=some r):
 GSpec Tryz.prog gl0 79 [.sl 49 (List.map R49 xs)] [] (.own 0 r.length) [some ⟨49,List.map R49 r⟩]:=by
 have h2:app [] xs=some r:=h
 refine XJ (by kernel_rfl) Tryz.func79 Y Y<|?_
 intro w0 A W φ0
 refine Tr<|Ra Y<|Za<|Zt<|Zt<|ZH<|Rm Y<|Zdx (ov Y) Zmt Y fun b hb=>?_
 refine Za<|Zd6 Y (fun hb2=>?_) fun hb2=>?_
 ·
  obtain rfl:xs= []:=by simpa using hb hb2
  obtain rfl:r= []:=by simpa [app,apz] using h2.symm
  exact Tr<|Ra Y<|Za<|Zj<|ZcQ [none] Y (.cons (.tmp Y) .nil) (.row 49 .nil) Y Y<|.row Y
 ·
  exact Zf<|Tr<|Rx Y (Xg (r:=0) (xs:= []) (f:=R49) Y Zc1 .nil Y Y Y)<|Rm Y<|Rx Y (ZaZ (ov Y) (ZbE (ov Y) tZ_49) Zc1 Y Y (fun _=>Zd Y) Y h2)<|Ra Y<|Za<|Zj<|ZcQ [some 0] Y (.cons (.tmp Y) .nil) (.cons Y (roM D49) .nil) Y Y<|.own _ Y
theorem ZiJ{xs r:List api_Zone}(h:JX xs=some r):
 CSpec Tryz.prog gl0 80 [.sl 136 (List.map R136 xs)] (.sl 136 (List.map R136 r)):=by
 have h2:app [] xs=some r:=h
 refine So Tryz.func80 Y fun w0 A=>Tr<|Ra Y<|Za<|Zt<|Zt<|ZH<|Rm Y<|Zdx (ov Y) Zmq Y fun b hb=>?_
 refine Za<|Zd6 Y (fun hb2=>?_) fun hb2=>?_
 ·
  obtain rfl:xs= []:=by simpa using hb hb2
  obtain rfl:r= []:=by simpa [app,apz] using h2.symm
  refine Tr<|Ra Y<|Za<|Zj<|ZD Y<|.one<|.tmp Y<|View.nils _
 ·
  refine Zf<|Tr<|Rx Y (Xg (r:=0) (xs:= []) (f:=R136) Y Zh0 .nil Y Y Y)<|Rm Y<|Rx Y (ZaZ (ov Y) (ZbE (ov Y) tZ_136) Zh0 Y Y (fun _=>Zd Y) Y h2)<|Ra Y<|Za<|Zj<|ZD Y<|.one<|.tmp Y<|View.ownM Y Y D136
theorem Zfa{p:api_Panel}{r:api_Panel}(h:Q9 p=some r):
 CSpec Tryz.prog gl0 38 [.agg [.sl 49 (List.map R49 p.Instruments)]] (.agg [.sl 49 (List.map R49 r.Instruments)]):=by
 unfold Q9 at h
 replace h:=Z9 h
 refine So Tryz.func38 Y fun w0 A=>Tr<|Rq Y (Qn (cva<|ov Y) Y tZ_24 Y)<|Rx Y (Z8 (row:= [_]) 0 Y Zke Y tZ_24)<|Za<|K2 1 2 Y<|Tr<|Rq Y (Ze (ov Y) Zba)<|Rq Y (Zc (ov Y) Zfq Y)<|bE h fun y h_y h=>Rx Y (Q0 [] (Zid h_y) (.cons (ov Y) (.dat Y) .nil) .nil Y (.keep Y Y<|.lent 0 (.inr ⟨Nat.le_of_ble_eq_true Y,Y⟩) Y (roM D49) .nil) Y Y<|.own _<|.inr ⟨Nat.le_of_ble_eq_true Y,Y⟩)<|Rq Y (ZaC (ys:= [_]) Zl6 Zl3 Zke (.cons (cvs (ov Y)<|ZX Y) .nil) Y)<|Rx Y (Z8 (row:= [_]) 2 Y Zke Y tZ_24)<|Rx Y (Zq (ov Y) (ov Y) (ZE ZeY Y) Y Y Y (Nat.le_of_ble_eq_true Y) (Zd Y) Y)<|Za<|I1 (fun Instruments=>⟨[(2,.ptr 0 1 0 0),(3,.ptr 1 1 0 0)],[some ⟨24,[[.nils]]⟩,some ⟨24,[[.own 2 Instruments.length]]⟩,some ⟨49,List.map R49 Instruments⟩]⟩) h (fun h=>?_) fun Instruments h=>?_
 ·
  refine K2 2 3 Y<|Tr<|Rq Y (Zb (ov Y) Y Y Zba)<|Rq Y (Zo (ov Y) Y Y Y Zfq Y)<|Rq Y (Zef (ov Y) Y Y Zc1)<|Rm Y<|Za<|Zr<|?_
  obtain⟨r1,hl1,ho1⟩:=Zay h
  refine L2 (fun Instruments2 i=>⟨[(2,.ptr 0 1 0 0),(3,.ptr 1 1 0 0),(11,.int .i64 (y.length:Int)),(12,.int .i64 i)],[some ⟨24,[[.nils]]⟩,some ⟨24,[[.own 2 Instruments2.length]]⟩,some ⟨49,List.map R49 Instruments2⟩]⟩) hl1 (ES [some 0,some 2,some 1]) fun n1 Instruments2 i h=>?_
  unfold Qv at h
  refine Tr<|R2 QE Y<|Za<|Zt<|If h Y (fun h=>?_) fun h=>?_
  ·
   exact Zf<|Zt<|Zr<|K4 2 3 11 12 Y<|Tr<|Rm Y<|Ra Y<|Za<|K5 2 3 4 11 12 Y<|Zc6 (cw:=md0) (by kernel_rfl)<|Dq 0 Y (Zb (ov Y) Y Y Zba)<|Dq 1 Y (Zo (ov Y) Y Y Y Zfq Y)<|D1 2 Zg Y<|Dq 3 Y (Zb (ov Y) Y Y Zba)<|Dq 4 Y (Zo (ov Y) Y Y Y Zfq Y)<|D1 5 Zg Y<|bE h fun x h_x h=>Dq 6 Y (Zdv (ov Y) (ov Y) Zc1 Y Y h_x)<|Dq 7 Y (J2 (ov Y) Y Y ZeL)<|Dq 8 Y (Zd0 (ov Y) Y Y h_x ZiU Y)<|bE h fun y2 h_y2 h=>Dq 9 Y (Zm (ZiJ h_y2)<|.cons (ov Y) (.b Y) .nil)<|bE h fun x2 h_x2 h=>Dq 10 Y (Zdv (ov Y) (ov Y) Zc1 Y Y h_x2)<|Dq 11 Y (J2 (ov Y) Y Y ZeL)<|Do 12 Y (Zd8 (u':=(api_Instrument.mk x2.Kind x2.Name x2.Track x2.Places x2.Low x2.High x2.Steps y2 x2.Op x2.N x2.Latch x2.Size)) (ov Y) (ov Y) (Zv ZiU) Y Y h_x2 Y (Zd Y) Y)<|Dd<|K4 2 3 11 12 Y<|ZH<|R2 Jh Y<|Rm Y<|Za<|⟨_,h,ES [some 0,some 1,some 2] (hhp:= .cons Y (ro1 (by exact tZ_24.symm)<|rld Y)<|.cons Y (ro1 (by exact tZ_24.symm)<|rlc (ZkD (Eq.symm<|(List.length_set ..).trans Y) Y) rln)<|.cons Y (roM D49) .nil)⟩
  ·
   refine Z3<|?_
   replace h:=lx h▸ho1
   exact⟨_,h,ES [some 0,some 1,some 2]⟩
 ·
  refine Tr<|Rq Y (Qk (ov Y) Y Y Y ZeY Y Y)<|Rx Y (Zq (ov Y) (ov Y) (ZE ZeY Y) Y Y Y (Nat.le_of_ble_eq_true Y) (Zd Y) Y)<|Za<|?_
  obtain rfl:=rt h
  exact Zj (ZD Y (.one<|.agg Y Y Y Y ZeY Y Y<|.cons (View.ownM Y Y D49) .nil))
theorem ZhV{xs r:List api_Track}(h:JX xs=some r):
 GSpec Tryz.prog gl0 81 [.sl 54 (List.map R54 xs)] [] (.own 0 r.length) [some ⟨54,List.map R54 r⟩]:=by
 have h2:app [] xs=some r:=h
 refine XJ (by kernel_rfl) Tryz.func81 Y Y<|?_
 intro w0 A W φ0
 refine Tr<|Ra Y<|Za<|Zt<|Zt<|ZH<|Rm Y<|Zdx (ov Y) ZmC Y fun b hb=>?_
 refine Za<|Zd6 Y (fun hb2=>?_) fun hb2=>?_
 ·
  obtain rfl:xs= []:=by simpa using hb hb2
  obtain rfl:r= []:=by simpa [app,apz] using h2.symm
  exact Tr<|Ra Y<|Za<|Zj<|ZcQ [none] Y (.cons (.tmp Y) .nil) (.row 54 .nil) Y Y<|.row Y
 ·
  exact Zf<|Tr<|Rx Y (Xg (r:=0) (xs:= []) (f:=R54) Y Zeq .nil Y Y Y)<|Rm Y<|Rx Y (ZaZ (ov Y) (ZbE (ov Y) tZ_54) Zeq Y Y (fun _=>Zd Y) Y h2)<|Ra Y<|Za<|Zj<|ZcQ [some 0] Y (.cons (.tmp Y) .nil) (.cons Y (roM D54) .nil) Y Y<|.own _ Y
theorem Zi4{xs r:List api_Sample}(h:JX xs=some r):
 CSpec Tryz.prog gl0 82 [.sl 56 (List.map R56 xs)] (.sl 56 (List.map R56 r)):=by
 have h2:app [] xs=some r:=h
 refine So Tryz.func82 Y fun w0 A=>Tr<|Ra Y<|Za<|Zt<|Zt<|ZH<|Rm Y<|Zdx (ov Y) Zmj Y fun b hb=>?_
 refine Za<|Zd6 Y (fun hb2=>?_) fun hb2=>?_
 ·
  obtain rfl:xs= []:=by simpa using hb hb2
  obtain rfl:r= []:=by simpa [app,apz] using h2.symm
  refine Tr<|Ra Y<|Za<|Zj<|ZD Y<|.one<|.tmp Y<|View.nils _
 ·
  refine Zf<|Tr<|Rx Y (Xg (r:=0) (xs:= []) (f:=R56) Y ZeH .nil Y Y Y)<|Rm Y<|Rx Y (ZaZ (ov Y) (ZbE (ov Y) tZ_56) ZeH Y Y (fun _=>Zd Y) Y h2)<|Ra Y<|Za<|Zj<|ZD Y<|.one<|.tmp Y<|View.ownM Y Y D56
theorem Zeo{l:List api_Track}{r:(List api_Track)}(h:QN l=some r):
 CSpec Tryz.prog gl0 39 [.sl 54 (List.map R54 l)] (.sl 54 (List.map R54 r)):=by
 unfold QN at h
 replace h:=Z9 h
 refine So Tryz.func39 Y fun w0 A=>Tr<|Ra Y<|Za<|K1 0 Y<|Tr<|Rm Y<|bE h fun y h_y h=>Rx Y (Q0 [] (ZhV h_y) (.cons (ov Y) (.dat Y) .nil) .nil Y (.lent 0 (.inr ⟨Nat.le_of_ble_eq_true Y,Y⟩) Y (roM D54) .nil) Y Y<|.own _<|.inr ⟨Nat.le_of_ble_eq_true Y,Y⟩)<|Ra Y<|Za<|I1 (fun out=>⟨[(3,.own 0 out.length)],[some ⟨54,List.map R54 out⟩]⟩) h (fun h=>?_) fun out h=>?_
 ·
  refine K1 3 Y<|Tr<|Rm Y<|Rq Y (Zef (ov Y) Y Y Zeq)<|Rm Y<|Za<|Zr<|?_
  obtain⟨r1,hl1,ho1⟩:=Zay h
  refine L2 (fun out2 i=>⟨[(3,.own 0 out2.length),(8,.int .i64 (y.length:Int)),(9,.int .i64 i)],[some ⟨54,List.map R54 out2⟩]⟩) hl1 (ES [some 0]) fun n1 out2 i h=>?_
  unfold Ql at h
  refine Tr<|R2 QE Y<|Za<|Zt<|If h Y (fun h=>?_) fun h=>?_
  ·
   exact Zf<|Zt<|Zr<|K3 3 8 9 Y<|Tr<|Rm Y<|Ra Y<|Za<|K4 3 4 8 9 Y<|ZH<|Rm Y<|Rm Y<|Rm Y<|Rm Y<|bE h fun x h_x h=>Rq Y (Zdv (ov Y) (ov Y) Zeq Y Y h_x)<|Rq Y (J2 (ov Y) Y Y ZeU)<|Rq Y (J2 (ov Y) Y Y ZcU)<|Rq Y (Zd0 (ov Y) Y Y h_x Zho Y)<|bE h fun y2 h_y2 h=>Rq Y (Zm (Zi4 h_y2)<|.cons (ov Y) (.b Y) .nil)<|bE h fun x2 h_x2 h=>Rq Y (Zdv (ov Y) (ov Y) Zeq Y Y h_x2)<|Rq Y (J2 (ov Y) Y Y ZeU)<|Rq Y (J2 (ov Y) Y Y ZcU)<|Rx Y (Zd8 (u':=(api_Track.mk x2.Name (api_Series.mk x2.Series.Den y2) x2.Long)) (ov Y) (ov Y) (Zv Zho) Y Y h_x2 Y (Zd Y) Y)<|Za<|K3 3 8 9 Y<|ZH<|R2 Jh Y<|Rm Y<|Za<|⟨_,h,ES [some 0]<|sr 3 Y (ZkD (Eq.symm<|(List.length_set ..).trans Y) Y)<|sd 8 Y Y<|sd 9 Y Y sn⟩
  ·
   refine Z3<|?_
   replace h:=lx h▸ho1
   exact⟨_,h,ES [some 0]⟩
 ·
  refine Tr<|Rm Y<|Ra Y<|Za<|?_
  obtain rfl:=rt h
  exact Zj (ZD Y (.one<|.tmp Y<|View.ownM Y Y D54))
theorem Zg0{p:api_Panel}{r:api_PanelState}(h:Xa p=some r):
 CSpec Tryz.prog gl0 40 [.agg [.sl 49 (List.map R49 p.Instruments)]] (.agg [.int .i64 r.Frame,.sl 99 (List.map R99 r.Memos)]):=by
 unfold Xa at h
 replace h:=Z9 h
 refine So Tryz.func40 Y fun w0 A=>Tr<|Rq Y (Qn (cva<|ov Y) Y tZ_24 Y)<|Rx Y (Z8 (row:= [_,_]) 0 Y Zhw Y tZ_44)<|Za<|K2 1 2 Y<|Tr<|Rq Y (Ze (ov Y) Zba)<|Rq Y (Zc (ov Y) Zfq Y)<|Rl tZ_49 Zc1 Y<|bE h fun l h_l h=>Rx Y (ZjJ [none,none,none,none,some 3] (r:=1) (f:=R99) (z0:=(api_Memo.mk false false 0 0 [])) Y (ov Y) (ov Y) Zfm Y Zk7 Y Y h_l)<|Rq Y (ZaC (ys:= [_,_]) ZkY Zk3 Zhw (.cons (cvs (ov Y)<|ZX Y)<|.cons (cvs (ov Y)<|ZX Y) .nil) Y)<|Rx Y (Zq (ov Y) (ov Y) (ZE ZaO Y) Y Y Y (Nat.le_of_ble_eq_true Y) (Zd Y) Y)<|Za<|?_
 obtain rfl:=rt h
 exact Zj (ZD Y (.one<|.agg Y Y Y Y ZaO Y Y<|.cons (Dat.view<|.b Y)<|.cons (View.ownM Y Y D99) .nil))
theorem ZdT{p:api_Panel}{l:List api_Track}{keep:Int}{r:(Int) ⊕ (panel_Replay×Int)}(h:J4 p l keep=some r):
 GSpec Tryz.prog gl0 8 [.agg [.sl 49 (List.map R49 p.Instruments)],.sl 54 (List.map R54 l),.int .i64 keep] [] (Sum.elim (fun r=> .tuple [.lit (.pointer none),.int .i64 r]) (fun r=> .tuple [.ptr 0 1 0 0,.int .i64 r.2]) r) (Sum.elim (fun r=> []) (fun r=> [some ⟨91,[[.sl 49 (List.map R49 r.1.p.Instruments),.sl 54 (List.map R54 r.1.l),.int .i64 r.1.keep,.int .i64 r.1.state.Frame,.sl 99 (List.map R99 r.1.state.Memos),.own 1 r.1.kept.length,.own 2 r.1.marks.length]]⟩,some ⟨44,List.map R44 r.1.kept⟩,some ⟨120,List.map R120 r.1.marks⟩]) r):=by
 unfold J4 at h
 replace h:=Z9 h
 refine XJ (by kernel_rfl) Tryz.func8 Y Y<|?_
 intro w0 A W φ0
 refine Tr<|Rq Y (Qn (cva<|ov Y) Y tZ_24 Y)<|Ra Y<|Ra Y<|Za<|Zt<|K3 1 2 3 Y<|Tr<|Rq Y (ZB (ov Y) ZeY Y Y)<|Rm Y<|bE h fun y h_y h=>Rq Y (Zm (ZeZ h_y)<|.cons (ov Y) (.aggB Y)<|.cons (ov Y) (.b Y) .nil)<|Ra Y<|Za<|K4 1 2 3 8 Y<|Tr<|Rm Y<|R2 Jz Y<|Za<|K5 1 2 3 8 13 Y<|If h Y (fun h=>?_) fun h=>?_
 ·
  refine K1 8 Y<|Tr<|Rm Y<|Ra Y<|Ra Y<|Za<|?_
  obtain rfl:=rt h
  exact Zj<|ZcQ [] Y (.cons (.tmp Y)<|.cons (.tmp Y) .nil) .nil Y Y<|Zb4<|rlc (.dat Y)<|rlc (.dat Y) rln
 ·
  refine Zf<|Zt<|K3 1 2 3 Y<|Tr<|Rm Y<|bE h fun y2 h_y2 h=>Rq Y (Zm (Qj h_y2)<|.cons (ov Y) (.b Y)<|.cons (ov Y) (.b Y)<|.cons (ov Y) (.b Y) .nil)<|R1 Xt Y<|Za<|K4 1 2 3 17 Y<|If h Y (fun h=>?_) fun h=>?_
  ·
   refine K0<|Tr<|Ra Y<|Ra Y<|Za<|?_
   obtain rfl:=rt h
   exact Zj<|ZcQ [] Y (.cons (.tmp Y)<|.cons (.tmp Y) .nil) .nil Y Y<|Zb4<|rlc (.dat Y)<|rlc (.dat Y) rln
  ·
   refine Zf<|K3 1 2 3 Y<|Td md0<|Dq 0 Y (ZB (ov Y) ZeY Y Y)<|bE h fun y3 h_y3 h=>Dq 1 Y (Zm (Zfa h_y3)<|.cons (ov Y) (.aggB Y) .nil)<|D1 2 Zg Y<|bE h fun y4 h_y4 h=>Dq 3 Y (Zm (Zeo h_y4)<|.cons (ov Y) (.b Y) .nil)<|D1 4 Zg Y<|Dq 5 Y (ZB (ov Y) ZeY Y Y)<|bE h fun y5 h_y5 h=>Dq 6 Y (Zm (Zg0 h_y5)<|.cons (ov Y) (.aggB Y) .nil)<|Dq 7 Y (ZaC (ys:= [_,_,_,_,_,_,_]) Zni ZmW Znp (.cons (cva<|ov Y)<|.cons (cvs (ov Y)<|ZX Y)<|.cons (cvs (ov Y)<|ZX Y)<|.cons (cva<|ov Y) .nil) Y)<|Zki 8 _ _ Y (by kernel_rfl) Y Y (fun _=>Ext.app) (fun h=>by cases h) (Zjn 0 Y (ov Y) Znj Y)<|D1 9 Zaw Y<|D1 10 Zaw Y<|Dd<|?_
   obtain rfl:=rt h
   exact Zj<|ZcQ [some 0,none,none] Y (.cons (.tmp Y)<|.cons (.tmp Y) .nil) (.cons Y (ro1 (by exact tZ_91.symm)<|rlc (.dat Y)<|rlc (.dat Y)<|rlc (.dat Y)<|rlc (.dat Y)<|rlc (.dat Y)<|rlc (.row Y)<|rlc (.row Y) rln)<|.row 44<|.row 120 .nil) Y Y<|Zb4<|rlc (.ptr _ _ _ Y)<|rlc (.dat Y) rln
theorem Zcu{p:api_Panel}{l:List api_Track}{keep:Int}{r:Int}(h:J4 p l keep=some (.inl r)):
    GSpec Tryz.prog gl0 8 [.agg [.sl 49 (List.map R49 p.Instruments)],.sl 54 (List.map R54 l),.int .i64 keep] [] (.tuple [.lit (.pointer none),.int .i64 r]) []:=ZdT h
theorem Zcs{p:api_Panel}{l:List api_Track}{keep:Int}{r:panel_Replay×Int}(h:J4 p l keep=some (.inr r)):
    GSpec Tryz.prog gl0 8 [.agg [.sl 49 (List.map R49 p.Instruments)],.sl 54 (List.map R54 l),.int .i64 keep] [] (.tuple [.ptr 0 1 0 0,.int .i64 r.2]) [some ⟨91,[[.sl 49 (List.map R49 r.1.p.Instruments),.sl 54 (List.map R54 r.1.l),.int .i64 r.1.keep,.int .i64 r.1.state.Frame,.sl 99 (List.map R99 r.1.state.Memos),.own 1 r.1.kept.length,.own 2 r.1.marks.length]]⟩,some ⟨44,List.map R44 r.1.kept⟩,some ⟨120,List.map R120 r.1.marks⟩]:=ZdT h
theorem XO{x:List api_Sample}{target:Int}{cmp:api_Sample→Int→Option Int}{r:Int×Bool}{cmp_f:FuncId}{cmp_c:List AV}(cmp_d:cmp_c.all datB=true)(cmp_h: ∀ (z0:api_Sample) (z1:Int) z,cmp z0 z1=some z→CSpec Tryz.prog gl0 cmp_f ([.agg [.int .i64 z0.At,.int .i64 z0.N,.int .i64 z0.Mark],.int .i64 z1]++cmp_c) (.int .i64 z))(h:Zu x target cmp=some r):
 CSpec Tryz.prog gl0 184 [.sl 56 (List.map R56 x),.int .i64 target,.fn cmp_f cmp_c] (.tuple [.int .i64 r.1,.bool r.2]):=by
 unfold Zu at h
 replace h:=Z9 h
 refine So Tryz.func184 Y fun w0 A=>Tr<|Ra Y<|Ra Y<|Za<|K3 0 1 2 Y<|Tr<|Rm Y<|Rl tZ_56 ZeH Y<|Ra Y<|Za<|K4 0 1 2 8 Y<|Tr<|Rm Y<|Ra Y<|Ra Y<|Za<|I1 (fun i=>⟨[(0,.sl 56 (List.map R56 x)),(1,.int .i64 target),(2,.fn cmp_f cmp_c),(8,.int .i64 (x.length:Int)),(9,.int .i64 i)],[]⟩) h (fun h=>?_) fun i h=>?_
 ·
  refine Zr<|?_
  obtain⟨r1,hl1,ho1⟩:=Zay h
  refine L2 (fun i2 j=>⟨[(0,.sl 56 (List.map R56 x)),(1,.int .i64 target),(2,.fn cmp_f cmp_c),(8,.int .i64 (x.length:Int)),(9,.int .i64 i2),(10,.int .i64 j)],[]⟩) hl1 (ES []<|sd 0 Y Y<|sd 1 Y Y<|sr 2 Y (rFn<|rld cmp_d)<|sd 8 Y Y<|sd 9 Y Y<|sd 10 Y Y sn) fun n1 i2 j h=>?_
  unfold Zp at h
  refine Zt<|Tr<|Rm Y<|Rm Y<|R2 QE Y<|Za<|K7 0 1 2 8 9 10 17 Y<|If h Y (fun h=>?_) fun h=>?_
  ·
   refine Zf<|Zr<|K6 0 1 2 8 9 10 Y<|Tr<|Rm Y<|Rm Y<|R2 Jh Y<|Rq Y (ZeQ (ov Y) tI3 ZjK Y)<|bE h fun q h_q h=>Rq Y (Zkn (ov Y) (ov Y) h_q)<|Rq Y (ZeQ (ov Y) ZjK tI3 Y)<|Ra Y<|Za<|K7 0 1 2 8 9 10 11 Y<|Tr<|Rm Y<|Rm Y<|Rm Y<|bE h fun x2 h_x2 h=>Rq Y (QX (ov Y) (ov Y) ZeH h_x2)<|Rq Y (ZB (ov Y) ZdA Y Y)<|Rm Y<|bE h fun y h_y h=>Rq Y (Zbi (ov Y) cmp_d (cmp_h _ _ _ h_y)<|.cons (ov Y) (.aggB Y)<|.cons (ov Y) (.b Y) .nil)<|R2 QE Y<|Za<|K8 0 1 2 8 9 10 11 31 Y<|If h Y (fun h=>?_) fun h=>?_
   ·
    exact K7 0 1 2 8 9 10 11 Y<|ZH<|Rm Y<|R2 Jh Y<|Ra Y<|Za<|⟨_,h,ES []<|sd 0 Y Y<|sd 1 Y Y<|sr 2 Y (rFn<|rld cmp_d)<|sd 8 Y Y<|sd 9 Y Y<|sd 10 Y Y sn⟩
   ·
    exact K7 0 1 2 8 9 10 11 Y<|ZH<|Rm Y<|Ra Y<|Za<|⟨_,h,ES []<|sd 0 Y Y<|sd 1 Y Y<|sr 2 Y (rFn<|rld cmp_d)<|sd 8 Y Y<|sd 9 Y Y<|sd 10 Y Y sn⟩
  ·
   refine Z3<|?_
   replace h:=lx h▸ho1
   exact⟨_,h,ES []<|sd 0 Y Y<|sd 1 Y Y<|sr 2 Y (rFn<|rld cmp_d)<|sd 8 Y Y<|sd 9 Y Y sn⟩
 ·
  refine Tr<|Rm Y<|Rm Y<|Rm Y<|R2 QE Y<|Rm Y<|Rq Y (.guarded ((decide (i<(x.length:Int)))==true) Y Y Y Y fun h=>Zg<|ov Y)<|Rq Y (.guarded ((decide (i<(x.length:Int)))==true) Y Y Y Y fun h=>Zg<|ov Y)<|Rq Y (.guarded ((decide (i<(x.length:Int)))==true) Y Y Y Y fun h=>Zg<|ov Y)<|bE h fun x3 h_x3 h=>Rq Y (.guarded ((decide (i<(x.length:Int)))==true) Y Y Y Y fun h=>QX (ow Y h) (ow Y h) ZeH<|gdT h_x3 h)<|Rq Y (.guarded ((decide (i<(x.length:Int)))==true) Y Y Y Y fun h=>ZB (ow Y h) ZdA Y Y)<|Rq Y (.guarded ((decide (i<(x.length:Int)))==true) Y Y Y Y fun h=>Zg<|ov Y)<|bE h fun y2 h_y2 h=>Rq Y (.guarded ((decide (i<(x.length:Int)))==true) Y Y Y Y fun h=>Zbi (ow Y h) cmp_d (cmp_h _ _ _<|gdT h_y2 h)<|.cons (ow Y h) (.aggB Y)<|.cons (ow Y h) (.b Y) .nil)<|Rq Y (.guarded ((decide (i<(x.length:Int)))==true) Y Y Y Y fun h=>Xs (ow Y h)<|ov Y)<|Rq Y (XT (ov Y) fun hp=>ow Y<|gT hp)<|Ra Y<|Ra Y<|Za<|?_
  obtain rfl:=rt h
  exact Zj (ZD Y (.two (rb Y)<|rb Y))
theorem ZeW{x:api_Sample}{at_:Int}{r:Int}(h:QG x at_=some r):
 CSpec Tryz.prog gl0 185 [.agg [.int .i64 x.At,.int .i64 x.N,.int .i64 x.Mark],.int .i64 at_] (.int .i64 r):=by
 unfold QG at h
 replace h:=Z9 h
 refine So Tryz.func185 Y fun w0 A=>Tr<|Rq Y (Qn (cva<|ov Y) Y tZ_56 Y)<|Ra Y<|Za<|K3 1 2 4 Y<|Tr<|Rq Y (Ze (ov Y) ZfH)<|Rq Y (Zc (ov Y) tS3 Y)<|Rm Y<|R2 Zda Y<|Ra Y<|Za<|?_
 obtain rfl:=rt h
 exact Zj (ZD Y (.one<|rb Y))
theorem ZfN{s:api_Series}{at_:Int}{r:Int}(h:Jm s at_=some r):
 CSpec Tryz.prog gl0 166 [.agg [.int .i64 s.Den,.sl 56 (List.map R56 s.Samples)],.int .i64 at_] (.int .i64 r):=by
 unfold Jm at h
 replace h:=Z9 h
 refine So Tryz.func166 Y fun w0 A=>Tr<|Rq Y (Qn (cva<|ov Y) Y tZ_52 Y)<|Ra Y<|Za<|K2 1 2 Y<|Tr<|Rq Y (Ze (ov Y) ZcU)<|Rq Y (Zc (ov Y) Zho Y)<|Rm Y<|bE h fun y h_y h=>Rq Y (Zm (XO Y (fun z0 z1 _ hz=>ZeW hz) h_y)<|.cons (ov Y) (.b Y)<|.cons (ov Y) (.b Y)<|.cons (ov Y) .fn .nil)<|Rm Y<|Rq Y (Zx (ov Y) Y)<|Rq Y (Zx (ov Y) Y)<|Ra Y<|Ra Y<|Za<|Zt<|K2 5 6 Y<|Tr<|Rm Y<|Za<|K2 5 14 Y<|If h Y (fun h=>?_) fun h=>?_
 ·
  refine K1 5 Y<|Tr<|Rm Y<|Ra Y<|Za<|?_
  obtain rfl:=rt h
  exact Zj (ZD Y (.one<|rb Y))
 ·
  refine Zf<|K1 5 Y<|Tr<|Rm Y<|R2 Zda Y<|Ra Y<|Za<|?_
  obtain rfl:=rt h
  exact Zj (ZD Y (.one<|rb Y))
theorem Zgp{x:api_Sample}{r:Bool}(h:Zaz x=some r):
 CSpec Tryz.prog gl0 167 [.agg [.int .i64 x.At,.int .i64 x.N,.int .i64 x.Mark]] (.bool r):=by
 unfold Zaz at h
 replace h:=Z9 h
 refine So Tryz.func167 Y fun w0 A=>Tr<|Rq Y (Qn (cva<|ov Y) Y tZ_56 Y)<|Ra Y<|Za<|K2 1 2 Y<|Tr<|Rq Y (Ze (ov Y) ZgI)<|Rq Y (Zc (ov Y) tS3 Y)<|R2 ZbN Y<|Ra Y<|Za<|?_
 obtain rfl:=rt h
 exact Zj (ZD Y (.one<|rb Y))
theorem Zhh{s:api_Series}{at_:Int}{long:Int}{r:api_Sample×Bool}(h:Zah s at_ long=some r):
 CSpec Tryz.prog gl0 152 [.agg [.int .i64 s.Den,.sl 56 (List.map R56 s.Samples)],.int .i64 at_,.int .i64 long] (.tuple [.agg [.int .i64 r.1.At,.int .i64 r.1.N,.int .i64 r.1.Mark],.bool r.2]):=by
 unfold Zah at h
 replace h:=Z9 h
 refine So Tryz.func152 Y fun w0 A=>Tr<|Rq Y (Qn (cva<|ov Y) Y tZ_52 Y)<|Rx Y (Z8 (row:= [_,_,_]) 0 Y Zio Y tZ_56)<|Ra Y<|Za<|K4 1 2 3 6 Y<|Tr<|Rq Y (ZB (ov Y) ZkL Y Y)<|Rm Y<|bE h fun y h_y h=>Rq Y (Zm (ZfN h_y)<|.cons (ov Y) (.aggB Y)<|.cons (ov Y) (.b Y) .nil)<|Ra Y<|Za<|Zt<|K5 1 2 3 6 8 Y<|Tr<|Rm Y<|R2 QE Y<|Rm Y<|Rq Y (.guarded ((decide (y<0))==false) Y Y Y Y fun h=>Ze (ov Y) ZcU)<|Rq Y (.guarded ((decide (y<0))==false) Y Y Y Y fun h=>Zc (ow Y h) Zho Y)<|Rq Y (.guarded ((decide (y<0))==false) Y Y Y Y fun h=>Zg<|ov Y)<|bE h fun x h_x h=>Rq Y (.guarded ((decide (y<0))==false) Y Y Y Y fun h=>QX (ow Y h) (ow Y h) ZeH<|gdT h_x h)<|Rq Y (.guarded ((decide (y<0))==false) Y Y Y Y fun h=>ZB (ow Y h) ZdA Y Y)<|bE h fun y2 h_y2 h=>Rq Y (.guarded ((decide (y<0))==false) Y Y Y Y fun h=>Zm (Zgp<|gdT h_y2 h)<|.cons (ow Y h) (.aggB Y) .nil)<|Rq Y (.guarded ((decide (y<0))==false) Y Y Y Y fun h=>Xt<|ow Y h)<|Rq Y (Zab (ov Y) fun hp=>ow Y<|gF hp)<|Rm Y<|Rq Y (.guarded (((decide (y<0)) || (!y2))==false) Y Y Y Y fun h=>Zg<|ov Y)<|Rq Y (.guarded (((decide (y<0)) || (!y2))==false) Y Y Y Y fun h=>Ze (ov Y) ZcU)<|Rq Y (.guarded (((decide (y<0)) || (!y2))==false) Y Y Y Y fun h=>Zc (ow Y h) Zho Y)<|Rq Y (.guarded (((decide (y<0)) || (!y2))==false) Y Y Y Y fun h=>Zg<|ov Y)<|bE h fun x2 h_x2 h=>Rq Y (.guarded (((decide (y<0)) || (!y2))==false) Y Y Y Y fun h=>QX (ow Y h) (ow Y h) ZeH<|gdT h_x2 h)<|Rq Y (.guarded (((decide (y<0)) || (!y2))==false) Y Y Y Y fun h=>Ze (ow Y h) ZfH)<|Rq Y (.guarded (((decide (y<0)) || (!y2))==false) Y Y Y Y fun h=>Zc (ow Y h) tS3 Y)<|Rq Y (.guarded (((decide (y<0)) || (!y2))==false) Y Y Y Y fun h=>ZhF (ow Y h) (ow Y h) Y)<|Rq Y (.guarded (((decide (y<0)) || (!y2))==false) Y Y Y Y fun h=>Zg<|ov Y)<|Rq Y (.guarded (((decide (y<0)) || (!y2))==false) Y Y Y Y fun h=>JC (ow Y h)<|ow Y h)<|Rq Y (Zab (ov Y) fun hp=>ow Y<|gF hp)<|Za<|K4 3 6 8 34 Y<|If h Y (fun h=>?_) fun h=>?_
 ·
  refine K1 6 Y<|Tr<|Rq Y (ZaC (ys:= [_,_,_]) Zl0 Zl5 Zio .nil Y)<|Rx Y (Zq (ov Y) (ov Y) (ZE ZdA Y) Y Y Y (Nat.le_of_ble_eq_true Y) (Zd Y) Y)<|Ra Y<|Za<|?_
  obtain rfl:=rt h
  exact Zj (ZD Y (.two (.agg Y Y Y Y ZdA Y Y<|pwB Y)<|rb Y))
 ·
  refine Zf<|K3 3 6 8 Y<|Tr<|Rq Y (Ze (ov Y) ZcU)<|Rq Y (Zc (ov Y) Zho Y)<|Rm Y<|bE h fun x3 h_x3 h=>Rq Y (QX (ov Y) (ov Y) ZeH h_x3)<|Rq Y (ZB (ov Y) ZdA Y Y)<|Rx Y (Zq (ov Y) (ov Y) (ZE ZdA Y) Y Y Y (Nat.le_of_ble_eq_true Y) (Zd Y) Y)<|Ra Y<|Za<|?_
  obtain rfl:=rt h
  exact Zj (ZD Y (.two (.agg Y Y Y Y ZdA Y Y<|pwB Y)<|rb Y))
theorem Zg4{s:api_Series}{at_:Int}{long:Int}{r:api_Sample×Bool}(h:ZaY s at_ long=some r):
 CSpec Tryz.prog gl0 120 [.agg [.int .i64 s.Den,.sl 56 (List.map R56 s.Samples)],.int .i64 at_,.int .i64 long] (.tuple [.agg [.int .i64 r.1.At,.int .i64 r.1.N,.int .i64 r.1.Mark],.bool r.2]):=by
 unfold ZaY at h
 replace h:=Z9 h
 refine So Tryz.func120 Y fun w0 A=>Tr<|Rq Y (Qn (cva<|ov Y) Y tZ_52 Y)<|Rx Y (Z8 (row:= [_,_,_]) 0 Y Zio Y tZ_56)<|Ra Y<|Za<|K5 1 2 3 6 7 Y<|Tr<|Rq Y (ZB (ov Y) ZkL Y Y)<|Rm Y<|Rm Y<|bE h fun y h_y h=>Rq Y (Zm (Zhh h_y)<|.cons (ov Y) (.aggB Y)<|.cons (ov Y) (.b Y)<|.cons (ov Y) (.b Y) .nil)<|Rq Y (Zx (ov Y) Y)<|Rq Y (Zx (ov Y) Y)<|Rx Y (Zq (ov Y) (ov Y) (ZE ZdA Y) Y Y Y (Nat.le_of_ble_eq_true Y) (Zd Y) Y)<|Ra Y<|Za<|?_
 obtain rfl:=rt h
 exact Zj (ZD Y (.two (.agg Y Y Y Y ZdA Y Y<|pwB Y)<|rb Y))
theorem Zd4{t:api_Track}{frame:Int}{r:api_Sample×Bool}(h:Jd t frame=some r):
 CSpec Tryz.prog gl0 88 [.agg [.str t.Name,.int .i64 t.Series.Den,.sl 56 (List.map R56 t.Series.Samples),.int .i64 t.Long],.int .i64 frame] (.tuple [.agg [.int .i64 r.1.At,.int .i64 r.1.N,.int .i64 r.1.Mark],.bool r.2]):=by
 unfold Jd at h
 replace h:=Z9 h
 refine So Tryz.func88 Y fun w0 A=>Tr<|Rq Y (Qn (cva<|ov Y) Y tZ_54 Y)<|Rx Y (Z8 (row:= [_,_,_]) 0 Y Zio Y tZ_56)<|Ra Y<|Za<|K4 1 2 4 5 Y<|Tr<|Rq Y (Ze (ov Y) ZeU)<|Rq Y (ZB (ov Y) ZkL Y Y)<|Rm Y<|R2 Zhr Y<|R2 Jh Y<|R2 Zda Y<|Rq Y (Ze (ov Y) Zkd)<|Rq Y (Zc (ov Y) tS3 Y)<|bE h fun y h_y h=>Rq Y (Zm (Zg4 h_y)<|.cons (ov Y) (.aggB Y)<|.cons (ov Y) (.b Y)<|.cons (ov Y) (.b Y) .nil)<|Rq Y (Zx (ov Y) Y)<|Rq Y (Zx (ov Y) Y)<|Rx Y (Zq (ov Y) (ov Y) (ZE ZdA Y) Y Y Y (Nat.le_of_ble_eq_true Y) (Zd Y) Y)<|Ra Y<|Za<|?_
 obtain rfl:=rt h
 exact Zj (ZD Y (.two (.agg Y Y Y Y ZdA Y Y<|pwB Y)<|rb Y))
theorem Zgb{xs r:List Int}(h:JX xs=some r):
 GSpec Tryz.prog gl0 84 [.sl 3 (List.map R3 xs)] [] (.own 0 r.length) [some ⟨3,List.map R3 r⟩]:=by
 have h2:app [] xs=some r:=h
 refine XJ (by kernel_rfl) Tryz.func84 Y Y<|?_
 intro w0 A W φ0
 refine Tr<|Ra Y<|Za<|Zt<|Zt<|ZH<|Rm Y<|Zdx (ov Y) ZkQ Y fun b hb=>?_
 refine Za<|Zd6 Y (fun hb2=>?_) fun hb2=>?_
 ·
  obtain rfl:xs= []:=by simpa using hb hb2
  obtain rfl:r= []:=by simpa [app,apz] using h2.symm
  exact Tr<|Ra Y<|Za<|Zj<|ZcQ [none] Y (.cons (.tmp Y) .nil) (.row 3 .nil) Y Y<|.row Y
 ·
  exact Zf<|Tr<|Rx Y (Xg (r:=0) (xs:= []) (f:=R3) Y Zdh .nil Y Y Y)<|Rm Y<|Rx Y (ZaZ (ov Y) (ZbE (ov Y) tZ_3) Zdh Y Y (fun _=>Zd Y) Y h2)<|Ra Y<|Za<|Zj<|ZcQ [some 0] Y (.cons (.tmp Y) .nil) (.cons Y (roM D3) .nil) Y Y<|.own _ Y
theorem Zg2{op:Int}{a:Int}{b:Int}{r:Bool}(h:Zaq op a b=some r):
 CSpec Tryz.prog gl0 129 [.int .i64 op,.int .i64 a,.int .i64 b] (.bool r):=by
 unfold Zaq at h
 replace h:=Z9 h
 refine So Tryz.func129 Y fun w0 A=>Tr<|Ra Y<|Za<|Zt<|K3 0 1 2 Y<|Tr<|Rm Y<|Za<|Zr<|K3 1 2 7 Y<|Tr<|R2 Xs Y<|Ra Y<|Za<|K4 1 2 7 8 Y<|If h Y (fun h=>?_) fun h=>?_
 ·
  refine K2 1 2 Y<|Tr<|Rm Y<|Rm Y<|R2 QE Y<|Ra Y<|Za<|?_
  obtain rfl:=rt h
  exact Zj (ZD Y (.one<|rb Y))
 ·
  refine K3 1 2 7 Y<|Tr<|R2 Xs Y<|Ra Y<|Za<|K4 1 2 7 13 Y<|If h Y (fun h=>?_) fun h=>?_
  ·
   refine K2 1 2 Y<|Tr<|Rm Y<|Rm Y<|R2 ZcL Y<|Ra Y<|Za<|?_
   obtain rfl:=rt h
   exact Zj (ZD Y (.one<|rb Y))
  ·
   refine K3 1 2 7 Y<|Tr<|R2 Xs Y<|Ra Y<|Za<|K4 1 2 7 18 Y<|If h Y (fun h=>?_) fun h=>?_
   ·
    refine K2 1 2 Y<|Tr<|Rm Y<|Rm Y<|R2 Xs Y<|Ra Y<|Za<|?_
    obtain rfl:=rt h
    exact Zj (ZD Y (.one<|rb Y))
   ·
    refine K3 1 2 7 Y<|Tr<|R2 Xs Y<|Ra Y<|Za<|K4 1 2 7 23 Y<|If h Y (fun h=>?_) fun h=>?_
    ·
     refine K2 1 2 Y<|Tr<|Rm Y<|Rm Y<|R2 Jz Y<|Ra Y<|Za<|?_
     obtain rfl:=rt h
     exact Zj (ZD Y (.one<|rb Y))
    ·
     refine K3 1 2 7 Y<|Tr<|R2 Xs Y<|Ra Y<|Za<|K3 1 2 28 Y<|If h Y (fun h=>?_) fun h=>?_
     ·
      refine K2 1 2 Y<|Tr<|Rm Y<|Rm Y<|R2 ZbN Y<|Ra Y<|Za<|?_
      obtain rfl:=rt h
      exact Zj (ZD Y (.one<|rb Y))
     ·
      refine Zf<|K2 1 2 Y<|Tr<|Rm Y<|Rm Y<|R2 JC Y<|Ra Y<|Za<|?_
      obtain rfl:=rt h
      exact Zj (ZD Y (.one<|rb Y))
theorem ZfF{tape:List Int}{size:Int}{n:Int}{r:(List Int)}(h:Jr tape size n=some r):
 CSpec Tryz.prog gl0 130 [.sl 3 (List.map R3 tape),.int .i64 size,.int .i64 n] (.sl 3 (List.map R3 r)):=by
 unfold Jr at h
 replace h:=Z9 h
 refine So Tryz.func130 Y fun w0 A=>Tr<|Ra Y<|Za<|K3 0 1 2 Y<|Tr<|Rm Y<|bE h fun y h_y h=>Rx Y (Q0 [] (Zgb h_y) (.cons (ov Y) (.dat Y) .nil) .nil Y (.lent 0 (.inr ⟨Nat.le_of_ble_eq_true Y,Y⟩) Y (roM D3) .nil) Y Y<|.own _<|.inr ⟨Nat.le_of_ble_eq_true Y,Y⟩)<|Rm Y<|R_q (.sl 3<|List.map R3 ([n]:List Int)) Y (ZdF Zdh (.cons (cvs (ov Y)<|ZX Y) Y (.cons (.b Y) .nil) .nil) Y Y)<|bE h fun l h_l h=>Rx Y (Zdk (ov Y) (ZbE (ov Y) tZ_3) Zdh Y Y Y (fun _=>Zd Y) Y h_l)<|Ra Y<|Za<|Zt<|K2 1 7 Y<|Tr<|Rm Y<|Rq Y (Zef (ov Y) Y Y Zdh)<|Rm Y<|R2 ZcL Y<|Za<|K2 7 18 Y<|If h Y (fun h=>?_) fun h=>?_
 ·
  refine K1 7 Y<|Tr<|Rm Y<|Ra Y<|Za<|?_
  obtain rfl:=rt h
  exact Zj (ZD Y (.one<|.tmp Y<|View.ownM Y Y D3))
 ·
  refine Zf<|I1 (fun out=>⟨[(7,.own 0 out.length)],[some ⟨3,List.map R3 out⟩]⟩) h (fun h=>?_) fun out h=>?_
  ·
   refine K1 7 Y<|Tr<|Ra Y<|Za<|Zr<|?_
   obtain⟨r1,hl1,ho1⟩:=Zay h
   refine L2 (fun out2 i=>⟨[(7,.own 0 out2.length),(8,.int .i64 i)],[some ⟨3,List.map R3 out2⟩]⟩) hl1 (ES [some 0]) fun n1 out2 i h=>?_
   unfold QK at h
   refine Zt<|Tr<|Rm Y<|R2 Jh Y<|Rm Y<|Rq Y (Zef (ov Y) Y Y Zdh)<|R2 ZcL Y<|Za<|K3 7 8 24 Y<|If h Y (fun h=>?_) fun h=>?_
   ·
    exact Zf<|Zt<|Zr<|K2 7 8 Y<|Tr<|Rm Y<|Rm Y<|Rm Y<|R2 Jh Y<|bE h fun u h_u h=>Rq Y (ZmU (ov Y) Y Y Zdh (oi<|ov Y) (oi<|ov Y) h_u)<|bE h fun u2 h_u2 h=>Rq Y (ZmA (ov Y) ZkP Y (List.length_map ..) tZ_3 Y h_u2)<|Ra Y<|Za<|K3 7 8 9 Y<|Zc6 (cw:=md0) (by kernel_rfl)<|D1 0 Zg Y<|D1 1 Zg Y<|Dq 2 Y (Zi (ov Y) Y<|List.length_map ..)<|bE h fun u3 h_u3 h=>bE h fun x h_x h=>Dq 3 Y (Zl7 (ov Y) (ov Y) ZkP Y Y tZ_3 (Zhk h_u).1 h_u3 h_x)<|Dq 4 Y (Zd0 (ov Y) Y Y h_x tS3 Y)<|Dq 5 Y (Zi (ov Y) Y<|List.length_map ..)<|bE h fun u4 h_u4 h=>bE h fun x2 h_x2 h=>Dq 6 Y (Zl7 (ov Y) (ov Y) ZkP Y Y tZ_3 (Zhk h_u).1 h_u4 h_x2)<|Do 7 Y (Zd8 (u':=x) (ov Y) (ov Y) (Zv tS3) Y Y h_x2 Y (Zd Y) Y)<|Dd<|K2 7 8 Y<|ZH<|Rm Y<|R2 Jh Y<|Ra Y<|Za<|⟨_,h,ES [some 0]<|sr 7 Y (ZkD (Eq.symm<|(List.length_set ..).trans Y) Y)<|sd 8 Y Y sn⟩
   ·
    refine Z3<|?_
    replace h:=lx h▸ho1
    exact⟨_,h,ES [some 0]⟩
  ·
   refine Tr<|Rm Y<|Rm Y<|Rq Y (Zef (ov Y) Y Y Zdh)<|R2 Zda Y<|bE h fun l2 h_l2 h=>ZkU (Ent.sel [none] (sr 7 Y (ZgH Y Y Y D3)<|sr 40 Y (ZgH Y Y Y D3)<|sr 41 Y (ZgH Y Y Y D3)<|sd 42 Y Y<|sd 43 Y Y sn) (.row 3 .nil) Y Y)<|Rq Y (Zhg (ov Y) Zdh on (oi<|ov Y) h_l2)<|Ra Y<|Za<|?_
   obtain rfl:=rt h
   exact Zj (ZD Y (.one<|rb Y))
theorem ZdO{i:api_Instrument}{m:api_Memo}{n:Int}{known:Bool}{r:api_Memo}(h:QH i m n known=some r):
 CSpec Tryz.prog gl0 92 [.agg [.int .i64 i.Kind,.str i.Name,.str i.Track,.int .i64 i.Places,.int .i64 i.Low,.int .i64 i.High,.int .i64 i.Steps,.sl 136 (List.map R136 i.Zones),.int .i64 i.Op,.int .i64 i.N,.bool i.Latch,.int .i64 i.Size],.agg [.bool m.Lit,.bool m.Some,.int .i64 m.N,.int .i64 m.Count,.sl 3 (List.map R3 m.Tape)],.int .i64 n,.bool known] (.agg [.bool r.Lit,.bool r.Some,.int .i64 r.N,.int .i64 r.Count,.sl 3 (List.map R3 r.Tape)]):=by
 unfold QH at h
 replace h:=Z9 h
 refine So Tryz.func92 Y fun w0 A=>Tr<|Rq Y (Qn (cva<|ov Y) Y tZ_49 Y)<|Rx Y (Zjn 0 Y (ov Y) Ziq Y)<|Rx Y (Z8 (row:= [_,_,_,_,_]) 1 Y Zk7 Y tZ_99)<|Za<|K5 2 3 4 5 8 Y<|Tr<|Rm Y<|Rm Y<|Rq Y (.guarded (known==true) Y Y Y Y fun h=>Ze (ov Y) Zcp)<|Rq Y (.guarded (known==true) Y Y Y Y fun h=>Zc (ow Y h) tS3 Y)<|Rq Y (.guarded (known==true) Y Y Y Y fun h=>Xs (ow Y h)<|ov Y)<|Rq Y (.guarded (known==true) Y Y Y Y fun h=>Zg<|ow Y h)<|Rq Y (.guarded2 ((known==true)&&((decide (i.Kind=3))==false)) Y Y Y Y fun h=>Ze (ov Y) Zcp)<|Rq Y (.guarded2 ((known==true)&&((decide (i.Kind=3))==false)) Y Y Y Y fun h=>Zc (ow Y h) tS3 Y)<|Rq Y (.guarded2 ((known==true)&&((decide (i.Kind=3))==false)) Y Y Y Y fun h=>Xs (ow Y h)<|ov Y)<|Rq Y (.guarded (known==true) Y Y Y Y fun h=>Zab (ow Y h) fun hp=>ow Y<|gA h<|gF hp)<|Rq Y (XT (ov Y) fun hp=>ow Y<|gT hp)<|Rm Y<|Rq Y (.guarded ((known&&((decide (i.Kind=3)) || (decide (i.Kind=5))))==true) Y Y Y Y fun h=>Ze (ov Y) Zjd)<|Rq Y (.guarded ((known&&((decide (i.Kind=3)) || (decide (i.Kind=5))))==true) Y Y Y Y fun h=>Zc (ow Y h) tS3 Y)<|Rq Y (.guarded ((known&&((decide (i.Kind=3)) || (decide (i.Kind=5))))==true) Y Y Y Y fun h=>Zg<|ov Y)<|Rq Y (.guarded ((known&&((decide (i.Kind=3)) || (decide (i.Kind=5))))==true) Y Y Y Y fun h=>Ze (ov Y) Zja)<|Rq Y (.guarded ((known&&((decide (i.Kind=3)) || (decide (i.Kind=5))))==true) Y Y Y Y fun h=>Zc (ow Y h) tS3 Y)<|bE h fun y h_y h=>Rq Y (.guarded ((known&&((decide (i.Kind=3)) || (decide (i.Kind=5))))==true) Y Y Y Y fun h=>Zm (Zg2<|gdT h_y h)<|.cons (ow Y h) (.b Y)<|.cons (ow Y h) (.b Y)<|.cons (ow Y h) (.b Y) .nil)<|Rq Y (XT (ov Y) fun hp=>ow Y<|gT hp)<|Ra Y<|Za<|I1 (fun m2=>⟨[(5,.ptr 0 1 0 0),(8,.ptr 1 1 0 0)],[some ⟨99,[[.bool m2.Lit,.bool m2.Some,.int .i64 m2.N,.int .i64 m2.Count,.sl 3 (List.map R3 m2.Tape)]]⟩,some ⟨99,[[.bool false,.bool false,.int .i64 0,.int .i64 0,.nils]]⟩]⟩) h (fun h=>?_) fun m2 h=>?_
 ·
  refine Zr<|K6 2 3 4 5 8 9 Y<|Tr<|Rq Y (Ze (ov Y) Zcp)<|Rq Y (Zc (ov Y) tS3 Y)<|R2 Xs Y<|Ra Y<|Za<|K7 2 3 4 5 8 9 29 Y<|If h Y (fun h=>?_) fun h=>?_
  ·
   exact K4 4 5 8 9 Y<|ZH<|Rm Y<|Rm Y<|Rq Y (.guarded (((known&&((decide (i.Kind=3)) || (decide (i.Kind=5))))&&y)==false) Y Y Y Y fun h=>Ze (ov Y) ZjO)<|Rq Y (.guarded (((known&&((decide (i.Kind=3)) || (decide (i.Kind=5))))&&y)==false) Y Y Y Y fun h=>Zc (ow Y h) tS4 Y)<|Rq Y (.guarded (((known&&((decide (i.Kind=3)) || (decide (i.Kind=5))))&&y)==false) Y Y Y Y fun h=>Zg<|ow Y h)<|Rq Y (.guarded2 ((((known&&((decide (i.Kind=3)) || (decide (i.Kind=5))))&&y)==false)&&(i.Latch==true)) Y Y Y Y fun h=>Zb (ov Y) Y Y ZeK)<|Rq Y (.guarded2 ((((known&&((decide (i.Kind=3)) || (decide (i.Kind=5))))&&y)==false)&&(i.Latch==true)) Y Y Y Y fun h=>Zo (ow Y h) Y Y Y tS4 Y)<|Rq Y (.guarded (((known&&((decide (i.Kind=3)) || (decide (i.Kind=5))))&&y)==false) Y Y Y Y fun h=>XT (ow Y h) fun hp=>ow Y<|gA h<|gT hp)<|Rq Y (Zab (ov Y) fun hp=>ow Y<|gF hp)<|Rq Y (Zb (ov Y) Y Y ZeK)<|Rx Y (Zq (ov Y) (ov Y) (Zv tS4) Y Y Y (Nat.le_of_ble_eq_true Y) (Zd Y) Y)<|Za<|⟨_,h,ES [some 0,some 1]⟩
  ·
   refine K6 2 3 4 5 8 9 Y<|Tr<|Rq Y (Ze (ov Y) Zcp)<|Rq Y (Zc (ov Y) tS3 Y)<|R2 Xs Y<|Ra Y<|Za<|K7 2 3 4 5 8 9 43 Y<|If h Y (fun h=>?_) fun h=>?_
   ·
    refine Zt<|K3 5 8 9 Y<|Tr<|Rm Y<|Rm Y<|Rq Y (.guarded (((known&&((decide (i.Kind=3)) || (decide (i.Kind=5))))&&y)==true) Y Y Y Y fun h=>Zb (ov Y) Y Y ZeK)<|Rq Y (.guarded (((known&&((decide (i.Kind=3)) || (decide (i.Kind=5))))&&y)==true) Y Y Y Y fun h=>Zo (ow Y h) Y Y Y tS4 Y)<|Rq Y (.guarded (((known&&((decide (i.Kind=3)) || (decide (i.Kind=5))))&&y)==true) Y Y Y Y fun h=>Xt<|ow Y h)<|Rq Y (XT (ov Y) fun hp=>ow Y<|gT hp)<|Za<|K4 5 8 9 52 Y<|If h Y (fun h=>?_) fun h=>?_
    ·
     exact K3 5 8 9 Y<|ZH<|Rq Y (Zb (ov Y) Y Y Zi3)<|Rq Y (Zo (ov Y) Y Y Y tS3 Y)<|R2 Jh Y<|Rq Y (Zb (ov Y) Y Y Zi3)<|Rx Y (Zq (ov Y) (ov Y) (Zv tS3) Y Y Y (Nat.le_of_ble_eq_true Y) (Zd Y) Y)<|Za<|K3 5 8 9 Y<|ZH<|Rm Y<|Rq Y (Zb (ov Y) Y Y ZeK)<|Rx Y (Zq (ov Y) (ov Y) (Zv tS4) Y Y Y (Nat.le_of_ble_eq_true Y) (Zd Y) Y)<|Za<|⟨_,h,ES [some 0,some 1]⟩
    ·
     exact Zf<|K3 5 8 9 Y<|ZH<|Rm Y<|Rq Y (Zb (ov Y) Y Y ZeK)<|Rx Y (Zq (ov Y) (ov Y) (Zv tS4) Y Y Y (Nat.le_of_ble_eq_true Y) (Zd Y) Y)<|Za<|⟨_,h,ES [some 0,some 1]⟩
   ·
    refine K5 2 3 4 5 8 Y<|Tr<|Rq Y (Ze (ov Y) Zcp)<|Rq Y (Zc (ov Y) tS3 Y)<|R2 Xs Y<|Rm Y<|Rq Y (.guarded ((decide (i.Kind=4))==true) Y Y Y Y fun h=>Zg<|ov Y)<|Rq Y (XT (ov Y) fun hp=>ow Y<|gT hp)<|Ra Y<|Za<|K6 2 3 4 5 8 59 Y<|If h Y (fun h=>?_) fun h=>?_
    ·
     refine I1 (fun n2=>⟨[(2,.int .i64 n2),(5,.ptr 0 1 0 0),(8,.ptr 1 1 0 0)],[some ⟨99,[[.bool m.Lit,.bool m.Some,.int .i64 m.N,.int .i64 m.Count,.sl 3 (List.map R3 m.Tape)]]⟩,some ⟨99,[[.bool false,.bool false,.int .i64 0,.int .i64 0,.nils]]⟩]⟩) h (fun h=>?_) fun n2 h=>?_
     ·
      refine K3 2 5 8 Y<|Tr<|Rq Y (Zb (ov Y) Y Y Zi0)<|Rq Y (Zo (ov Y) Y Y Y tS4 Y)<|Za<|K4 2 5 8 67 Y<|If h Y (fun h=>?_) fun h=>?_
      ·
       exact K3 2 5 8 Y<|ZH<|Rm Y<|Rq Y (Zb (ov Y) Y Y ZiY)<|Rq Y (Zo (ov Y) Y Y Y tS3 Y)<|Rq Y (ZkI (ov Y) (ov Y) Y)<|Ra Y<|Za<|⟨_,h,ES [some 0,some 1]⟩
      ·
       exact Zf<|⟨_,h,ES [some 0,some 1]⟩
     ·
      exact ZH<|Rm Y<|Rq Y (Zb (ov Y) Y Y ZiY)<|Rx Y (Zq (ov Y) (ov Y) (Zv tS3) Y Y Y (Nat.le_of_ble_eq_true Y) (Zd Y) Y)<|Rq Y (Zb (ov Y) Y Y Zi0)<|Rx Y (Zq (ov Y) (ov Y) (Zv tS4) Y Y Y (Nat.le_of_ble_eq_true Y) (Zd Y) Y)<|Za<|⟨_,h,ES [some 0,some 1]⟩
    ·
     refine K5 2 3 4 5 8 Y<|Tr<|Rq Y (Ze (ov Y) Zcp)<|Rq Y (Zc (ov Y) tS3 Y)<|R2 Xs Y<|Rm Y<|Rq Y (.guarded ((decide (i.Kind=6))==true) Y Y Y Y fun h=>Zg<|ov Y)<|Rq Y (XT (ov Y) fun hp=>ow Y<|gT hp)<|Ra Y<|Za<|K5 2 4 5 8 75 Y<|If h Y (fun h=>?_) fun h=>?_
     ·
      exact K4 2 4 5 8 Y<|ZH<|Rq Y (Zb (ov Y) Y Y Zdy)<|Rq Y (Zo (ov Y) Y Y Y ZhO Y)<|Rq Y (Ze (ov Y) ZhR)<|Rq Y (Zc (ov Y) tS3 Y)<|Rm Y<|bE h fun y2 h_y2 h=>Rq Y (Zm (ZfF h_y2)<|.cons (ov Y) (.b Y)<|.cons (ov Y) (.b Y)<|.cons (ov Y) (.b Y) .nil)<|Rq Y (Zb (ov Y) Y Y Zdy)<|Rx Y (Zq (ov Y) (ov Y) (Zv ZhO) Y Y Y (Nat.le_of_ble_eq_true Y) (Zd Y) Y)<|Za<|⟨_,h,ES [some 0,some 1]⟩
     ·
      exact Zf<|⟨_,h,ES [some 0,some 1]⟩
 ·
  refine Tr<|Rq Y (Qk (ov Y) Y Y Y Ziq Y Y)<|Rx Y (Zq (ov Y) (ov Y) (ZE Ziq Y) Y Y Y (Nat.le_of_ble_eq_true Y) (Zd Y) Y)<|Za<|?_
  obtain rfl:=rt h
  exact Zj (ZD Y (.one<|.agg Y Y Y Y Ziq Y Y<|pwB Y))
end Go.Proofs.YtailpehcgelmdaaGreatDoor
