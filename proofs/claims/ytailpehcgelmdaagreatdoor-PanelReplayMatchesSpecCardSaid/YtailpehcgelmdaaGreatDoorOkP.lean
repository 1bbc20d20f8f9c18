/- A text of the proof: a verified executor of the program form, or the contracts of the functions that the law reaches. -/
import Derived.Test.YtailpehcgelmdaaGreatDoorOkPd
set_option linter.all false
namespace Go.Proofs.YtailpehcgelmdaaGreatDoor
open Go Go.Vx
set_option maxRecDepth 10000
set_option maxHeartbeats 1000000
set_option linter.unusedVariables false
theorem ZiW{a:api_Memo}{b:api_Memo}{r:Bool}(h:ZbJ a b=some r):
 CSpec Tryz.prog gl0 57 [.agg [.bool a.Lit,.bool a.Some,.int .i64 a.N,.int .i64 a.Count,.sl 3 (List.map R3 a.Tape)],.agg [.bool b.Lit,.bool b.Some,.int .i64 b.N,.int .i64 b.Count,.sl 3 (List.map R3 b.Tape)]] (.bool r):=by
 unfold ZbJ at h
 replace h:=ZO h
 refine So Tryz.func57 Y fun w0 A=>Tr<|Rq Y (ZP (cva<|ov Y) Y tZ_99 Y)<|Rq Y (ZP (cva<|ov Y) Y tZ_99 Y)<|Ra Y<|Za<|K3 2 3 4 Y<|Tr<|Rq Y (Ze (ov Y) ZaF)<|Rq Y (Zc (ov Y) tS4 Y)<|Rq Y (Ze (ov Y) ZaF)<|Rq Y (Zc (ov Y) tS4 Y)<|Rq Y (Zki .eql (by simp) (ov Y) (ov Y) tB4)<|Rm Y<|Rq Y (.guarded ((a.Lit==b.Lit)==true) Y Y Y Y fun h=>Ze (ov Y) Zf1)<|Rq Y (.guarded ((a.Lit==b.Lit)==true) Y Y Y Y fun h=>Zc (ow Y h) tS4 Y)<|Rq Y (.guarded ((a.Lit==b.Lit)==true) Y Y Y Y fun h=>Ze (ov Y) Zf1)<|Rq Y (.guarded ((a.Lit==b.Lit)==true) Y Y Y Y fun h=>Zc (ow Y h) tS4 Y)<|Rq Y (.guarded ((a.Lit==b.Lit)==true) Y Y Y Y fun h=>Zki .eql (by simp) (ow Y h) (ow Y h) tB4)<|Rq Y (ZQ (ov Y) fun hp=>ow Y<|gT hp)<|Rm Y<|Rq Y (.guarded (((a.Lit==b.Lit)&&(a.Some==b.Some))==true) Y Y Y Y fun h=>Ze (ov Y) ZgI)<|Rq Y (.guarded (((a.Lit==b.Lit)&&(a.Some==b.Some))==true) Y Y Y Y fun h=>Zc (ow Y h) tS3 Y)<|Rq Y (.guarded (((a.Lit==b.Lit)&&(a.Some==b.Some))==true) Y Y Y Y fun h=>Ze (ov Y) ZgI)<|Rq Y (.guarded (((a.Lit==b.Lit)&&(a.Some==b.Some))==true) Y Y Y Y fun h=>Zc (ow Y h) tS3 Y)<|Rq Y (.guarded (((a.Lit==b.Lit)&&(a.Some==b.Some))==true) Y Y Y Y fun h=>ZT (ow Y h)<|ow Y h)<|Rq Y (ZQ (ov Y) fun hp=>ow Y<|gT hp)<|Rm Y<|Rq Y (.guarded ((((a.Lit==b.Lit)&&(a.Some==b.Some))&&(decide (a.N=b.N)))==true) Y Y Y Y fun h=>Ze (ov Y) ZgP)<|Rq Y (.guarded ((((a.Lit==b.Lit)&&(a.Some==b.Some))&&(decide (a.N=b.N)))==true) Y Y Y Y fun h=>Zc (ow Y h) tS3 Y)<|Rq Y (.guarded ((((a.Lit==b.Lit)&&(a.Some==b.Some))&&(decide (a.N=b.N)))==true) Y Y Y Y fun h=>Ze (ov Y) ZgP)<|Rq Y (.guarded ((((a.Lit==b.Lit)&&(a.Some==b.Some))&&(decide (a.N=b.N)))==true) Y Y Y Y fun h=>Zc (ow Y h) tS3 Y)<|Rq Y (.guarded ((((a.Lit==b.Lit)&&(a.Some==b.Some))&&(decide (a.N=b.N)))==true) Y Y Y Y fun h=>ZT (ow Y h)<|ow Y h)<|Rq Y (ZQ (ov Y) fun hp=>ow Y<|gT hp)<|Rm Y<|Rq Y (.guarded (((((a.Lit==b.Lit)&&(a.Some==b.Some))&&(decide (a.N=b.N)))&&(decide (a.Count=b.Count)))==true) Y Y Y Y fun h=>Ze (ov Y) JW)<|Rq Y (.guarded (((((a.Lit==b.Lit)&&(a.Some==b.Some))&&(decide (a.N=b.N)))&&(decide (a.Count=b.Count)))==true) Y Y Y Y fun h=>Zc (ow Y h) ZeC Y)<|Rq Y (.guarded (((((a.Lit==b.Lit)&&(a.Some==b.Some))&&(decide (a.N=b.N)))&&(decide (a.Count=b.Count)))==true) Y Y Y Y fun h=>Ze (ov Y) JW)<|Rq Y (.guarded (((((a.Lit==b.Lit)&&(a.Some==b.Some))&&(decide (a.N=b.N)))&&(decide (a.Count=b.Count)))==true) Y Y Y Y fun h=>Zc (ow Y h) ZeC Y)<|bE h fun y h_y h=>Rq Y (.guarded (((((a.Lit==b.Lit)&&(a.Some==b.Some))&&(decide (a.N=b.N)))&&(decide (a.Count=b.Count)))==true) Y Y Y Y fun h=>Zn (ZcN<|gdT h_y h)<|.cons (ow Y h) (.b Y)<|.cons (ow Y h) (.b Y) .nil)<|Rq Y (ZQ (ov Y) fun hp=>ow Y<|gT hp)<|Ra Y<|Za<|?_
 obtain rfl:=rt h
 exact Zj (Zu Y (.one<|rb Y))
theorem Zig{a:api_PanelState}{b:api_PanelState}{r:Bool}(h:Zb0 a b=some r):
 CSpec Tryz.prog gl0 22 [.agg [.int .i64 a.Frame,.sl 99 (List.map R99 a.Memos)],.agg [.int .i64 b.Frame,.sl 99 (List.map R99 b.Memos)]] (.bool r):=by
 unfold Zb0 at h
 replace h:=ZO h
 refine So Tryz.func22 Y fun w0 A=>Tr<|Rq Y (ZP (cva<|ov Y) Y tZ_44 Y)<|Rq Y (ZP (cva<|ov Y) Y tZ_44 Y)<|Ra Y<|Za<|K3 2 3 4 Y<|Tr<|Rq Y (Ze (ov Y) Qi)<|Rq Y (Zc (ov Y) tS3 Y)<|Rq Y (Ze (ov Y) Qi)<|Rq Y (Zc (ov Y) tS3 Y)<|R2 ZT Y<|Rm Y<|Rq Y (.guarded ((decide (a.Frame=b.Frame))==true) Y Y Y Y fun h=>Ze (ov Y) Jn)<|Rq Y (.guarded ((decide (a.Frame=b.Frame))==true) Y Y Y Y fun h=>Zc (ow Y h) ZdM Y)<|Rq Y (.guarded ((decide (a.Frame=b.Frame))==true) Y Y Y Y fun h=>Ze (ov Y) Jn)<|Rq Y (.guarded ((decide (a.Frame=b.Frame))==true) Y Y Y Y fun h=>Zc (ow Y h) ZdM Y)<|bE h fun y h_y h=>Rq Y (.guarded ((decide (a.Frame=b.Frame))==true) Y Y Y Y fun h=>Zn (Jr Y (fun z0 z1 _ hz=>ZiW hz)<|gdT h_y h)<|.cons (ow Y h) (.b Y)<|.cons (ow Y h) (.b Y)<|.cons (ov Y) .fn .nil)<|Rq Y (ZQ (ov Y) fun hp=>ow Y<|gT hp)<|Ra Y<|Za<|?_
 obtain rfl:=rt h
 exact Zj (Zu Y (.one<|rb Y))
theorem Zc9{n:Int}{den:Int}{places:Int}{r:Str}(h:Zas n den places=some r):
 CSpec Tryz.prog gl0 48 [.int .i64 n,.int .i64 den,.int .i64 places] (.str r):=by
 unfold Zas at h
 replace h:=ZO h
 refine So Tryz.func48 Y fun w0 A=>Tr<|Ra Y<|Za<|K3 0 1 2 Y<|Tr<|Rm Y<|Ra Y<|Ra Y<|Za<|I2 (fun size sign=>⟨[(1,.int .i64 den),(2,.int .i64 places),(7,.int .i64 size),(8,.str sign)],[]⟩) h (fun h=>?_) fun size sign h=>?_
 ·
  refine K5 0 1 2 7 8 Y<|Tr<|Rm Y<|R2 ZV Y<|Za<|K6 0 1 2 7 8 15 Y<|If h Y (fun h=>?_) fun h=>?_
  ·
   exact K5 0 1 2 7 8 Y<|Zw<|Rm Y<|Rq Y (ZpE (ov Y) Y)<|Ra Y<|Ra Y<|Za<|⟨_,h,ES []⟩
  ·
   exact Zh<|⟨_,h,ES []⟩
 ·
  refine Tr<|Ra Y<|Za<|I1 (fun unit=>⟨[(1,.int .i64 den),(2,.int .i64 places),(7,.int .i64 size),(8,.str sign),(9,.int .i64 unit)],[]⟩) h (fun h=>?_) fun unit h=>?_
  ·
   refine Tr<|Rm Y<|Rm Y<|Za<|Zl<|?_
   obtain⟨r1,hl1,ho1⟩:=Xa h
   refine L2 (fun unit2 i=>⟨[(1,.int .i64 den),(2,.int .i64 places),(7,.int .i64 size),(8,.str sign),(9,.int .i64 unit2),(18,.int .i64 places),(19,.int .i64 i)],[]⟩) hl1 (ES []) fun n1 unit2 i h=>?_
   unfold ZeV at h
   refine Tr<|R2 ZV Y<|Za<|Zm<|If h Y (fun h=>?_) fun h=>?_
   ·
    exact Zh<|Zm<|Zl<|K7 1 2 7 8 9 18 19 Y<|Zw<|Rm Y<|R2 Zjz Y<|Ra Y<|Za<|K7 1 2 7 8 9 18 19 Y<|Zw<|R2 QB Y<|Rm Y<|Za<|⟨_,h,ES []⟩
   ·
    refine ZL<|?_
    replace h:=lx h▸ho1
    exact⟨_,h,ES []⟩
  ·
   refine Td md0<|D1 0 Zf Y<|D1 1 Zf Y<|bE h fun q h_q h=>Dq 2 Y (ZhF (ov Y) (ov Y) h_q)<|D1 3 Zf Y<|D2 4 Zjz Y<|D1 5 Zf Y<|D1 6 Zf Y<|bE h fun q2 h_q2 h=>Dq 7 Y (Zj1 (ov Y) (ov Y) h_q2)<|D2 8 Zjz Y<|D1 9 Zf Y<|D2 10 QB Y<|D1 11 Zf Y<|D2 12 Zjz Y<|bE h fun q3 h_q3 h=>Dq 13 Y (ZhF (ov Y) (ov Y) h_q3)<|D1 14 Qp Y<|D1 15 Qp Y<|Dd<|I2 (fun whole part=>⟨[(2,.int .i64 places),(8,.str sign),(9,.int .i64 unit),(10,.int .i64 whole),(11,.int .i64 part)],[]⟩) h (fun h=>?_) fun whole part h=>?_
   ·
    refine K5 2 8 9 10 11 Y<|Tr<|Rm Y<|Rm Y<|R2 ZT Y<|Za<|K6 2 8 9 10 11 40 Y<|If h Y (fun h=>?_) fun h=>?_
    ·
     exact K5 2 8 9 10 11 Y<|Zw<|Rm Y<|R2 QB Y<|Ra Y<|Ra Y<|Za<|⟨_,h,ES []⟩
    ·
     exact Zh<|⟨_,h,ES []⟩
   ·
    refine I1 (fun sign2=>⟨[(2,.int .i64 places),(8,.str sign2),(9,.int .i64 unit),(10,.int .i64 whole),(11,.int .i64 part)],[]⟩) h (fun h=>?_) fun sign2 h=>?_
    ·
     refine Tr<|Rm Y<|R2 ZT Y<|Rm Y<|Rq Y (.guarded ((decide (whole=0))==true) Y Y Y Y fun h=>Zf<|ov Y)<|Rq Y (.guarded ((decide (whole=0))==true) Y Y Y Y fun h=>ZT (ow Y h)<|ov Y)<|Rq Y (ZQ (ov Y) fun hp=>ow Y<|gT hp)<|Za<|K6 2 8 9 10 11 48 Y<|If h Y (fun h=>?_) fun h=>?_
     ·
      exact K5 2 8 9 10 11 Y<|Zw<|Ra Y<|Za<|⟨_,h,ES []⟩
     ·
      exact Zh<|⟨_,h,ES []⟩
    ·
     refine Tr<|Rm Y<|bE h fun y h_y h=>Rq Y (Zn (ZfI h_y)<|.cons (ov Y) (.b Y) .nil)<|Ra Y<|Za<|I1 (fun s=>⟨[(8,.str sign2),(12,.str s)],[]⟩) h (fun h=>?_) fun s h=>?_
     ·
      refine K5 2 8 9 11 12 Y<|Tr<|Rm Y<|R2 Qq Y<|Za<|K5 8 9 11 12 52 Y<|If h Y (fun h=>?_) fun h=>?_
      ·
       exact K4 8 9 11 12 Y<|Zw<|Rm Y<|Rm Y<|Rm Y<|R2 QB Y<|bE h fun y2 h_y2 h=>Rq Y (Zn (ZfI h_y2)<|.cons (ov Y) (.b Y) .nil)<|bE h fun s2 h_s2 h=>Rq Y (Zan (ov Y) Qr (oi<|ov Y) on h_s2)<|bE h fun s3 h_s3 h=>Rq Y (Zgy (ov Y) (ov Y) h_s3)<|bE h fun s4 h_s4 h=>Rq Y (Zgy (ov Y) (ov Y) h_s4)<|Ra Y<|Za<|⟨_,h,ES []⟩
      ·
       exact Zh<|⟨_,h,ES []⟩
     ·
      refine Tr<|Rm Y<|Rm Y<|bE h fun s5 h_s5 h=>Rq Y (Zgy (ov Y) (ov Y) h_s5)<|Ra Y<|Za<|?_
      obtain rfl:=rt h
      exact Zj (Zu Y (.one<|rb Y))
theorem Zkp{i:api_Instrument}{n:Int}{r:Int}(h:Ze2 i n=some r):
 CSpec Tryz.prog gl0 142 [.agg [.int .i64 i.Kind,.str i.Name,.str i.Track,.int .i64 i.Places,.int .i64 i.Low,.int .i64 i.High,.int .i64 i.Steps,.sl 136 (List.map R136 i.Zones),.int .i64 i.Op,.int .i64 i.N,.bool i.Latch,.int .i64 i.Size],.int .i64 n] (.int .i64 r):=by
 unfold Ze2 at h
 replace h:=ZO h
 refine So Tryz.func142 Y fun w0 A=>Tr<|Rq Y (ZP (cva<|ov Y) Y tZ_49 Y)<|Ra Y<|Za<|Zm<|K2 1 2 Y<|Tr<|Rm Y<|Rq Y (Ze (ov Y) ZdX)<|Rq Y (Zc (ov Y) tS3 Y)<|R2 ZaD Y<|Za<|K3 1 2 8 Y<|If h Y (fun h=>?_) fun h=>?_
 ·
  refine K0<|Tr<|Ra Y<|Za<|?_
  obtain rfl:=rt h
  exact Zj (Zu Y (.one<|rb Y))
 ·
  refine Zh<|Zm<|K2 1 2 Y<|Tr<|Rm Y<|Rq Y (Ze (ov Y) Zfl)<|Rq Y (Zc (ov Y) tS3 Y)<|R2 Zaj Y<|Za<|K3 1 2 12 Y<|If h Y (fun h=>?_) fun h=>?_
  ·
   refine K1 2 Y<|Tr<|Rq Y (Ze (ov Y) ZgO)<|Rq Y (Zc (ov Y) tS3 Y)<|Ra Y<|Za<|?_
   obtain rfl:=rt h
   exact Zj (Zu Y (.one<|rb Y))
  ·
   refine Zh<|K2 1 2 Y<|Tr<|Rm Y<|Rq Y (Ze (ov Y) ZdX)<|Rq Y (Zc (ov Y) tS3 Y)<|R2 Zdi Y<|Rq Y (Ze (ov Y) ZgO)<|Rq Y (Zc (ov Y) tS3 Y)<|R2 Zjz Y<|Rq Y (Ze (ov Y) Zfl)<|Rq Y (Zc (ov Y) tS3 Y)<|Rq Y (Ze (ov Y) ZdX)<|Rq Y (Zc (ov Y) tS3 Y)<|R2 Zdi Y<|bE h fun q h_q h=>Rq Y (ZhF (ov Y) (ov Y) h_q)<|Ra Y<|Za<|?_
   obtain rfl:=rt h
   exact Zj (Zu Y (.one<|rb Y))
theorem ZlI{i:api_Instrument}{n:Int}{r:Str}(h:ZfN i n=some r):
 CSpec Tryz.prog gl0 143 [.agg [.int .i64 i.Kind,.str i.Name,.str i.Track,.int .i64 i.Places,.int .i64 i.Low,.int .i64 i.High,.int .i64 i.Steps,.sl 136 (List.map R136 i.Zones),.int .i64 i.Op,.int .i64 i.N,.bool i.Latch,.int .i64 i.Size],.int .i64 n] (.str r):=by
 unfold ZfN at h
 replace h:=ZO h
 refine So Tryz.func143 Y fun w0 A=>Tr<|Rq Y (ZP (cva<|ov Y) Y tZ_49 Y)<|Ra Y<|Za<|J0 (fun j=>(.inr j)) ⟨[],[]⟩ h (fun h=>?_) fun h=>?_
 ·
  refine K2 1 2 Y<|Tr<|Rq Y (Ze (ov Y) Zd6)<|Rq Y (Zc (ov Y) ZjB Y)<|Rl tZ_136 Zhc Y<|Rm Y<|Za<|Zl<|?_
  obtain⟨r1,hl1,ho1⟩:=Xa h
  refine L1 (fun i2=>⟨[(1,.int .i64 n),(8,.sl 136 (List.map R136 i.Zones)),(9,.int .i64 (i.Zones.length:Int)),(10,.int .i64 i2)],[]⟩) hl1 (ES []) fun n1 i2 h=>?_
  unfold Zii at h
  refine Tr<|R2 ZV Y<|Za<|Zm<|If h Y (fun h=>?_) fun h=>?_
  ·
   refine Zh<|Zm<|Zl<|K4 1 8 9 10 Y<|Tr<|bE h fun x h_x h=>Rq Y (ZU (ov Y) (ov Y) Zhc h_x)<|Rq Y (Zr (ov Y) Zja Y Y)<|Rx Y (Zz (row:= [_,_,_]) 0 Y Znf Y tZ_136)<|Rx Y (Zk (ov Y) (ov Y) (Zo Zja Y) Y Y Y (Nat.le_of_ble_eq_true Y) (Zd Y) Y)<|Za<|K5 1 6 8 9 10 Y<|Tr<|Rq Y (Zb (ov Y) Y Y Zg1)<|Rq Y (Zi (ov Y) Y Y Y tS3 Y)<|Rm Y<|R2 ZaD Y<|Rm Y<|Rq Y (.guarded ((decide (x.From≤n))==true) Y Y Y Y fun h=>Zf<|ov Y)<|Rq Y (.guarded ((decide (x.From≤n))==true) Y Y Y Y fun h=>Zb (ov Y) Y Y Zg7)<|Rq Y (.guarded ((decide (x.From≤n))==true) Y Y Y Y fun h=>Zi (ow Y h) Y Y Y tS3 Y)<|Rq Y (.guarded ((decide (x.From≤n))==true) Y Y Y Y fun h=>ZaD (ow Y h)<|ow Y h)<|Rq Y (ZQ (ov Y) fun hp=>ow Y<|gT hp)<|Za<|K6 1 6 8 9 10 23 Y<|If h Y (fun h=>?_) fun h=>?_
   ·
    refine K1 6 Y<|Tr<|Rq Y (Zb (ov Y) Y Y ZjG)<|Rq Y (Zi (ov Y) Y Y Y tS9 Y)<|Ra Y<|Za<|?_
    replace h:=lx h▸ho1
    obtain rfl:=rt h
    exact Zj (Zu Y (.one<|rb Y))
   ·
    exact Zh<|K4 1 8 9 10 Y<|Zw<|R2 QB Y<|Rm Y<|Za<|⟨_,h,ES []⟩
  ·
   refine ZL<|?_
   replace h:=lx h▸ho1
   exact⟨(),h,ES []⟩
 ·
  replace h:=elr h
  replace h:=t0i h
  refine Tr<|Ra Y<|Za<|?_
  obtain rfl:=rt h
  exact Zj (Zu Y (.one<|rb Y))
theorem ZlJ{i:api_Instrument}{den:Int}{m:api_Memo}{s:api_Sample}{known:Bool}{r:api_Face}(h:Zen i den m s known=some r):
 CSpec Tryz.prog gl0 101 [.agg [.int .i64 i.Kind,.str i.Name,.str i.Track,.int .i64 i.Places,.int .i64 i.Low,.int .i64 i.High,.int .i64 i.Steps,.sl 136 (List.map R136 i.Zones),.int .i64 i.Op,.int .i64 i.N,.bool i.Latch,.int .i64 i.Size],.int .i64 den,.agg [.bool m.Lit,.bool m.Some,.int .i64 m.N,.int .i64 m.Count,.sl 3 (List.map R3 m.Tape)],.agg [.int .i64 s.At,.int .i64 s.N,.int .i64 s.Mark],.bool known] (.agg [.str r.Text,.int .i64 r.Needle,.bool r.Lit,.int .i64 r.Mark]):=by
 unfold Zen at h
 replace h:=ZO h
 refine So Tryz.func101 Y fun w0 A=>Tr<|Rq Y (ZP (cva<|ov Y) Y tZ_49 Y)<|Rq Y (ZP (cva<|ov Y) Y tZ_99 Y)<|Rq Y (ZP (cva<|ov Y) Y tZ_56 Y)<|Rx Y (Zz (row:= [_,_,_,_]) 0 Y ZmJ Y tZ_39)<|Za<|K6 1 4 5 7 8 10 Y<|Tr<|Rq Y (QU (ys:= [_,_,_,_]) ZnS Zoq ZmJ (.cons (cvs (ov Y)<|ZB Y)<|.cons (cvs (ov Y)<|ZB Y) .nil) Y)<|Rx Y (Zz (row:= [_,_,_,_]) 1 Y ZmJ Y tZ_39)<|Rx Y (Zk (ov Y) (ov Y) (Zo ZkA Y) Y Y Y (Nat.le_of_ble_eq_true Y) (Zd Y) Y)<|Za<|I1 (fun Mark=>⟨[(1,.int .i64 den),(4,.bool known),(5,.rp [.int .i64 i.Kind,.str i.Name,.str i.Track,.int .i64 i.Places,.int .i64 i.Low,.int .i64 i.High,.int .i64 i.Steps,.sl 136 (List.map R136 i.Zones),.int .i64 i.Op,.int .i64 i.N,.bool i.Latch,.int .i64 i.Size] 0),(7,.rp [.bool m.Lit,.bool m.Some,.int .i64 m.N,.int .i64 m.Count,.sl 3 (List.map R3 m.Tape)] 0),(8,.rp [.int .i64 s.At,.int .i64 s.N,.int .i64 s.Mark] 0),(10,.ptr 0 1 0 0),(11,.ptr 1 1 0 0)],[some ⟨39,[[.str [],.int .i64 0,.bool false,.int .i64 0]]⟩,some ⟨39,[[.str [45,45,45],.int .i64 0,.bool false,.int .i64 Mark]]⟩]⟩) h (fun h=>?_) fun Mark h=>?_
 ·
  refine K7 1 4 5 7 8 10 11 Y<|Tr<|Rm Y<|Za<|If h Y (fun h=>?_) fun h=>?_
  ·
   exact K7 1 4 5 7 8 10 11 Y<|Zw<|Rq Y (Ze (ov Y) ZgV)<|Rq Y (Zc (ov Y) tS3 Y)<|Rq Y (Zb (ov Y) Y Y Zqh)<|Rx Y (Zk (ov Y) (ov Y) (Zp tS3) Y Y Y (Nat.le_of_ble_eq_true Y) (Zd Y) Y)<|Za<|⟨_,h,ES [some 0,some 1]⟩
  ·
   exact Zh<|⟨_,h,ES [some 0,some 1]⟩
 ·
  refine I1 (fun f=>⟨[(10,.ptr 0 1 0 0),(11,.ptr 1 1 0 0)],[some ⟨39,[[.str [],.int .i64 0,.bool false,.int .i64 0]]⟩,some ⟨39,[[.str f.Text,.int .i64 f.Needle,.bool f.Lit,.int .i64 f.Mark]]⟩]⟩) h (fun h=>?_) fun f h=>?_
  ·
   refine Tr<|Rq Y (Ze (ov Y) JK)<|Rq Y (Zc (ov Y) tS3 Y)<|Za<|Zl<|K8 1 4 5 7 8 10 11 20 Y<|Tr<|R2 ZT Y<|Ra Y<|Za<|K9 1 4 5 7 8 10 11 20 21 Y<|If h Y (fun h=>?_) fun h=>?_
   ·
    refine K6 1 4 5 8 10 11 Y<|Tr<|Rm Y<|Za<|K6 1 5 8 10 11 23 Y<|If h Y (fun h=>?_) fun h=>?_
    ·
     exact K5 1 5 8 10 11 Y<|Zw<|Rq Y (Ze (ov Y) Zcq)<|Rq Y (Zc (ov Y) tS3 Y)<|Rm Y<|Rq Y (Ze (ov Y) ZeK)<|Rq Y (Zc (ov Y) tS3 Y)<|bE h fun y h_y h=>Rq Y (Zn (Zc9 h_y)<|.cons (ov Y) (.b Y)<|.cons (ov Y) (.b Y)<|.cons (ov Y) (.b Y) .nil)<|Rq Y (Zb (ov Y) Y Y Zcm)<|Rx Y (Zk (ov Y) (ov Y) (Zp tS9) Y Y Y (Nat.le_of_ble_eq_true Y) (Zd Y) Y)<|Za<|⟨_,h,ES [some 0,some 1]⟩
    ·
     exact Zh<|⟨_,h,ES [some 0,some 1]⟩
   ·
    refine K8 1 4 5 7 8 10 11 20 Y<|Tr<|R2 ZT Y<|Ra Y<|Za<|K9 1 4 5 7 8 10 11 20 31 Y<|If h Y (fun h=>?_) fun h=>?_
    ·
     refine K5 4 5 8 10 11 Y<|Tr<|Rm Y<|Za<|K5 5 8 10 11 33 Y<|If h Y (fun h=>?_) fun h=>?_
     ·
      exact K4 5 8 10 11 Y<|ZbM (cw:=md0) (by kernel_rfl)<|Dq 0 Y (Zr (ov Y) Zcj Y Y)<|Dq 1 Y (Ze (ov Y) Zcq)<|Dq 2 Y (Zc (ov Y) tS3 Y)<|bE h fun y2 h_y2 h=>Dq 3 Y (Zn (Zkp h_y2)<|.cons (ov Y) (.aggB Y)<|.cons (ov Y) (.b Y) .nil)<|Dq 4 Y (Zr (ov Y) Zcj Y Y)<|Dq 5 Y (Ze (ov Y) Zcq)<|Dq 6 Y (Zc (ov Y) tS3 Y)<|bE h fun y3 h_y3 h=>Dq 7 Y (Zn (ZlI h_y3)<|.cons (ov Y) (.aggB Y)<|.cons (ov Y) (.b Y) .nil)<|Dq 8 Y (Zb (ov Y) Y Y Zos)<|Do 9 Y (Zk (ov Y) (ov Y) (Zp tS3) Y Y Y (Nat.le_of_ble_eq_true Y) (Zd Y) Y)<|Dq 10 Y (Zb (ov Y) Y Y Zcm)<|Do 11 Y (Zk (ov Y) (ov Y) (Zp tS9) Y Y Y (Nat.le_of_ble_eq_true Y) (Zd Y) Y)<|Dd<|⟨_,h,ES [some 0,some 1]⟩
     ·
      exact Zh<|⟨_,h,ES [some 0,some 1]⟩
    ·
     refine K7 1 4 5 7 10 11 20 Y<|Tr<|R2 ZT Y<|Ra Y<|Za<|K8 1 4 5 7 10 11 20 44 Y<|If h Y (fun h=>?_) fun h=>?_
     ·
      refine K4 4 7 10 11 Y<|Tr<|Rq Y (Ze (ov Y) ZaF)<|Rq Y (Zc (ov Y) tS4 Y)<|Rq Y (Zb (ov Y) Y Y Zn5)<|Rx Y (Zk (ov Y) (ov Y) (Zp tS4) Y Y Y (Nat.le_of_ble_eq_true Y) (Zd Y) Y)<|Za<|K4 4 7 10 11 Y<|Tr<|Rq Y (Ze (ov Y) ZaF)<|Rq Y (Zc (ov Y) tS4 Y)<|Za<|K4 4 10 11 50 Y<|If h Y (fun h=>?_) fun h=>?_
      ·
       exact K2 10 11 Y<|Zw<|Rq Y (Zb (ov Y) Y Y Zcm)<|Rx Y (Zk (ov Y) (ov Y) (Zp tS9) Y Y Y (Nat.le_of_ble_eq_true Y) (Zd Y) Y)<|Za<|⟨_,h,ES [some 0,some 1]⟩
      ·
       refine K3 4 10 11 Y<|Tr<|Rm Y<|Za<|K3 10 11 52 Y<|If h Y (fun h=>?_) fun h=>?_
       ·
        exact K2 10 11 Y<|Zw<|Rq Y (Zb (ov Y) Y Y Zcm)<|Rx Y (Zk (ov Y) (ov Y) (Zp tS9) Y Y Y (Nat.le_of_ble_eq_true Y) (Zd Y) Y)<|Za<|⟨_,h,ES [some 0,some 1]⟩
       ·
        exact Zh<|⟨_,h,ES [some 0,some 1]⟩
     ·
      refine K6 1 5 7 10 11 20 Y<|Tr<|R2 ZT Y<|Ra Y<|Za<|K7 1 5 7 10 11 20 54 Y<|If h Y (fun h=>?_) fun h=>?_
      ·
       refine K5 1 5 7 10 11 Y<|Tr<|Rq Y (Ze (ov Y) Zf1)<|Rq Y (Zc (ov Y) tS4 Y)<|Za<|K6 1 5 7 10 11 57 Y<|If h Y (fun h=>?_) fun h=>?_
       ·
        exact K5 1 5 7 10 11 Y<|Zw<|Rq Y (Ze (ov Y) ZgI)<|Rq Y (Zc (ov Y) tS3 Y)<|Rm Y<|Rq Y (Ze (ov Y) ZeK)<|Rq Y (Zc (ov Y) tS3 Y)<|bE h fun y4 h_y4 h=>Rq Y (Zn (Zc9 h_y4)<|.cons (ov Y) (.b Y)<|.cons (ov Y) (.b Y)<|.cons (ov Y) (.b Y) .nil)<|Rq Y (Zb (ov Y) Y Y Zcm)<|Rx Y (Zk (ov Y) (ov Y) (Zp tS9) Y Y Y (Nat.le_of_ble_eq_true Y) (Zd Y) Y)<|Za<|⟨_,h,ES [some 0,some 1]⟩
       ·
        exact Zh<|⟨_,h,ES [some 0,some 1]⟩
      ·
       refine K6 1 5 7 10 11 20 Y<|Tr<|R2 ZT Y<|Ra Y<|Za<|K7 1 5 7 10 11 20 65 Y<|If h Y (fun h=>?_) fun h=>?_
       ·
        exact K3 7 10 11 Y<|ZbM (cw:=md0) (by kernel_rfl)<|Dq 0 Y (Ze (ov Y) ZaF)<|Dq 1 Y (Zc (ov Y) tS4 Y)<|Dq 2 Y (Ze (ov Y) ZgP)<|Dq 3 Y (Zc (ov Y) tS3 Y)<|bE h fun y5 h_y5 h=>Dq 4 Y (Zn (ZfI h_y5)<|.cons (ov Y) (.b Y) .nil)<|Dq 5 Y (Zb (ov Y) Y Y Zn5)<|Do 6 Y (Zk (ov Y) (ov Y) (Zp tS4) Y Y Y (Nat.le_of_ble_eq_true Y) (Zd Y) Y)<|Dq 7 Y (Zb (ov Y) Y Y Zcm)<|Do 8 Y (Zk (ov Y) (ov Y) (Zp tS9) Y Y Y (Nat.le_of_ble_eq_true Y) (Zd Y) Y)<|Dd<|⟨_,h,ES [some 0,some 1]⟩
       ·
        refine K6 1 5 7 10 11 20 Y<|Tr<|R2 ZT Y<|Ra Y<|Za<|K6 1 5 7 10 11 74 Y<|If h Y (fun h=>?_) fun h=>?_
        ·
         refine K5 1 5 7 10 11 Y<|Tr<|Rq Y (Ze (ov Y) JW)<|Rq Y (Zc (ov Y) ZeC Y)<|Rl tZ_3 J3 Y<|Rm Y<|Za<|Zl<|?_
         obtain⟨r1,hl1,ho1⟩:=Xa h
         refine L2 (fun Text i2=>⟨[(1,.int .i64 den),(5,.rp [.int .i64 i.Kind,.str i.Name,.str i.Track,.int .i64 i.Places,.int .i64 i.Low,.int .i64 i.High,.int .i64 i.Steps,.sl 136 (List.map R136 i.Zones),.int .i64 i.Op,.int .i64 i.N,.bool i.Latch,.int .i64 i.Size] 0),(10,.ptr 0 1 0 0),(11,.ptr 1 1 0 0),(77,.sl 3 (List.map R3 m.Tape)),(78,.int .i64 (m.Tape.length:Int)),(79,.int .i64 i2)],[some ⟨39,[[.str [],.int .i64 0,.bool false,.int .i64 0]]⟩,some ⟨39,[[.str Text,.int .i64 0,.bool false,.int .i64 Mark]]⟩]⟩) hl1 (ES [some 0,some 1]) fun n1 Text i2 h=>?_
         unfold Zbk at h
         refine Tr<|R2 ZV Y<|Za<|Zm<|If h Y (fun h=>?_) fun h=>?_
         ·
          refine Zh<|Zm<|Zl<|K7 1 5 10 11 77 78 79 Y<|Tr<|Rm Y<|bE h fun x h_x h=>Rq Y (ZU (ov Y) (ov Y) J3 h_x)<|Rq Y (Zc (ov Y) tS3 Y)<|Ra Y<|Ra Y<|Za<|K9 1 5 10 11 12 13 77 78 79 Y<|Tr<|Rm Y<|R2 ZT Y<|Za<|K9 1 5 10 11 13 77 78 79 85 Y<|If h Y (fun h=>?_) fun h=>?_
          ·
           exact K8 1 5 10 11 13 77 78 79 Y<|Zw<|Rm Y<|Rm Y<|Rq Y (Ze (ov Y) ZeK)<|Rq Y (Zc (ov Y) tS3 Y)<|bE h fun y6 h_y6 h=>Rq Y (Zn (Zc9 h_y6)<|.cons (ov Y) (.b Y)<|.cons (ov Y) (.b Y)<|.cons (ov Y) (.b Y) .nil)<|Rq Y (Zb (ov Y) Y Y Zcm)<|Rx Y (Zk (ov Y) (ov Y) (Zp tS9) Y Y Y (Nat.le_of_ble_eq_true Y) (Zd Y) Y)<|Za<|K7 1 5 10 11 77 78 79 Y<|Zw<|R2 QB Y<|Rm Y<|Za<|⟨_,h,ES [some 0,some 1]⟩
          ·
           exact K8 1 5 10 11 13 77 78 79 Y<|ZbM (cw:=md0) (by kernel_rfl)<|Dq 0 Y (Zb (ov Y) Y Y Zcm)<|Dq 1 Y (Zi (ov Y) Y Y Y tS9 Y)<|D1 2 Zf Y<|D1 3 Zf Y<|Dq 4 Y (Ze (ov Y) ZeK)<|Dq 5 Y (Zc (ov Y) tS3 Y)<|bE h fun y7 h_y7 h=>Dq 6 Y (Zn (Zc9 h_y7)<|.cons (ov Y) (.b Y)<|.cons (ov Y) (.b Y)<|.cons (ov Y) (.b Y) .nil)<|bE h fun s2 h_s2 h=>Dq 7 Y (Zgy (ov Y) (ov Y) h_s2)<|bE h fun s3 h_s3 h=>Dq 8 Y (Zgy (ov Y) (ov Y) h_s3)<|Dq 9 Y (Zb (ov Y) Y Y Zcm)<|Do 10 Y (Zk (ov Y) (ov Y) (Zp tS9) Y Y Y (Nat.le_of_ble_eq_true Y) (Zd Y) Y)<|Dd<|K7 1 5 10 11 77 78 79 Y<|Zw<|R2 QB Y<|Rm Y<|Za<|⟨_,h,ES [some 0,some 1]⟩
         ·
          refine ZL<|?_
          replace h:=lx h▸ho1
          exact⟨_,h,ES [some 0,some 1]⟩
        ·
         exact Zh<|⟨_,h,ES [some 0,some 1]⟩
  ·
   refine Tr<|Rq Y (ZG (ov Y) Y Y Y ZkA Y Y)<|Rx Y (Zk (ov Y) (ov Y) (Zo ZkA Y) Y Y Y (Nat.le_of_ble_eq_true Y) (Zd Y) Y)<|Za<|?_
   obtain rfl:=rt h
   exact Zj (Zu Y (.one<|.agg Y Y Y Y ZkA Y Y<|pwB Y))
theorem ZkH{p:api_Panel}{l:List api_Track}{s:api_PanelState}{r:(List api_Face)}(h:Zer p l s=some r):
 CSpec Tryz.prog gl0 58 [.agg [.sl 49 (List.map R49 p.Instruments)],.sl 54 (List.map R54 l),.agg [.int .i64 s.Frame,.sl 99 (List.map R99 s.Memos)]] (.sl 39 (List.map R39 r)):=by
 unfold Zer at h
 replace h:=ZO h
 refine So Tryz.func58 Y fun w0 A=>Tr<|Rq Y (ZP (cva<|ov Y) Y tZ_24 Y)<|Rq Y (ZP (cva<|ov Y) Y tZ_44 Y)<|Ra Y<|Za<|K3 1 3 5 Y<|Tr<|Ra Y<|Za<|I1 (fun out=>⟨[(7,.own 0 out.length)],[some ⟨39,List.map R39 out⟩]⟩) h (fun h=>?_) fun out h=>?_
 ·
  refine Tr<|Rq Y (Ze (ov Y) Zbj)<|Rq Y (Zc (ov Y) Zf0 Y)<|Rl tZ_49 ZcI Y<|Rm Y<|Za<|Zl<|?_
  obtain⟨r1,hl1,ho1⟩:=Xa h
  refine L2 (fun out2 i=>⟨[(1,.sl 54 (List.map R54 l)),(5,.rp [.int .i64 s.Frame,.sl 99 (List.map R99 s.Memos)] 0),(7,.own 0 out2.length),(15,.sl 49 (List.map R49 p.Instruments)),(16,.int .i64 (p.Instruments.length:Int)),(17,.int .i64 i)],[some ⟨39,List.map R39 out2⟩]⟩) hl1 (ES [none]) fun n1 out2 i h=>?_
  unfold ZbI at h
  refine Tr<|R2 ZV Y<|Za<|Zm<|If h Y (fun h=>?_) fun h=>?_
  ·
   refine Zh<|Zm<|Zl<|K6 1 5 7 15 16 17 Y<|Tr<|Rm Y<|bE h fun x h_x h=>Rq Y (ZU (ov Y) (ov Y) ZcI h_x)<|Rq Y (Zr (ov Y) Zcj Y Y)<|Rx Y (Zz (row:= [_,_,_,_,_,_,_,_,_,_,_,_]) 1 Y Zlw Y tZ_49)<|Ra Y<|Rx Y (Zk (ov Y) (ov Y) (Zo Zcj Y) Y Y Y (Nat.le_of_ble_eq_true Y) (Zd Y) Y)<|Za<|K8 1 5 7 8 9 15 16 17 Y<|Tr<|Rm Y<|Rq Y (Zb (ov Y) Y Y ZhO)<|Rq Y (Zi (ov Y) Y Y Y tS9 Y)<|bE h fun y h_y h=>Rq Y (Zn (Zfp h_y)<|.cons (ov Y) (.b Y)<|.cons (ov Y) (.b Y) .nil)<|Rm Y<|Rq Y (Zq (ov Y) Y)<|Rq Y (Zq (ov Y) Y)<|Rx Y (Zz (row:= [_,_,_,_]) 2 Y Zlo Y tZ_54)<|Rx Y (Zk (ov Y) (ov Y) (Zo Zf7 Y) Y Y Y (Nat.le_of_ble_eq_true Y) (Zd Y) Y)<|Ra Y<|Za<|K9 1 5 7 8 9 10 15 16 17 Y<|Tr<|Rq Y (QU (ys:= [_,_,_]) ZjY ZjL Zft .nil Y)<|Rx Y (Zz (row:= [_,_,_]) 3 Y Zft Y tZ_56)<|Rx Y (Zk (ov Y) (ov Y) (Zo Zai Y) Y Y Y (Nat.le_of_ble_eq_true Y) (Zd Y) Y)<|Ra Y<|Za<|I2 (fun x2 known=>⟨[(1,.sl 54 (List.map R54 l)),(5,.rp [.int .i64 s.Frame,.sl 99 (List.map R99 s.Memos)] 0),(7,.own 0 out2.length),(8,.int .i64 i),(9,.ptr 1 1 0 0),(10,.ptr 2 1 0 0),(12,.ptr 3 1 0 0),(13,.bool known),(15,.sl 49 (List.map R49 p.Instruments)),(16,.int .i64 (p.Instruments.length:Int)),(17,.int .i64 i)],[some ⟨39,List.map R39 out2⟩,some ⟨49,[[.int .i64 x.Kind,.str x.Name,.str x.Track,.int .i64 x.Places,.int .i64 x.Low,.int .i64 x.High,.int .i64 x.Steps,.sl 136 (List.map R136 x.Zones),.int .i64 x.Op,.int .i64 x.N,.bool x.Latch,.int .i64 x.Size]]⟩,some ⟨54,[[.str y.1.Name,.int .i64 y.1.Series.Den,.sl 56 (List.map R56 y.1.Series.Samples),.int .i64 y.1.Long]]⟩,some ⟨56,[[.int .i64 x2.At,.int .i64 x2.N,.int .i64 x2.Mark]]⟩]⟩) h (fun h=>?_) fun x2 known h=>?_
   ·
    refine K11 1 5 7 8 9 10 12 13 15 16 17 Y<|Tr<|Rq Y (Ze (ov Y) Qi)<|Rq Y (Zc (ov Y) tS3 Y)<|R2 Zaj Y<|Za<|K12 1 5 7 8 9 10 12 13 15 16 17 32 Y<|If h Y (fun h=>?_) fun h=>?_
    ·
     exact K11 1 5 7 8 9 10 12 13 15 16 17 Y<|Zw<|Rq Y (ZG (ov Y) Y Y Y Zf7 Y Y)<|Rq Y (Ze (ov Y) Qi)<|Rq Y (Zc (ov Y) tS3 Y)<|bE h fun y2 h_y2 h=>Rq Y (Zn (Zgf h_y2)<|.cons (ov Y) (.aggB Y)<|.cons (ov Y) (.b Y) .nil)<|Rm Y<|Rq Y (Zq (ov Y) Y)<|Rq Y (Zq (ov Y) Y)<|Rx Y (Zk (ov Y) (ov Y) (Zo Zai Y) Y Y Y (Nat.le_of_ble_eq_true Y) (Zd Y) Y)<|Ra Y<|Za<|⟨_,h,ES [some 0,some 1,some 2,some 3]⟩
    ·
     exact Zh<|⟨_,h,ES [some 0,some 1,some 2,some 3]⟩
   ·
    exact ZbM (cw:=md0) (by kernel_rfl)<|D1 0 Zf Y<|Dq 1 Y (ZG (ov Y) Y Y Y Zcj Y Y)<|Dq 2 Y (Zb (ov Y) Y Y ZgJ)<|Dq 3 Y (Zb (ov Y) Y Y Zlp)<|Dq 4 Y (Zi (ov Y) Y Y Y tS3 Y)<|Dq 5 Y (Ze (ov Y) Jn)<|Dq 6 Y (Zc (ov Y) ZdM Y)<|D1 7 Zf Y<|bE h fun x3 h_x3 h=>Dq 8 Y (ZU (ov Y) (ov Y) ZcA h_x3)<|Dq 9 Y (Zr (ov Y) ZdS Y Y)<|Dq 10 Y (ZG (ov Y) Y Y Y Zai Y Y)<|D1 11 Zf Y<|bE h fun y3 h_y3 h=>Dq 12 Y (Zn (ZlJ h_y3)<|.cons (ov Y) (.aggB Y)<|.cons (ov Y) (.b Y)<|.cons (ov Y) (.aggB Y)<|.cons (ov Y) (.aggB Y)<|.cons (ov Y) (.b Y) .nil)<|Zmb 13 (.sl 39<|List.map R39 ([y3]:List api_Face)) Y (by kernel_rfl) Y Y (ZbU Zkh (.cons (cva<|ov Y) Y (pwD Y) .nil) Y Y)<|bE h fun l2 h_l2 h=>Do 14 Y (Jw (ov Y) (XW (ov Y) tZ_39) Zkh Y Y Y (fun _=>Zd Y) Y h_l2)<|D1 15 Qp Y<|Dd<|K6 1 5 7 15 16 17 Y<|Zw<|R2 QB Y<|Rm Y<|Za<|⟨_,h,ES [some 0]⟩
  ·
   refine ZL<|?_
   replace h:=lx h▸ho1
   exact⟨_,h,ES [some 0]⟩
 ·
  refine Tr<|Rm Y<|Ra Y<|Za<|?_
  obtain rfl:=rt h
  exact Zj (Zu Y (.one<|.tmp Y<|View.ownM Y Y D39))
theorem Zei{r_:ref8_Replay}{r:(List api_Face)}(h:ZbQ r_=some r):
 GSpec Tryz.prog gl0 67 [.ptr 0 1 0 0] [some ⟨118,[[.sl 49 (List.map R49 r_.p.Instruments),.sl 54 (List.map R54 r_.l),.int .i64 r_.keep,.int .i64 r_.state.Frame,.sl 99 (List.map R99 r_.state.Memos),.own 1 r_.kept.length,.own 2 r_.marks.length]]⟩,some ⟨44,List.map R44 r_.kept⟩,some ⟨120,List.map R120 r_.marks⟩] (.sl 39 (List.map R39 r)) [some ⟨118,[[.sl 49 (List.map R49 r_.p.Instruments),.sl 54 (List.map R54 r_.l),.int .i64 r_.keep,.int .i64 r_.state.Frame,.sl 99 (List.map R99 r_.state.Memos),.own 3 r_.kept.length,.own 4 r_.marks.length]]⟩,none,none,some ⟨44,List.map R44 r_.kept⟩,some ⟨120,List.map R120 r_.marks⟩]:=by
 unfold ZbQ at h
 replace h:=ZO h
 refine Z1 (by kernel_rfl) Tryz.func67 Y Y<|?_
 intro w0 A W φ0
 refine X0 (Ent.sel [some 0,some 1,some 2,some 1,some 2] (sr 0 Y (.ptr (r':=0) _ _ _ Y) sn) (.cons Y (ro1 (by exact tZ_118.symm)<|rlc (.dat Y)<|rlc (.dat Y)<|rlc (.dat Y)<|rlc (.dat Y)<|rlc (.dat Y)<|rlc (.own (r':=3) _ Y)<|rlc (.own (r':=4) _ Y) rln)<|.dead<|.dead<|.cons Y (roM D44)<|.cons Y (roM D120) .nil) Y Y)<|Tr<|Ra Y<|Za<|Td md0<|D1 0 Zf Y<|Dq 1 Y (Zg (ov Y) Y Y)<|Dq 2 Y (Zb (ov Y) Y Y Zli)<|Dq 3 Y (ZG (ov Y) Y Y Y Zd7 Y Y)<|D1 4 Zf Y<|Dq 5 Y (Zg (ov Y) Y Y)<|Dq 6 Y (Zb (ov Y) Y Y Zng)<|Dq 7 Y (Zi (ov Y) Y Y Y ZmM Y)<|D1 8 Zf Y<|Dq 9 Y (Zg (ov Y) Y Y)<|Dq 10 Y (Zb (ov Y) Y Y ZaE)<|Dq 11 Y (ZG (ov Y) Y Y Y QR Y Y)<|bE h fun y h_y h=>Dq 12 Y (Zn (ZkH h_y)<|.cons (ov Y) (.aggB Y)<|.cons (ov Y) (.b Y)<|.cons (ov Y) (.aggB Y) .nil)<|D1 13 Qp Y<|Dd<|?_
 obtain rfl:=rt h
 exact Zj<|XB [some 0,some 1,some 2,some 3,some 4] Y (.cons (.tmp Y) .nil) (.cons Y (ro1 (by exact tZ_118.symm)<|rlc (.dat Y)<|rlc (.dat Y)<|rlc (.dat Y)<|rlc (.dat Y)<|rlc (.dat Y)<|rlc (.own _ Y)<|rlc (.own _ Y) rln)<|.dead<|.dead<|.cons Y (roM D44)<|.cons Y (roM D120) .nil) Y Y<|.dat Y
theorem ZcU{s1:List api_Face}{s2:List api_Face}{r:Bool}(h:Qz s1 s2=some r):
 CSpec Tryz.prog gl0 12 [.sl 39 (List.map R39 s1),.sl 39 (List.map R39 s2)] (.bool r):=by
 unfold Qz at h
 replace h:=ZO h
 refine So Tryz.func12 Y fun w0 A=>Tr<|Ra Y<|Za<|Zm<|K2 0 1 Y<|Tr<|Rm Y<|Rl tZ_39 Zkh Y<|Rm Y<|Rl tZ_39 Zkh Y<|R2 Qo Y<|Za<|K3 0 1 10 Y<|If h Y (fun h=>?_) fun h=>?_
 ·
  refine K0<|Tr<|Ra Y<|Za<|?_
  obtain rfl:=rt h
  exact Zj (Zu Y (.one<|rb Y))
 ·
  refine Zh<|J0 (fun j=>(.inr j)) ⟨[],[]⟩ h (fun h=>?_) fun h=>?_
  ·
   refine K2 0 1 Y<|Tr<|Rm Y<|Rl tZ_39 Zkh Y<|Rm Y<|Za<|Zl<|?_
   obtain⟨r1,hl1,ho1⟩:=Xa h
   refine L1 (fun i=>⟨[(0,.sl 39 (List.map R39 s1)),(1,.sl 39 (List.map R39 s2)),(12,.int .i64 (s1.length:Int)),(13,.int .i64 i)],[]⟩) hl1 (ES []) fun n1 i h=>?_
   unfold Z4 at h
   refine Tr<|R2 ZV Y<|Za<|Zm<|If h Y (fun h=>?_) fun h=>?_
   ·
    refine Zh<|Zm<|Zl<|K4 0 1 12 13 Y<|Tr<|Rm Y<|Ra Y<|Za<|K5 0 1 5 12 13 Y<|Td md0<|D1 0 Zf Y<|D1 1 Zf Y<|bE h fun x h_x h=>Dq 2 Y (ZU (ov Y) (ov Y) Zkh h_x)<|Dq 3 Y (Zr (ov Y) ZkA Y Y)<|D1 4 Zf Y<|D1 5 Zf Y<|bE h fun x2 h_x2 h=>Dq 6 Y (ZU (ov Y) (ov Y) Zkh h_x2)<|Dq 7 Y (Zr (ov Y) ZkA Y Y)<|Dq 8 Y (ZnI ZpB (ov Y) (ov Y) (.aggB Y) (.aggB Y) Y Y)<|Dd<|K5 0 1 12 13 24 Y<|If h Y (fun h=>?_) fun h=>?_
    ·
     refine K0<|Tr<|Ra Y<|Za<|?_
     replace h:=lx h▸ho1
     obtain rfl:=rt h
     exact Zj (Zu Y (.one<|rb Y))
    ·
     exact Zh<|K4 0 1 12 13 Y<|Zw<|R2 QB Y<|Rm Y<|Za<|⟨_,h,ES []⟩
   ·
    refine ZL<|?_
    replace h:=lx h▸ho1
    exact⟨(),h,ES []⟩
  ·
   replace h:=elr h
   replace h:=t0i h
   refine Tr<|Ra Y<|Za<|?_
   obtain rfl:=rt h
   exact Zj (Zu Y (.one<|rb Y))
theorem Zeg{r_:panel_Replay}{r:(List Int)}(h:Zar r_=some r):
 GSpec Tryz.prog gl0 68 [.ptr 0 1 0 0] [some ⟨91,[[.sl 49 (List.map R49 r_.p.Instruments),.sl 54 (List.map R54 r_.l),.int .i64 r_.keep,.int .i64 r_.state.Frame,.sl 99 (List.map R99 r_.state.Memos),.own 1 r_.kept.length,.own 2 r_.marks.length]]⟩,some ⟨44,List.map R44 r_.kept⟩,some ⟨120,List.map R120 r_.marks⟩] (.sl 3 (List.map R3 r)) [some ⟨91,[[.sl 49 (List.map R49 r_.p.Instruments),.sl 54 (List.map R54 r_.l),.int .i64 r_.keep,.int .i64 r_.state.Frame,.sl 99 (List.map R99 r_.state.Memos),.own 3 r_.kept.length,.own 4 r_.marks.length]]⟩,none,none,some ⟨44,List.map R44 r_.kept⟩,some ⟨120,List.map R120 r_.marks⟩]:=by
 unfold Zar at h
 replace h:=ZO h
 refine Z1 (by kernel_rfl) Tryz.func68 Y Y<|?_
 intro w0 A W φ0
 refine X0 (Ent.sel [some 0,some 1,some 2,some 1,some 2] (sr 0 Y (.ptr (r':=0) _ _ _ Y) sn) (.cons Y (ro1 (by exact tZ_91.symm)<|rlc (.dat Y)<|rlc (.dat Y)<|rlc (.dat Y)<|rlc (.dat Y)<|rlc (.dat Y)<|rlc (.own (r':=3) _ Y)<|rlc (.own (r':=4) _ Y) rln)<|.dead<|.dead<|.cons Y (roM D44)<|.cons Y (roM D120) .nil) Y Y)<|Tr<|Ra Y<|Za<|K1 0 Y<|Tr<|Ra Y<|Za<|I1 (fun out=>⟨[(3,.own 5 out.length)],[some ⟨91,[[.sl 49 (List.map R49 r_.p.Instruments),.sl 54 (List.map R54 r_.l),.int .i64 r_.keep,.int .i64 r_.state.Frame,.sl 99 (List.map R99 r_.state.Memos),.own 3 r_.kept.length,.own 4 r_.marks.length]]⟩,none,none,some ⟨44,List.map R44 r_.kept⟩,some ⟨120,List.map R120 r_.marks⟩,some ⟨3,List.map R3 out⟩]⟩) h (fun h=>?_) fun out h=>?_
 ·
  refine Tr<|Rm Y<|Rq Y (Zg (ov Y) Y Y)<|Rq Y (Zb (ov Y) Y Y QX)<|Rq Y (Zi (ov Y) Y Y Y Jd Y)<|Rq Y (Zbs (ov Y) Y Y XE)<|Rm Y<|Za<|Zl<|?_
  obtain⟨r1,hl1,ho1⟩:=Xa h
  refine L2 (fun out2 i=>⟨[(3,.own 5 out2.length),(9,.own 3 r_.kept.length),(10,.int .i64 (r_.kept.length:Int)),(11,.int .i64 i)],[some ⟨91,[[.sl 49 (List.map R49 r_.p.Instruments),.sl 54 (List.map R54 r_.l),.int .i64 r_.keep,.int .i64 r_.state.Frame,.sl 99 (List.map R99 r_.state.Memos),.own 3 r_.kept.length,.own 4 r_.marks.length]]⟩,none,none,some ⟨44,List.map R44 r_.kept⟩,some ⟨120,List.map R120 r_.marks⟩,some ⟨3,List.map R3 out2⟩]⟩) hl1 (ES [some 0,some 1,some 2,some 3,some 4,none]) fun n1 out2 i h=>?_
  unfold Zb5 at h
  refine Tr<|R2 ZV Y<|Za<|Zm<|If h Y (fun h=>?_) fun h=>?_
  ·
   exact Zh<|Zm<|Zl<|K4 3 9 10 11 Y<|Tr<|bE h fun x h_x h=>Rq Y (ZaY (ov Y) (ov Y) XE Y Y h_x)<|Rq Y (ZfH (ov Y) Y Y h_x QR Y Y)<|Rx Y (Zz (row:= [_,_]) 6 Y ZcT Y tZ_44)<|Rx Y (Zk (ov Y) (ov Y) (Zo QR Y) Y Y Y (Nat.le_of_ble_eq_true Y) (Zd Y) Y)<|Za<|K5 3 5 9 10 11 Y<|Zw<|Rm Y<|Rq Y (Zb (ov Y) Y Y Qi)<|Rq Y (Zi (ov Y) Y Y Y tS3 Y)<|R_q (.sl 3<|List.map R3 ([x.Frame]:List Int)) Y (ZbU J3 (.cons (cvs (ov Y)<|ZB Y) Y (.cons (.b Y) .nil) .nil) Y Y)<|bE h fun l h_l h=>Rx Y (Jw (ov Y) (XW (ov Y) tZ_3) J3 Y Y Y (fun _=>Zd Y) Y h_l)<|Ra Y<|Za<|K4 3 9 10 11 Y<|Zw<|R2 QB Y<|Rm Y<|Za<|⟨_,h,ES [some 0,some 1,some 2,some 3,some 4,some 5]⟩
  ·
   refine ZL<|?_
   replace h:=lx h▸ho1
   exact⟨_,h,ES [some 0,some 1,some 2,some 3,some 4,some 5]⟩
 ·
  refine Tr<|Rm Y<|Ra Y<|Za<|?_
  obtain rfl:=rt h
  exact X0 (Ent.sel [some 0,some 1,some 2,some 3,some 4,none] (sr 2 Y (Za1 Y Y Y D3)<|sr 3 Y (Za1 Y Y Y D3)<|sr 21 Y (Za1 Y Y Y D3) sn) (.cons Y (ro1 (by exact tZ_91.symm)<|rlc (.dat Y)<|rlc (.dat Y)<|rlc (.dat Y)<|rlc (.dat Y)<|rlc (.dat Y)<|rlc (.own (r':=3) _ Y)<|rlc (.own (r':=4) _ Y) rln)<|.dead<|.dead<|.cons Y (roM D44)<|.cons Y (roM D120)<|.row 3 .nil) Y Y)<|Zj<|XB [some 0,some 1,some 2,some 3,some 4] Y (.cons (.tmp Y) .nil) (.cons Y (ro1 (by exact tZ_91.symm)<|rlc (.dat Y)<|rlc (.dat Y)<|rlc (.dat Y)<|rlc (.dat Y)<|rlc (.dat Y)<|rlc (.own _ Y)<|rlc (.own _ Y) rln)<|.dead<|.dead<|.cons Y (roM D44)<|.cons Y (roM D120) .nil) Y Y<|.dat Y
theorem ZeN{r_:ref8_Replay}{r:(List Int)}(h:ZaI r_=some r):
 GSpec Tryz.prog gl0 69 [.ptr 0 1 0 0] [some ⟨118,[[.sl 49 (List.map R49 r_.p.Instruments),.sl 54 (List.map R54 r_.l),.int .i64 r_.keep,.int .i64 r_.state.Frame,.sl 99 (List.map R99 r_.state.Memos),.own 1 r_.kept.length,.own 2 r_.marks.length]]⟩,some ⟨44,List.map R44 r_.kept⟩,some ⟨120,List.map R120 r_.marks⟩] (.sl 3 (List.map R3 r)) [some ⟨118,[[.sl 49 (List.map R49 r_.p.Instruments),.sl 54 (List.map R54 r_.l),.int .i64 r_.keep,.int .i64 r_.state.Frame,.sl 99 (List.map R99 r_.state.Memos),.own 3 r_.kept.length,.own 4 r_.marks.length]]⟩,none,none,some ⟨44,List.map R44 r_.kept⟩,some ⟨120,List.map R120 r_.marks⟩]:=by
 unfold ZaI at h
 replace h:=ZO h
 refine Z1 (by kernel_rfl) Tryz.func69 Y Y<|?_
 intro w0 A W φ0
 refine X0 (Ent.sel [some 0,some 1,some 2,some 1,some 2] (sr 0 Y (.ptr (r':=0) _ _ _ Y) sn) (.cons Y (ro1 (by exact tZ_118.symm)<|rlc (.dat Y)<|rlc (.dat Y)<|rlc (.dat Y)<|rlc (.dat Y)<|rlc (.dat Y)<|rlc (.own (r':=3) _ Y)<|rlc (.own (r':=4) _ Y) rln)<|.dead<|.dead<|.cons Y (roM D44)<|.cons Y (roM D120) .nil) Y Y)<|Tr<|Ra Y<|Za<|K1 0 Y<|Tr<|Ra Y<|Za<|I1 (fun out=>⟨[(3,.own 5 out.length)],[some ⟨118,[[.sl 49 (List.map R49 r_.p.Instruments),.sl 54 (List.map R54 r_.l),.int .i64 r_.keep,.int .i64 r_.state.Frame,.sl 99 (List.map R99 r_.state.Memos),.own 3 r_.kept.length,.own 4 r_.marks.length]]⟩,none,none,some ⟨44,List.map R44 r_.kept⟩,some ⟨120,List.map R120 r_.marks⟩,some ⟨3,List.map R3 out⟩]⟩) h (fun h=>?_) fun out h=>?_
 ·
  refine Tr<|Rm Y<|Rq Y (Zg (ov Y) Y Y)<|Rq Y (Zb (ov Y) Y Y ZdE)<|Rq Y (Zi (ov Y) Y Y Y Jd Y)<|Rq Y (Zbs (ov Y) Y Y XE)<|Rm Y<|Za<|Zl<|?_
  obtain⟨r1,hl1,ho1⟩:=Xa h
  refine L2 (fun out2 i=>⟨[(3,.own 5 out2.length),(9,.own 3 r_.kept.length),(10,.int .i64 (r_.kept.length:Int)),(11,.int .i64 i)],[some ⟨118,[[.sl 49 (List.map R49 r_.p.Instruments),.sl 54 (List.map R54 r_.l),.int .i64 r_.keep,.int .i64 r_.state.Frame,.sl 99 (List.map R99 r_.state.Memos),.own 3 r_.kept.length,.own 4 r_.marks.length]]⟩,none,none,some ⟨44,List.map R44 r_.kept⟩,some ⟨120,List.map R120 r_.marks⟩,some ⟨3,List.map R3 out2⟩]⟩) hl1 (ES [some 0,some 1,some 2,some 3,some 4,none]) fun n1 out2 i h=>?_
  unfold Zcl at h
  refine Tr<|R2 ZV Y<|Za<|Zm<|If h Y (fun h=>?_) fun h=>?_
  ·
   exact Zh<|Zm<|Zl<|K4 3 9 10 11 Y<|Tr<|bE h fun x h_x h=>Rq Y (ZaY (ov Y) (ov Y) XE Y Y h_x)<|Rq Y (ZfH (ov Y) Y Y h_x QR Y Y)<|Rx Y (Zz (row:= [_,_]) 6 Y ZcT Y tZ_44)<|Rx Y (Zk (ov Y) (ov Y) (Zo QR Y) Y Y Y (Nat.le_of_ble_eq_true Y) (Zd Y) Y)<|Za<|K5 3 5 9 10 11 Y<|Zw<|Rm Y<|Rq Y (Zb (ov Y) Y Y Qi)<|Rq Y (Zi (ov Y) Y Y Y tS3 Y)<|R_q (.sl 3<|List.map R3 ([x.Frame]:List Int)) Y (ZbU J3 (.cons (cvs (ov Y)<|ZB Y) Y (.cons (.b Y) .nil) .nil) Y Y)<|bE h fun l h_l h=>Rx Y (Jw (ov Y) (XW (ov Y) tZ_3) J3 Y Y Y (fun _=>Zd Y) Y h_l)<|Ra Y<|Za<|K4 3 9 10 11 Y<|Zw<|R2 QB Y<|Rm Y<|Za<|⟨_,h,ES [some 0,some 1,some 2,some 3,some 4,some 5]⟩
  ·
   refine ZL<|?_
   replace h:=lx h▸ho1
   exact⟨_,h,ES [some 0,some 1,some 2,some 3,some 4,some 5]⟩
 ·
  refine Tr<|Rm Y<|Ra Y<|Za<|?_
  obtain rfl:=rt h
  exact X0 (Ent.sel [some 0,some 1,some 2,some 3,some 4,none] (sr 2 Y (Za1 Y Y Y D3)<|sr 3 Y (Za1 Y Y Y D3)<|sr 21 Y (Za1 Y Y Y D3) sn) (.cons Y (ro1 (by exact tZ_118.symm)<|rlc (.dat Y)<|rlc (.dat Y)<|rlc (.dat Y)<|rlc (.dat Y)<|rlc (.dat Y)<|rlc (.own (r':=3) _ Y)<|rlc (.own (r':=4) _ Y) rln)<|.dead<|.dead<|.cons Y (roM D44)<|.cons Y (roM D120)<|.row 3 .nil) Y Y)<|Zj<|XB [some 0,some 1,some 2,some 3,some 4] Y (.cons (.tmp Y) .nil) (.cons Y (ro1 (by exact tZ_118.symm)<|rlc (.dat Y)<|rlc (.dat Y)<|rlc (.dat Y)<|rlc (.dat Y)<|rlc (.dat Y)<|rlc (.own _ Y)<|rlc (.own _ Y) rln)<|.dead<|.dead<|.cons Y (roM D44)<|.cons Y (roM D120) .nil) Y Y<|.dat Y
theorem ZkG{xs r:List api_Bookmark}(h:ZaX xs=some r):
 GSpec Tryz.prog gl0 105 [.sl 120 (List.map R120 xs)] [] (.own 0 r.length) [some ⟨120,List.map R120 r⟩]:=by
 have h2:app [] xs=some r:=h
 refine Z1 (by kernel_rfl) Tryz.func105 Y Y<|?_
 intro w0 A W φ0
 refine Tr<|Ra Y<|Za<|Zm<|Zm<|Zw<|Rm Y<|Ze4 (ov Y) Zp4 Y fun b hb=>?_
 refine Za<|Zf2 Y (fun hb2=>?_) fun hb2=>?_
 ·
  obtain rfl:xs= []:=by simpa using hb hb2
  obtain rfl:r= []:=by simpa [app,apz] using h2.symm
  exact Tr<|Ra Y<|Za<|Zj<|XB [none] Y (.cons (.tmp Y) .nil) (.row 120 .nil) Y Y<|.row Y
 ·
  exact Zh<|Tr<|Rx Y (QW (r:=0) (xs:= []) (f:=R120) Y Zcp .nil Y Y Y)<|Rm Y<|Rx Y (JR (ov Y) (XW (ov Y) tZ_120) Zcp Y Y (fun _=>Zd Y) Y h2)<|Ra Y<|Za<|Zj<|XB [some 0] Y (.cons (.tmp Y) .nil) (.cons Y (roM D120) .nil) Y Y<|.own _ Y
theorem ZdY{r_:panel_Replay}{r:(List api_Bookmark)}(h:JS r_=some r):
 GSpec Tryz.prog gl0 71 [.ptr 0 1 0 0] [some ⟨91,[[.sl 49 (List.map R49 r_.p.Instruments),.sl 54 (List.map R54 r_.l),.int .i64 r_.keep,.int .i64 r_.state.Frame,.sl 99 (List.map R99 r_.state.Memos),.own 1 r_.kept.length,.own 2 r_.marks.length]]⟩,some ⟨44,List.map R44 r_.kept⟩,some ⟨120,List.map R120 r_.marks⟩] (.sl 120 (List.map R120 r)) [some ⟨91,[[.sl 49 (List.map R49 r_.p.Instruments),.sl 54 (List.map R54 r_.l),.int .i64 r_.keep,.int .i64 r_.state.Frame,.sl 99 (List.map R99 r_.state.Memos),.own 3 r_.kept.length,.own 4 r_.marks.length]]⟩,none,none,some ⟨44,List.map R44 r_.kept⟩,some ⟨120,List.map R120 r_.marks⟩]:=by
 unfold JS at h
 replace h:=ZO h
 refine Z1 (by kernel_rfl) Tryz.func71 Y Y<|?_
 intro w0 A W φ0
 refine X0 (Ent.sel [some 0,some 1,some 2,some 1,some 2] (sr 0 Y (.ptr (r':=0) _ _ _ Y) sn) (.cons Y (ro1 (by exact tZ_91.symm)<|rlc (.dat Y)<|rlc (.dat Y)<|rlc (.dat Y)<|rlc (.dat Y)<|rlc (.dat Y)<|rlc (.own (r':=3) _ Y)<|rlc (.own (r':=4) _ Y) rln)<|.dead<|.dead<|.cons Y (roM D44)<|.cons Y (roM D120) .nil) Y Y)<|Tr<|Ra Y<|Za<|Tr<|Rm Y<|Rq Y (Zg (ov Y) Y Y)<|Rq Y (Zb (ov Y) Y Y Zd3)<|Rq Y (Zi (ov Y) Y Y Y ZeM Y)<|bE h fun y h_y h=>Rx Y (ZoI (ZkG h_y) (.cons (ov Y) (View.ownM Y Y D120) .nil) (.keep Y Y<|.none<|.none<|.keep Y Y<|.keep Y Y<|.lent 0 (.inr ⟨Nat.le_of_ble_eq_true Y,Y⟩) Y (roM D120) .nil) Y (.own _<|.inr ⟨Nat.le_of_ble_eq_true Y,Y⟩) Y<|.cons (frM ZqG) .nil)<|Ra Y<|Za<|?_
 obtain rfl:=rt h
 exact X0 (Ent.sel [some 0,some 1,some 2,some 3,some 4,none] (sr 0 Y (.ptr (r':=0) _ _ _ Y)<|sr 2 Y (Za1 Y Y Y D120)<|sr 3 Y (.ptr (r':=0) _ _ _ Y)<|sr 4 Y (.ptr (r':=0) _ _ _ Y)<|sr 5 Y (.ptr (r':=0) _ _ _ Y)<|sr 6 Y (.own (r':=4) _ Y)<|sr 7 Y (Za1 Y Y Y D120) sn) (.cons Y (ro1 (by exact tZ_91.symm)<|rlc (.dat Y)<|rlc (.dat Y)<|rlc (.dat Y)<|rlc (.dat Y)<|rlc (.dat Y)<|rlc (.own (r':=3) _ Y)<|rlc (.own (r':=4) _ Y) rln)<|.dead<|.dead<|.cons Y (roM D44)<|.cons Y (roM D120)<|.row 120 .nil) Y Y)<|Zj<|XB [some 0,some 1,some 2,some 3,some 4] Y (.cons (.tmp Y) .nil) (.cons Y (ro1 (by exact tZ_91.symm)<|rlc (.dat Y)<|rlc (.dat Y)<|rlc (.dat Y)<|rlc (.dat Y)<|rlc (.dat Y)<|rlc (.own _ Y)<|rlc (.own _ Y) rln)<|.dead<|.dead<|.cons Y (roM D44)<|.cons Y (roM D120) .nil) Y Y<|.dat Y
theorem Zec{r_:ref8_Replay}{r:(List api_Bookmark)}(h:Zam r_=some r):
 GSpec Tryz.prog gl0 72 [.ptr 0 1 0 0] [some ⟨118,[[.sl 49 (List.map R49 r_.p.Instruments),.sl 54 (List.map R54 r_.l),.int .i64 r_.keep,.int .i64 r_.state.Frame,.sl 99 (List.map R99 r_.state.Memos),.own 1 r_.kept.length,.own 2 r_.marks.length]]⟩,some ⟨44,List.map R44 r_.kept⟩,some ⟨120,List.map R120 r_.marks⟩] (.sl 120 (List.map R120 r)) [some ⟨118,[[.sl 49 (List.map R49 r_.p.Instruments),.sl 54 (List.map R54 r_.l),.int .i64 r_.keep,.int .i64 r_.state.Frame,.sl 99 (List.map R99 r_.state.Memos),.own 3 r_.kept.length,.own 4 r_.marks.length]]⟩,none,none,some ⟨44,List.map R44 r_.kept⟩,some ⟨120,List.map R120 r_.marks⟩]:=by
 unfold Zam at h
 replace h:=ZO h
 refine Z1 (by kernel_rfl) Tryz.func72 Y Y<|?_
 intro w0 A W φ0
 refine X0 (Ent.sel [some 0,some 1,some 2,some 1,some 2] (sr 0 Y (.ptr (r':=0) _ _ _ Y) sn) (.cons Y (ro1 (by exact tZ_118.symm)<|rlc (.dat Y)<|rlc (.dat Y)<|rlc (.dat Y)<|rlc (.dat Y)<|rlc (.dat Y)<|rlc (.own (r':=3) _ Y)<|rlc (.own (r':=4) _ Y) rln)<|.dead<|.dead<|.cons Y (roM D44)<|.cons Y (roM D120) .nil) Y Y)<|Tr<|Ra Y<|Za<|Tr<|Rx Y (QW (r:=5) (xs:=([]:List api_Bookmark)) (f:=R120) Y Zcp .nil Y Y Y)<|Rm Y<|Rq Y (Zg (ov Y) Y Y)<|Rq Y (Zb (ov Y) Y Y ZdH)<|Rq Y (Zi (ov Y) Y Y Y ZeM Y)<|bE h fun l h_l h=>Rx Y (JR (ov Y) (Znc (o:=⟨120,List.map R120 r_.marks⟩) (ov Y) Y (List.length_map ..) tZ_120) Zcp Y Y (fun _=>Zd Y) Y h_l)<|Ra Y<|Za<|?_
 obtain rfl:=rt h
 exact X0 (Ent.sel [some 0,some 1,some 2,some 3,some 4,none] (sr 0 Y (.ptr (r':=0) _ _ _ Y)<|sr 2 Y (Za1 Y Y Y D120)<|sr 4 Y (.ptr (r':=0) _ _ _ Y)<|sr 5 Y (.ptr (r':=0) _ _ _ Y)<|sr 6 Y (.ptr (r':=0) _ _ _ Y)<|sr 7 Y (.own (r':=4) _ Y)<|sr 8 Y (Za1 Y Y Y D120) sn) (.cons Y (ro1 (by exact tZ_118.symm)<|rlc (.dat Y)<|rlc (.dat Y)<|rlc (.dat Y)<|rlc (.dat Y)<|rlc (.dat Y)<|rlc (.own (r':=3) _ Y)<|rlc (.own (r':=4) _ Y) rln)<|.dead<|.dead<|.cons Y (roM D44)<|.cons Y (roM D120)<|.row 120 .nil) Y Y)<|Zj<|XB [some 0,some 1,some 2,some 3,some 4] Y (.cons (.tmp Y) .nil) (.cons Y (ro1 (by exact tZ_118.symm)<|rlc (.dat Y)<|rlc (.dat Y)<|rlc (.dat Y)<|rlc (.dat Y)<|rlc (.dat Y)<|rlc (.own _ Y)<|rlc (.own _ Y) rln)<|.dead<|.dead<|.cons Y (roM D44)<|.cons Y (roM D120) .nil) Y Y<|.dat Y
theorem ZbE{s1:List api_Bookmark}{s2:List api_Bookmark}{r:Bool}(h:Z5 s1 s2=some r):
 CSpec Tryz.prog gl0 70 [.sl 120 (List.map R120 s1),.sl 120 (List.map R120 s2)] (.bool r):=by
 unfold Z5 at h
 replace h:=ZO h
 refine So Tryz.func70 Y fun w0 A=>Tr<|Ra Y<|Za<|Zm<|K2 0 1 Y<|Tr<|Rm Y<|Rl tZ_120 Zcp Y<|Rm Y<|Rl tZ_120 Zcp Y<|R2 Qo Y<|Za<|K3 0 1 10 Y<|If h Y (fun h=>?_) fun h=>?_
 ·
  refine K0<|Tr<|Ra Y<|Za<|?_
  obtain rfl:=rt h
  exact Zj (Zu Y (.one<|rb Y))
 ·
  refine Zh<|J0 (fun j=>(.inr j)) ⟨[],[]⟩ h (fun h=>?_) fun h=>?_
  ·
   refine K2 0 1 Y<|Tr<|Rm Y<|Rl tZ_120 Zcp Y<|Rm Y<|Za<|Zl<|?_
   obtain⟨r1,hl1,ho1⟩:=Xa h
   refine L1 (fun i=>⟨[(0,.sl 120 (List.map R120 s1)),(1,.sl 120 (List.map R120 s2)),(12,.int .i64 (s1.length:Int)),(13,.int .i64 i)],[]⟩) hl1 (ES []) fun n1 i h=>?_
   unfold ZN at h
   refine Tr<|R2 ZV Y<|Za<|Zm<|If h Y (fun h=>?_) fun h=>?_
   ·
    refine Zh<|Zm<|Zl<|K4 0 1 12 13 Y<|Tr<|Rm Y<|Ra Y<|Za<|K5 0 1 5 12 13 Y<|Td md0<|D1 0 Zf Y<|D1 1 Zf Y<|bE h fun x h_x h=>Dq 2 Y (ZU (ov Y) (ov Y) Zcp h_x)<|Dq 3 Y (Zr (ov Y) Zht Y Y)<|D1 4 Zf Y<|D1 5 Zf Y<|bE h fun x2 h_x2 h=>Dq 6 Y (ZU (ov Y) (ov Y) Zcp h_x2)<|Dq 7 Y (Zr (ov Y) Zht Y Y)<|Dq 8 Y (ZnI ZpS (ov Y) (ov Y) (.aggB Y) (.aggB Y) Y Y)<|Dd<|K5 0 1 12 13 24 Y<|If h Y (fun h=>?_) fun h=>?_
    ·
     refine K0<|Tr<|Ra Y<|Za<|?_
     replace h:=lx h▸ho1
     obtain rfl:=rt h
     exact Zj (Zu Y (.one<|rb Y))
    ·
     exact Zh<|K4 0 1 12 13 Y<|Zw<|R2 QB Y<|Rm Y<|Za<|⟨_,h,ES []⟩
   ·
    refine ZL<|?_
    replace h:=lx h▸ho1
    exact⟨(),h,ES []⟩
  ·
   replace h:=elr h
   replace h:=t0i h
   refine Tr<|Ra Y<|Za<|?_
   obtain rfl:=rt h
   exact Zj (Zu Y (.one<|rb Y))
theorem Zds{a:panel_Replay}{b:ref8_Replay}{r:Bool}(h:Zbu a b=some r):
 GSpec Tryz.prog gl0 34 [.ptr 0 1 0 0,.ptr 3 1 0 0] [some ⟨91,[[.sl 49 (List.map R49 a.p.Instruments),.sl 54 (List.map R54 a.l),.int .i64 a.keep,.int .i64 a.state.Frame,.sl 99 (List.map R99 a.state.Memos),.own 1 a.kept.length,.own 2 a.marks.length]]⟩,some ⟨44,List.map R44 a.kept⟩,some ⟨120,List.map R120 a.marks⟩,some ⟨118,[[.sl 49 (List.map R49 b.p.Instruments),.sl 54 (List.map R54 b.l),.int .i64 b.keep,.int .i64 b.state.Frame,.sl 99 (List.map R99 b.state.Memos),.own 4 b.kept.length,.own 5 b.marks.length]]⟩,some ⟨44,List.map R44 b.kept⟩,some ⟨120,List.map R120 b.marks⟩] (.bool r) [some ⟨91,[[.sl 49 (List.map R49 a.p.Instruments),.sl 54 (List.map R54 a.l),.int .i64 a.keep,.int .i64 a.state.Frame,.sl 99 (List.map R99 a.state.Memos),.own 6 a.kept.length,.own 7 a.marks.length]]⟩,none,none,some ⟨118,[[.sl 49 (List.map R49 b.p.Instruments),.sl 54 (List.map R54 b.l),.int .i64 b.keep,.int .i64 b.state.Frame,.sl 99 (List.map R99 b.state.Memos),.own 8 b.kept.length,.own 9 b.marks.length]]⟩,none,none,some ⟨44,List.map R44 a.kept⟩,some ⟨120,List.map R120 a.marks⟩,some ⟨44,List.map R44 b.kept⟩,some ⟨120,List.map R120 b.marks⟩]:=by
 unfold Zbu at h
 replace h:=ZO h
 refine Z1 (by kernel_rfl) Tryz.func34 Y Y<|?_
 intro w0 A W φ0
 refine X0 (Ent.sel [some 0,some 1,some 2,some 3,some 4,some 5,some 1,some 2,some 4,some 5] (sr 0 Y (.ptr (r':=0) _ _ _ Y)<|sr 1 Y (.ptr (r':=3) _ _ _ Y) sn) (.cons Y (ro1 (by exact tZ_91.symm)<|rlc (.dat Y)<|rlc (.dat Y)<|rlc (.dat Y)<|rlc (.dat Y)<|rlc (.dat Y)<|rlc (.own (r':=6) _ Y)<|rlc (.own (r':=7) _ Y) rln)<|.dead<|.dead<|.cons Y (ro1 (by exact tZ_118.symm)<|rlc (.dat Y)<|rlc (.dat Y)<|rlc (.dat Y)<|rlc (.dat Y)<|rlc (.dat Y)<|rlc (.own (r':=8) _ Y)<|rlc (.own (r':=9) _ Y) rln)<|.dead<|.dead<|.cons Y (roM D44)<|.cons Y (roM D120)<|.cons Y (roM D44)<|.cons Y (roM D120) .nil) Y Y)<|Tr<|Ra Y<|Za<|Tr<|Rm Y<|bE h fun y h_y h=>Rx Y (ZK [0,6,7] (Zd2 h_y) (.cons (ov Y) (.ptr _ _ _ Y) .nil) (.cons Y (ro1 (by exact tZ_91.symm)<|rlc (.dat Y)<|rlc (.dat Y)<|rlc (.dat Y)<|rlc (.dat Y)<|rlc (.dat Y)<|rlc (.own _ Y)<|rlc (.own _ Y) rln)<|.cons Y (roM D44)<|.cons Y (roM D120) .nil) Y (.lent 0 (.inl Y) Y (ro1 (by exact tZ_91.symm)<|rlc (.dat Y)<|rlc (.dat Y)<|rlc (.dat Y)<|rlc (.dat Y)<|rlc (.dat Y)<|rlc (.own _<|.inr ⟨Nat.le_of_ble_eq_true Y,Y⟩)<|rlc (.own _<|.inr ⟨Nat.le_of_ble_eq_true Y,Y⟩) rln)<|.none<|.none<|.keep Y Y<|.none<|.none<|.none<|.none<|.keep Y Y<|.keep Y Y<|.lent 3 (.inr ⟨Nat.le_of_ble_eq_true Y,Y⟩) Y (roM D44)<|.lent 4 (.inr ⟨Nat.le_of_ble_eq_true Y,Y⟩) Y (roM D120) .nil) Y Y<|.dat Y)<|Rm Y<|bE h fun y2 h_y2 h=>Rx Y (ZK [3,8,9] (Zej h_y2) (.cons (ov Y) (.ptr _ _ _ Y) .nil) (.cons Y (ro1 (by exact tZ_118.symm)<|rlc (.dat Y)<|rlc (.dat Y)<|rlc (.dat Y)<|rlc (.dat Y)<|rlc (.dat Y)<|rlc (.own _ Y)<|rlc (.own _ Y) rln)<|.cons Y (roM D44)<|.cons Y (roM D120) .nil) Y (.keep Y Y<|.none<|.none<|.lent 0 (.inl Y) Y (ro1 (by exact tZ_118.symm)<|rlc (.dat Y)<|rlc (.dat Y)<|rlc (.dat Y)<|rlc (.dat Y)<|rlc (.dat Y)<|rlc (.own _<|.inr ⟨Nat.le_of_ble_eq_true Y,Y⟩)<|rlc (.own _<|.inr ⟨Nat.le_of_ble_eq_true Y,Y⟩) rln)<|.none<|.none<|.none<|.none<|.none<|.none<|.keep Y Y<|.keep Y Y<|.lent 3 (.inr ⟨Nat.le_of_ble_eq_true Y,Y⟩) Y (roM D44)<|.lent 4 (.inr ⟨Nat.le_of_ble_eq_true Y,Y⟩) Y (roM D120) .nil) Y Y<|.dat Y)<|R2 ZT Y<|Rm Y<|Rq Y (.guarded ((decide (y=y2))==true) Y Y Y Y fun h=>Zf<|ov Y)<|?_
 rcases ifR h with ⟨hg,h⟩ | ⟨hg,h⟩
 ·
  refine Zgi (d:=10) (b':=true) Y (Znn hg)<|bE h fun y3 h_y3 h=>ZkF _ _ Y Y Y Y (ZK [0,10,11] (Zd9 h_y3) (.cons (ow Y<|by first |rfl |exact hg |simp_all) (.ptr _ _ _ Y) .nil) (.cons Y (ro1 (by exact tZ_91.symm)<|rlc (.dat Y)<|rlc (.dat Y)<|rlc (.dat Y)<|rlc (.dat Y)<|rlc (.dat Y)<|rlc (.own _ Y)<|rlc (.own _ Y) rln)<|.cons Y (roM D44)<|.cons Y (roM D120) .nil) Y (.lent 0 (.inl Y) Y (ro1 (by exact tZ_91.symm)<|rlc (.dat Y)<|rlc (.dat Y)<|rlc (.dat Y)<|rlc (.dat Y)<|rlc (.dat Y)<|rlc (.own _<|.inr ⟨Nat.le_of_ble_eq_true Y,Y⟩)<|rlc (.own _<|.inr ⟨Nat.le_of_ble_eq_true Y,Y⟩) rln)<|.none<|.none<|.keep Y Y<|.none<|.none<|.none<|.none<|.none<|.none<|.none<|.none<|.keep Y Y<|.keep Y Y<|.lent 3 (.inr ⟨Nat.le_of_ble_eq_true Y,Y⟩) Y (roM D44)<|.lent 4 (.inr ⟨Nat.le_of_ble_eq_true Y,Y⟩) Y (roM D120) .nil) Y Y<|Zbw<|rld Y)<|Rq Y (.guarded (true==true) Y Y Y Y fun h=>Zf<|ov Y)<|bE h fun y4 h_y4 h=>ZkF _ _ Y Y Y Y (ZK [3,12,13] (Zef h_y4) (.cons (ow Y<|by first |rfl |exact hg |simp_all) (.ptr _ _ _ Y) .nil) (.cons Y (ro1 (by exact tZ_118.symm)<|rlc (.dat Y)<|rlc (.dat Y)<|rlc (.dat Y)<|rlc (.dat Y)<|rlc (.dat Y)<|rlc (.own _ Y)<|rlc (.own _ Y) rln)<|.cons Y (roM D44)<|.cons Y (roM D120) .nil) Y (.keep Y Y<|.none<|.none<|.lent 0 (.inl Y) Y (ro1 (by exact tZ_118.symm)<|rlc (.dat Y)<|rlc (.dat Y)<|rlc (.dat Y)<|rlc (.dat Y)<|rlc (.dat Y)<|rlc (.own _<|.inr ⟨Nat.le_of_ble_eq_true Y,Y⟩)<|rlc (.own _<|.inr ⟨Nat.le_of_ble_eq_true Y,Y⟩) rln)<|.none<|.none<|.none<|.none<|.none<|.none<|.none<|.none<|.none<|.none<|.keep Y Y<|.keep Y Y<|.lent 3 (.inr ⟨Nat.le_of_ble_eq_true Y,Y⟩) Y (roM D44)<|.lent 4 (.inr ⟨Nat.le_of_ble_eq_true Y,Y⟩) Y (roM D120) .nil) Y Y<|Zbw<|rld Y)<|bE h fun y5 h_y5 h=>Rq Y (.guarded (true==true) Y Y Y Y fun h=>Zn (Zig<|gdT h_y5 h)<|.cons (ov Y) (.aggB Y)<|.cons (ov Y) (.aggB Y) .nil)<|Rq Y (ZQ (ov Y) fun hp=>ow Y<|gT hp)<|Rm Y<|Rq Y (.guarded ((true&&y5)==true) Y Y Y Y fun h=>Zf<|ov Y)<|?_
  rcases ifR h with ⟨hg,h⟩ | ⟨hg,h⟩
  ·
   refine Zgi (d:=17) (b':=true) Y (Znn hg)<|bE h fun y6 h_y6 h=>ZkF _ _ Y Y Y Y (ZK [0,14,15] (ZbB h_y6) (.cons (ow Y<|by first |rfl |exact hg |simp_all) (.ptr _ _ _ Y) .nil) (.cons Y (ro1 (by exact tZ_91.symm)<|rlc (.dat Y)<|rlc (.dat Y)<|rlc (.dat Y)<|rlc (.dat Y)<|rlc (.dat Y)<|rlc (.own _ Y)<|rlc (.own _ Y) rln)<|.cons Y (roM D44)<|.cons Y (roM D120) .nil) Y (.lent 0 (.inl Y) Y (ro1 (by exact tZ_91.symm)<|rlc (.dat Y)<|rlc (.dat Y)<|rlc (.dat Y)<|rlc (.dat Y)<|rlc (.dat Y)<|rlc (.own _<|.inr ⟨Nat.le_of_ble_eq_true Y,Y⟩)<|rlc (.own _<|.inr ⟨Nat.le_of_ble_eq_true Y,Y⟩) rln)<|.none<|.none<|.keep Y Y<|.none<|.none<|.none<|.none<|.none<|.none<|.none<|.none<|.none<|.none<|.none<|.none<|.keep Y Y<|.keep Y Y<|.lent 3 (.inr ⟨Nat.le_of_ble_eq_true Y,Y⟩) Y (roM D44)<|.lent 4 (.inr ⟨Nat.le_of_ble_eq_true Y,Y⟩) Y (roM D120) .nil) Y Y<|.dat Y)<|Rq Y (.guarded (true==true) Y Y Y Y fun h=>Zf<|ov Y)<|bE h fun y7 h_y7 h=>ZkF _ _ Y Y Y Y (ZK [3,16,17] (Zei h_y7) (.cons (ow Y<|by first |rfl |exact hg |simp_all) (.ptr _ _ _ Y) .nil) (.cons Y (ro1 (by exact tZ_118.symm)<|rlc (.dat Y)<|rlc (.dat Y)<|rlc (.dat Y)<|rlc (.dat Y)<|rlc (.dat Y)<|rlc (.own _ Y)<|rlc (.own _ Y) rln)<|.cons Y (roM D44)<|.cons Y (roM D120) .nil) Y (.keep Y Y<|.none<|.none<|.lent 0 (.inl Y) Y (ro1 (by exact tZ_118.symm)<|rlc (.dat Y)<|rlc (.dat Y)<|rlc (.dat Y)<|rlc (.dat Y)<|rlc (.dat Y)<|rlc (.own _<|.inr ⟨Nat.le_of_ble_eq_true Y,Y⟩)<|rlc (.own _<|.inr ⟨Nat.le_of_ble_eq_true Y,Y⟩) rln)<|.none<|.none<|.none<|.none<|.none<|.none<|.none<|.none<|.none<|.none<|.none<|.none<|.none<|.none<|.keep Y Y<|.keep Y Y<|.lent 3 (.inr ⟨Nat.le_of_ble_eq_true Y,Y⟩) Y (roM D44)<|.lent 4 (.inr ⟨Nat.le_of_ble_eq_true Y,Y⟩) Y (roM D120) .nil) Y Y<|.dat Y)<|bE h fun y8 h_y8 h=>Rq Y (.guarded (true==true) Y Y Y Y fun h=>Zn (ZcU<|gdT h_y8 h)<|.cons (ov Y) (.b Y)<|.cons (ov Y) (.b Y) .nil)<|Rq Y (ZQ (ov Y) fun hp=>ow Y<|gT hp)<|Rm Y<|Rq Y (.guarded ((true&&y8)==true) Y Y Y Y fun h=>Zf<|ov Y)<|?_
   rcases ifR h with ⟨hg,h⟩ | ⟨hg,h⟩
   ·
    refine Zgi (d:=24) (b':=true) Y (Znn hg)<|bE h fun y9 h_y9 h=>ZkF _ _ Y Y Y Y (ZK [0,18,19] (Zeg h_y9) (.cons (ow Y<|by first |rfl |exact hg |simp_all) (.ptr _ _ _ Y) .nil) (.cons Y (ro1 (by exact tZ_91.symm)<|rlc (.dat Y)<|rlc (.dat Y)<|rlc (.dat Y)<|rlc (.dat Y)<|rlc (.dat Y)<|rlc (.own _ Y)<|rlc (.own _ Y) rln)<|.cons Y (roM D44)<|.cons Y (roM D120) .nil) Y (.lent 0 (.inl Y) Y (ro1 (by exact tZ_91.symm)<|rlc (.dat Y)<|rlc (.dat Y)<|rlc (.dat Y)<|rlc (.dat Y)<|rlc (.dat Y)<|rlc (.own _<|.inr ⟨Nat.le_of_ble_eq_true Y,Y⟩)<|rlc (.own _<|.inr ⟨Nat.le_of_ble_eq_true Y,Y⟩) rln)<|.none<|.none<|.keep Y Y<|.none<|.none<|.none<|.none<|.none<|.none<|.none<|.none<|.none<|.none<|.none<|.none<|.none<|.none<|.none<|.none<|.keep Y Y<|.keep Y Y<|.lent 3 (.inr ⟨Nat.le_of_ble_eq_true Y,Y⟩) Y (roM D44)<|.lent 4 (.inr ⟨Nat.le_of_ble_eq_true Y,Y⟩) Y (roM D120) .nil) Y Y<|.dat Y)<|Rq Y (.guarded (true==true) Y Y Y Y fun h=>Zf<|ov Y)<|bE h fun y10 h_y10 h=>ZkF _ _ Y Y Y Y (ZK [3,20,21] (ZeN h_y10) (.cons (ow Y<|by first |rfl |exact hg |simp_all) (.ptr _ _ _ Y) .nil) (.cons Y (ro1 (by exact tZ_118.symm)<|rlc (.dat Y)<|rlc (.dat Y)<|rlc (.dat Y)<|rlc (.dat Y)<|rlc (.dat Y)<|rlc (.own _ Y)<|rlc (.own _ Y) rln)<|.cons Y (roM D44)<|.cons Y (roM D120) .nil) Y (.keep Y Y<|.none<|.none<|.lent 0 (.inl Y) Y (ro1 (by exact tZ_118.symm)<|rlc (.dat Y)<|rlc (.dat Y)<|rlc (.dat Y)<|rlc (.dat Y)<|rlc (.dat Y)<|rlc (.own _<|.inr ⟨Nat.le_of_ble_eq_true Y,Y⟩)<|rlc (.own _<|.inr ⟨Nat.le_of_ble_eq_true Y,Y⟩) rln)<|.none<|.none<|.none<|.none<|.none<|.none<|.none<|.none<|.none<|.none<|.none<|.none<|.none<|.none<|.none<|.none<|.none<|.none<|.keep Y Y<|.keep Y Y<|.lent 3 (.inr ⟨Nat.le_of_ble_eq_true Y,Y⟩) Y (roM D44)<|.lent 4 (.inr ⟨Nat.le_of_ble_eq_true Y,Y⟩) Y (roM D120) .nil) Y Y<|.dat Y)<|bE h fun y11 h_y11 h=>Rq Y (.guarded (true==true) Y Y Y Y fun h=>Zn (ZcN<|gdT h_y11 h)<|.cons (ov Y) (.b Y)<|.cons (ov Y) (.b Y) .nil)<|Rq Y (ZQ (ov Y) fun hp=>ow Y<|gT hp)<|Rm Y<|Rq Y (.guarded ((true&&y11)==true) Y Y Y Y fun h=>Zf<|ov Y)<|?_
    rcases ifR h with ⟨hg,h⟩ | ⟨hg,h⟩
    ·
     refine Zgi (d:=31) (b':=true) Y (Znn hg)<|bE h fun y12 h_y12 h=>ZkF _ _ Y Y Y Y (ZK [0,22,23] (ZdY h_y12) (.cons (ow Y<|by first |rfl |exact hg |simp_all) (.ptr _ _ _ Y) .nil) (.cons Y (ro1 (by exact tZ_91.symm)<|rlc (.dat Y)<|rlc (.dat Y)<|rlc (.dat Y)<|rlc (.dat Y)<|rlc (.dat Y)<|rlc (.own _ Y)<|rlc (.own _ Y) rln)<|.cons Y (roM D44)<|.cons Y (roM D120) .nil) Y (.lent 0 (.inl Y) Y (ro1 (by exact tZ_91.symm)<|rlc (.dat Y)<|rlc (.dat Y)<|rlc (.dat Y)<|rlc (.dat Y)<|rlc (.dat Y)<|rlc (.own _<|.inr ⟨Nat.le_of_ble_eq_true Y,Y⟩)<|rlc (.own _<|.inr ⟨Nat.le_of_ble_eq_true Y,Y⟩) rln)<|.none<|.none<|.keep Y Y<|.none<|.none<|.none<|.none<|.none<|.none<|.none<|.none<|.none<|.none<|.none<|.none<|.none<|.none<|.none<|.none<|.none<|.none<|.none<|.none<|.keep Y Y<|.keep Y Y<|.lent 3 (.inr ⟨Nat.le_of_ble_eq_true Y,Y⟩) Y (roM D44)<|.lent 4 (.inr ⟨Nat.le_of_ble_eq_true Y,Y⟩) Y (roM D120) .nil) Y Y<|.dat Y)<|Rq Y (.guarded (true==true) Y Y Y Y fun h=>Zf<|ov Y)<|bE h fun y13 h_y13 h=>ZkF _ _ Y Y Y Y (ZK [3,24,25] (Zec h_y13) (.cons (ow Y<|by first |rfl |exact hg |simp_all) (.ptr _ _ _ Y) .nil) (.cons Y (ro1 (by exact tZ_118.symm)<|rlc (.dat Y)<|rlc (.dat Y)<|rlc (.dat Y)<|rlc (.dat Y)<|rlc (.dat Y)<|rlc (.own _ Y)<|rlc (.own _ Y) rln)<|.cons Y (roM D44)<|.cons Y (roM D120) .nil) Y (.keep Y Y<|.none<|.none<|.lent 0 (.inl Y) Y (ro1 (by exact tZ_118.symm)<|rlc (.dat Y)<|rlc (.dat Y)<|rlc (.dat Y)<|rlc (.dat Y)<|rlc (.dat Y)<|rlc (.own _<|.inr ⟨Nat.le_of_ble_eq_true Y,Y⟩)<|rlc (.own _<|.inr ⟨Nat.le_of_ble_eq_true Y,Y⟩) rln)<|.none<|.none<|.none<|.none<|.none<|.none<|.none<|.none<|.none<|.none<|.none<|.none<|.none<|.none<|.none<|.none<|.none<|.none<|.none<|.none<|.none<|.none<|.keep Y Y<|.keep Y Y<|.lent 3 (.inr ⟨Nat.le_of_ble_eq_true Y,Y⟩) Y (roM D44)<|.lent 4 (.inr ⟨Nat.le_of_ble_eq_true Y,Y⟩) Y (roM D120) .nil) Y Y<|.dat Y)<|bE h fun y14 h_y14 h=>Rq Y (.guarded (true==true) Y Y Y Y fun h=>Zn (ZbE<|gdT h_y14 h)<|.cons (ov Y) (.b Y)<|.cons (ov Y) (.b Y) .nil)<|Rq Y (ZQ (ov Y) fun hp=>ow Y<|gT hp)<|Ra Y<|Za<|?_
     rw [←rt h]
     exact Zj<|XB [some 0,some 1,some 2,some 3,some 4,some 5,some 26,some 27,some 28,some 29] Y (.cons (.tmp Y) .nil) (.cons Y (ro1 (by exact tZ_91.symm)<|rlc (.dat Y)<|rlc (.dat Y)<|rlc (.dat Y)<|rlc (.dat Y)<|rlc (.dat Y)<|rlc (.own _ Y)<|rlc (.own _ Y) rln)<|.dead<|.dead<|.cons Y (ro1 (by exact tZ_118.symm)<|rlc (.dat Y)<|rlc (.dat Y)<|rlc (.dat Y)<|rlc (.dat Y)<|rlc (.dat Y)<|rlc (.own _ Y)<|rlc (.own _ Y) rln)<|.dead<|.dead<|.cons Y (roM D44)<|.cons Y (roM D120)<|.cons Y (roM D44)<|.cons Y (roM D120) .nil) Y Y<|.dat Y
    ·
     refine Zgi (d:=31) (b':=false) Y (Zny hg)<|XY Y Y Y Y Y<|Rq Y (.guarded (false==true) Y Y Y Y fun h=>Zf<|ov Y)<|XY Y Y Y Y Y<|bE h fun u h_u h=>R_q (.when (false==true)<|.bool false) Y (.guarded (false==true) Y Y Y Y fun h=>ZfM<|gdT h_u h)<|Rq Y (ZQ (ov Y) fun hp=>ow Y<|gT hp)<|Ra Y<|Za<|?_
     rw [←rt h]
     exact Zj<|XB [some 0,some 1,some 2,some 3,some 4,some 5,some 22,some 23,some 24,some 25] Y (.cons (.tmp Y) .nil) (.cons Y (ro1 (by exact tZ_91.symm)<|rlc (.dat Y)<|rlc (.dat Y)<|rlc (.dat Y)<|rlc (.dat Y)<|rlc (.dat Y)<|rlc (.own _ Y)<|rlc (.own _ Y) rln)<|.dead<|.dead<|.cons Y (ro1 (by exact tZ_118.symm)<|rlc (.dat Y)<|rlc (.dat Y)<|rlc (.dat Y)<|rlc (.dat Y)<|rlc (.dat Y)<|rlc (.own _ Y)<|rlc (.own _ Y) rln)<|.dead<|.dead<|.cons Y (roM D44)<|.cons Y (roM D120)<|.cons Y (roM D44)<|.cons Y (roM D120) .nil) Y Y<|.dat Y
   ·
    refine Zgi (d:=24) (b':=false) Y (Zny hg)<|XY Y Y Y Y Y<|Rq Y (.guarded (false==true) Y Y Y Y fun h=>Zf<|ov Y)<|XY Y Y Y Y Y<|bE h fun u2 h_u2 h=>R_q (.when (false==true)<|.bool false) Y (.guarded (false==true) Y Y Y Y fun h=>ZfM<|gdT h_u2 h)<|Rq Y (ZQ (ov Y) fun hp=>ow Y<|gT hp)<|Rm Y<|Rq Y (.guarded ((false&&false)==true) Y Y Y Y fun h=>Zf<|ov Y)<|XY Y Y Y Y Y<|Rq Y (.guarded ((false&&false)==true) Y Y Y Y fun h=>Zf<|ov Y)<|XY Y Y Y Y Y<|bE h fun u3 h_u3 h=>R_q (.when ((false&&false)==true)<|.bool false) Y (.guarded ((false&&false)==true) Y Y Y Y fun h=>ZfM<|gdT h_u3 h)<|Rq Y (ZQ (ov Y) fun hp=>ow Y<|gT hp)<|Ra Y<|Za<|?_
    rw [←rt h]
    exact Zj<|XB [some 0,some 1,some 2,some 3,some 4,some 5,some 18,some 19,some 20,some 21] Y (.cons (.tmp Y) .nil) (.cons Y (ro1 (by exact tZ_91.symm)<|rlc (.dat Y)<|rlc (.dat Y)<|rlc (.dat Y)<|rlc (.dat Y)<|rlc (.dat Y)<|rlc (.own _ Y)<|rlc (.own _ Y) rln)<|.dead<|.dead<|.cons Y (ro1 (by exact tZ_118.symm)<|rlc (.dat Y)<|rlc (.dat Y)<|rlc (.dat Y)<|rlc (.dat Y)<|rlc (.dat Y)<|rlc (.own _ Y)<|rlc (.own _ Y) rln)<|.dead<|.dead<|.cons Y (roM D44)<|.cons Y (roM D120)<|.cons Y (roM D44)<|.cons Y (roM D120) .nil) Y Y<|.dat Y
  ·
   refine Zgi (d:=17) (b':=false) Y (Zny hg)<|XY Y Y Y Y Y<|Rq Y (.guarded (false==true) Y Y Y Y fun h=>Zf<|ov Y)<|XY Y Y Y Y Y<|bE h fun u4 h_u4 h=>R_q (.when (false==true)<|.bool false) Y (.guarded (false==true) Y Y Y Y fun h=>ZfM<|gdT h_u4 h)<|Rq Y (ZQ (ov Y) fun hp=>ow Y<|gT hp)<|Rm Y<|Rq Y (.guarded ((false&&false)==true) Y Y Y Y fun h=>Zf<|ov Y)<|XY Y Y Y Y Y<|Rq Y (.guarded ((false&&false)==true) Y Y Y Y fun h=>Zf<|ov Y)<|XY Y Y Y Y Y<|bE h fun u5 h_u5 h=>R_q (.when ((false&&false)==true)<|.bool false) Y (.guarded ((false&&false)==true) Y Y Y Y fun h=>ZfM<|gdT h_u5 h)<|Rq Y (ZQ (ov Y) fun hp=>ow Y<|gT hp)<|Rm Y<|Rq Y (.guarded (((false&&false)&&false)==true) Y Y Y Y fun h=>Zf<|ov Y)<|XY Y Y Y Y Y<|Rq Y (.guarded (((false&&false)&&false)==true) Y Y Y Y fun h=>Zf<|ov Y)<|XY Y Y Y Y Y<|bE h fun u6 h_u6 h=>R_q (.when (((false&&false)&&false)==true)<|.bool false) Y (.guarded (((false&&false)&&false)==true) Y Y Y Y fun h=>ZfM<|gdT h_u6 h)<|Rq Y (ZQ (ov Y) fun hp=>ow Y<|gT hp)<|Ra Y<|Za<|?_
   rw [←rt h]
   exact Zj<|XB [some 0,some 1,some 2,some 3,some 4,some 5,some 14,some 15,some 16,some 17] Y (.cons (.tmp Y) .nil) (.cons Y (ro1 (by exact tZ_91.symm)<|rlc (.dat Y)<|rlc (.dat Y)<|rlc (.dat Y)<|rlc (.dat Y)<|rlc (.dat Y)<|rlc (.own _ Y)<|rlc (.own _ Y) rln)<|.dead<|.dead<|.cons Y (ro1 (by exact tZ_118.symm)<|rlc (.dat Y)<|rlc (.dat Y)<|rlc (.dat Y)<|rlc (.dat Y)<|rlc (.dat Y)<|rlc (.own _ Y)<|rlc (.own _ Y) rln)<|.dead<|.dead<|.cons Y (roM D44)<|.cons Y (roM D120)<|.cons Y (roM D44)<|.cons Y (roM D120) .nil) Y Y<|.dat Y
 ·
  refine Zgi (d:=10) (b':=false) Y (Zny hg)<|XY Y Y Y Y Y<|Rq Y (.guarded (false==true) Y Y Y Y fun h=>Zf<|ov Y)<|XY Y Y Y Y Y<|bE h fun u7 h_u7 h=>R_q (.when (false==true)<|.bool false) Y (.guarded (false==true) Y Y Y Y fun h=>ZfM<|gdT h_u7 h)<|Rq Y (ZQ (ov Y) fun hp=>ow Y<|gT hp)<|Rm Y<|Rq Y (.guarded ((false&&false)==true) Y Y Y Y fun h=>Zf<|ov Y)<|XY Y Y Y Y Y<|Rq Y (.guarded ((false&&false)==true) Y Y Y Y fun h=>Zf<|ov Y)<|XY Y Y Y Y Y<|bE h fun u8 h_u8 h=>R_q (.when ((false&&false)==true)<|.bool false) Y (.guarded ((false&&false)==true) Y Y Y Y fun h=>ZfM<|gdT h_u8 h)<|Rq Y (ZQ (ov Y) fun hp=>ow Y<|gT hp)<|Rm Y<|Rq Y (.guarded (((false&&false)&&false)==true) Y Y Y Y fun h=>Zf<|ov Y)<|XY Y Y Y Y Y<|Rq Y (.guarded (((false&&false)&&false)==true) Y Y Y Y fun h=>Zf<|ov Y)<|XY Y Y Y Y Y<|bE h fun u9 h_u9 h=>R_q (.when (((false&&false)&&false)==true)<|.bool false) Y (.guarded (((false&&false)&&false)==true) Y Y Y Y fun h=>ZfM<|gdT h_u9 h)<|Rq Y (ZQ (ov Y) fun hp=>ow Y<|gT hp)<|Rm Y<|Rq Y (.guarded ((((false&&false)&&false)&&false)==true) Y Y Y Y fun h=>Zf<|ov Y)<|XY Y Y Y Y Y<|Rq Y (.guarded ((((false&&false)&&false)&&false)==true) Y Y Y Y fun h=>Zf<|ov Y)<|XY Y Y Y Y Y<|bE h fun u10 h_u10 h=>R_q (.when ((((false&&false)&&false)&&false)==true)<|.bool false) Y (.guarded ((((false&&false)&&false)&&false)==true) Y Y Y Y fun h=>ZfM<|gdT h_u10 h)<|Rq Y (ZQ (ov Y) fun hp=>ow Y<|gT hp)<|Ra Y<|Za<|?_
  rw [←rt h]
  exact Zj<|XB [some 0,some 1,some 2,some 3,some 4,some 5,some 10,some 11,some 12,some 13] Y (.cons (.tmp Y) .nil) (.cons Y (ro1 (by exact tZ_91.symm)<|rlc (.dat Y)<|rlc (.dat Y)<|rlc (.dat Y)<|rlc (.dat Y)<|rlc (.dat Y)<|rlc (.own _ Y)<|rlc (.own _ Y) rln)<|.dead<|.dead<|.cons Y (ro1 (by exact tZ_118.symm)<|rlc (.dat Y)<|rlc (.dat Y)<|rlc (.dat Y)<|rlc (.dat Y)<|rlc (.dat Y)<|rlc (.own _ Y)<|rlc (.own _ Y) rln)<|.dead<|.dead<|.cons Y (roM D44)<|.cons Y (roM D120)<|.cons Y (roM D44)<|.cons Y (roM D120) .nil) Y Y<|.dat Y
theorem Zdj{p:api_Panel}{l:List api_Track}{keep:Int}{deeds:List law8_Deed}{r:Bool}(h:Xy p l keep deeds=some r):
 CSpec Tryz.prog gl0 6 [.agg [.sl 49 (List.map R49 p.Instruments)],.sl 54 (List.map R54 l),.int .i64 keep,.sl 72 (List.map R72 deeds)] (.bool r):=by
 unfold Xy at h
 replace h:=ZO h
 refine So Tryz.func6 Y fun w0 A=>Tr<|Rq Y (ZP (cva<|ov Y) Y tZ_24 Y)<|Ra Y<|Za<|K4 1 2 3 4 Y<|Tr<|Rq Y (Zr (ov Y) Zd7 Y Y)<|Rm Y<|Rm Y<|bE h fun y h_y h=>?_
 rcases y with y |y
 ·
  replace h:=ell h
  refine Rx Y (ZK [] (ZeE h_y) (.cons (ov Y) (Zbw<|rld Y)<|.cons (ov Y) (.dat Y)<|.cons (ov Y) (.dat Y) .nil) .nil Y .nil Y Y<|JO<|rlc (.dat Y)<|rlc (.dat Y) rln)<|Rm Y<|Rq Y (Zq (ov Y) Y)<|Rq Y (Zq (ov Y) Y)<|Ra Y<|Ra Y<|Za<|K6 1 2 3 4 9 10 Y<|Tr<|Rq Y (Zr (ov Y) Zd7 Y Y)<|Rm Y<|Rm Y<|bE h fun y2 h_y2 h=>?_
  rcases y2 with y2 |y2
  ·
   replace h:=ell h
   refine Rx Y (ZK [] (Ze7 h_y2) (.cons (ov Y) (Zbw<|rld Y)<|.cons (ov Y) (.dat Y)<|.cons (ov Y) (.dat Y) .nil) .nil Y .nil Y Y<|JO<|rlc (.dat Y)<|rlc (.dat Y) rln)<|Rm Y<|Rq Y (Zq (ov Y) Y)<|Rq Y (Zq (ov Y) Y)<|Ra Y<|Ra Y<|Za<|Zm<|K5 3 9 10 11 12 Y<|Tr<|Rm Y<|Rm Y<|R2 Qo Y<|Rm Y<|Rq Y (.guarded ((!decide (y=y2))==false) Y Y Y Y fun h=>Zf<|ov Y)<|Rq Y (.guarded ((!decide (y=y2))==false) Y Y Y Y fun h=>Qo (ow Y h)<|ov Y)<|Rq Y (Xi (ov Y) fun hp=>ow Y<|gF hp)<|Za<|K6 3 9 10 11 12 41 Y<|If h Y (fun h=>?_) fun h=>?_
   ·
    refine K2 10 12 Y<|Tr<|Rm Y<|Rm Y<|R2 ZT Y<|Rm Y<|bE h fun y3 h_y3 h=>Rq Y (.guarded ((decide (y=y2))==true) Y Y Y Y fun h=>Zn (JP<|gdT h_y3 h) .nil)<|Rq Y (ZQ (ov Y) fun hp=>ow Y<|gT hp)<|Ra Y<|Za<|?_
    obtain rfl:=rt h
    exact Zj (Zu Y (.one<|rb Y))
   ·
    refine Zh<|I0 ⟨[],[]⟩ h (fun h=>?_) fun h=>?_
    ·
     refine K3 3 9 11 Y<|Tr<|Rm Y<|Rl tZ_72 ZlW Y<|Rm Y<|Za<|Zl<|?_
     obtain⟨r1,hl1,ho1⟩:=Xa h
     refine L0 ⟨[(9,.lit (.pointer none)),(11,.lit (.pointer none)),(48,.sl 72 (List.map R72 deeds)),(49,.int .i64 (deeds.length:Int)),(50,.int .i64 0)],[]⟩ hl1 (ES []) fun n1 h=>?_
     unfold ZaO at h
     refine Tr<|R2 ZV Y<|Za<|Zm<|If h Y (fun h=>?_) fun h=>?_
     ·
      refine Zh<|Zm<|Zl<|K5 9 11 48 49 50 Y<|Tr<|bE h fun x h_x h=>Rq Y (ZU (ov Y) (ov Y) ZlW h_x)<|Rq Y (Zr (ov Y) Zmg Y Y)<|Rx Y (Zz (row:= [_,_,_]) 0 Y Zpr Y tZ_72)<|Rx Y (Zk (ov Y) (ov Y) (Zo Zmg Y) Y Y Y (Nat.le_of_ble_eq_true Y) (Zd Y) Y)<|Za<|K6 9 11 14 48 49 50 Y<|Tr<|Ra Y<|Ra Y<|Ra Y<|Za<|K8 9 11 14 15 16 48 49 50 Y<|Tr<|Ra Y<|Ra Y<|Ra Y<|Za<|Zm<|K10 9 11 14 15 16 18 19 48 49 50 Y<|Tr<|Rq Y (Zb (ov Y) Y Y ZhA)<|Rq Y (Zi (ov Y) Y Y Y tS3 Y)<|Za<|Zl<|K11 9 11 14 15 16 18 19 48 49 50 55 Y<|Tr<|R2 ZT Y<|Ra Y<|Za<|K12 9 11 14 15 16 18 19 48 49 50 55 74 Y<|If h Y (fun h=>?_) fun h=>?_
      ·
       exact(Zeo h).elim
      ·
       refine K11 9 11 14 15 16 18 19 48 49 50 55 Y<|Tr<|R2 ZT Y<|Ra Y<|Za<|K12 9 11 14 15 16 18 19 48 49 50 55 84 Y<|If h Y (fun h=>?_) fun h=>?_
       ·
        exact(Zeo h).elim
       ·
        refine K11 9 11 14 15 16 18 19 48 49 50 55 Y<|Tr<|R2 ZT Y<|Ra Y<|Za<|K11 9 11 14 15 16 18 19 48 49 50 100 Y<|If h Y (fun h=>?_) fun h=>?_
        ·
         exact(Zeo h).elim
        ·
         exact(Zeo h).elim
     ·
      refine ZL<|?_
      replace h:=lx h▸ho1
      exact⟨(),h,ES []⟩
    ·
     refine Tr<|bE h fun y4 h_y4 h=>Rq Y (Zn (JP h_y4) .nil)<|Ra Y<|Za<|?_
     obtain rfl:=rt h
     exact Zj (Zu Y (.one<|rb Y))
  ·
   replace h:=elr h
   refine Rx Y (ZK [] (Ze8 h_y2) (.cons (ov Y) (Zbw<|rld Y)<|.cons (ov Y) (.dat Y)<|.cons (ov Y) (.dat Y) .nil) .nil Y (.lent 0 (.inr ⟨Nat.le_of_ble_eq_true Y,Y⟩) Y (ro1 (by exact tZ_118.symm)<|rlc (.dat Y)<|rlc (.dat Y)<|rlc (.dat Y)<|rlc (.dat Y)<|rlc (.dat Y)<|rlc (.own _<|.inr ⟨Nat.le_of_ble_eq_true Y,Y⟩)<|rlc (.own _<|.inr ⟨Nat.le_of_ble_eq_true Y,Y⟩) rln)<|.lent 1 (.inr ⟨Nat.le_of_ble_eq_true Y,Y⟩) Y (roM D44)<|.lent 2 (.inr ⟨Nat.le_of_ble_eq_true Y,Y⟩) Y (roM D120) .nil) Y Y<|JO<|rlc (.ptr _ _ _<|.inr ⟨Nat.le_of_ble_eq_true Y,Y⟩)<|rlc (.dat Y) rln)<|Rm Y<|Rq Y (Zq (ov Y) Y)<|Rq Y (Zq (ov Y) Y)<|Ra Y<|Ra Y<|Za<|Zm<|K5 3 9 10 11 12 Y<|Tr<|Rm Y<|Rm Y<|R2 Qo Y<|Rm Y<|Rq Y (.guarded ((!decide (y=y2.2))==false) Y Y Y Y fun h=>Zf<|ov Y)<|Rq Y (.guarded ((!decide (y=y2.2))==false) Y Y Y Y fun h=>Qo (ow Y h)<|ov Y)<|Rq Y (Xi (ov Y) fun hp=>ow Y<|gF hp)<|Za<|K6 3 9 10 11 12 41 Y<|If h Y (fun h=>?_) fun h=>?_
   ·
    refine K2 10 12 Y<|Tr<|Rm Y<|Rm Y<|R2 ZT Y<|Rm Y<|bE h fun y5 h_y5 h=>Rq Y (.guarded ((decide (y=y2.2))==true) Y Y Y Y fun h=>Zn (JP<|gdT h_y5 h) .nil)<|Rq Y (ZQ (ov Y) fun hp=>ow Y<|gT hp)<|Ra Y<|Za<|?_
    obtain rfl:=rt h
    exact Zj (Zu Y (.one<|rb Y))
   ·
    refine Zh<|I0 ⟨[],[]⟩ h (fun h=>?_) fun h=>?_
    ·
     refine K3 3 9 11 Y<|Tr<|Rm Y<|Rl tZ_72 ZlW Y<|Rm Y<|Za<|Zl<|?_
     obtain⟨r2,hl2,ho2⟩:=Xa h
     refine L0 ⟨[(9,.lit (.pointer none)),(11,.ptr 0 1 0 0),(48,.sl 72 (List.map R72 deeds)),(49,.int .i64 (deeds.length:Int)),(50,.int .i64 0)],[some ⟨118,[[.sl 49 (List.map R49 y2.1.p.Instruments),.sl 54 (List.map R54 y2.1.l),.int .i64 y2.1.keep,.int .i64 y2.1.state.Frame,.sl 99 (List.map R99 y2.1.state.Memos),.own 1 y2.1.kept.length,.own 2 y2.1.marks.length]]⟩,some ⟨44,List.map R44 y2.1.kept⟩,some ⟨120,List.map R120 y2.1.marks⟩]⟩ hl2 (ES [some 0,some 1,some 2]) fun n2 h=>?_
     unfold ZaJ at h
     refine Tr<|R2 ZV Y<|Za<|Zm<|If h Y (fun h=>?_) fun h=>?_
     ·
      refine Zh<|Zm<|Zl<|K5 9 11 48 49 50 Y<|Tr<|bE h fun x2 h_x2 h=>Rq Y (ZU (ov Y) (ov Y) ZlW h_x2)<|Rq Y (Zr (ov Y) Zmg Y Y)<|Rx Y (Zz (row:= [_,_,_]) 3 Y Zpr Y tZ_72)<|Rx Y (Zk (ov Y) (ov Y) (Zo Zmg Y) Y Y Y (Nat.le_of_ble_eq_true Y) (Zd Y) Y)<|Za<|K6 9 11 14 48 49 50 Y<|Tr<|Ra Y<|Ra Y<|Ra Y<|Za<|K8 9 11 14 15 16 48 49 50 Y<|Tr<|Ra Y<|Ra Y<|Ra Y<|Za<|Zm<|K10 9 11 14 15 16 18 19 48 49 50 Y<|Tr<|Rq Y (Zb (ov Y) Y Y ZhA)<|Rq Y (Zi (ov Y) Y Y Y tS3 Y)<|Za<|Zl<|K11 9 11 14 15 16 18 19 48 49 50 55 Y<|Tr<|R2 ZT Y<|Ra Y<|Za<|K12 9 11 14 15 16 18 19 48 49 50 55 74 Y<|If h Y (fun h=>?_) fun h=>?_
      ·
       exact(Zeo h).elim
      ·
       refine K11 9 11 14 15 16 18 19 48 49 50 55 Y<|Tr<|R2 ZT Y<|Ra Y<|Za<|K12 9 11 14 15 16 18 19 48 49 50 55 84 Y<|If h Y (fun h=>?_) fun h=>?_
       ·
        exact(Zeo h).elim
       ·
        refine K11 9 11 14 15 16 18 19 48 49 50 55 Y<|Tr<|R2 ZT Y<|Ra Y<|Za<|K11 9 11 14 15 16 18 19 48 49 50 100 Y<|If h Y (fun h=>?_) fun h=>?_
        ·
         exact(Zeo h).elim
        ·
         exact(Zeo h).elim
     ·
      refine ZL<|?_
      replace h:=lx h▸ho2
      exact⟨(),h,ES []⟩
    ·
     refine Tr<|bE h fun y6 h_y6 h=>Rq Y (Zn (JP h_y6) .nil)<|Ra Y<|Za<|?_
     obtain rfl:=rt h
     exact Zj (Zu Y (.one<|rb Y))
 ·
  replace h:=elr h
  refine Rx Y (ZK [] (ZeU h_y) (.cons (ov Y) (Zbw<|rld Y)<|.cons (ov Y) (.dat Y)<|.cons (ov Y) (.dat Y) .nil) .nil Y (.lent 0 (.inr ⟨Nat.le_of_ble_eq_true Y,Y⟩) Y (ro1 (by exact tZ_91.symm)<|rlc (.dat Y)<|rlc (.dat Y)<|rlc (.dat Y)<|rlc (.dat Y)<|rlc (.dat Y)<|rlc (.own _<|.inr ⟨Nat.le_of_ble_eq_true Y,Y⟩)<|rlc (.own _<|.inr ⟨Nat.le_of_ble_eq_true Y,Y⟩) rln)<|.lent 1 (.inr ⟨Nat.le_of_ble_eq_true Y,Y⟩) Y (roM D44)<|.lent 2 (.inr ⟨Nat.le_of_ble_eq_true Y,Y⟩) Y (roM D120) .nil) Y Y<|JO<|rlc (.ptr _ _ _<|.inr ⟨Nat.le_of_ble_eq_true Y,Y⟩)<|rlc (.dat Y) rln)<|Rm Y<|Rq Y (Zq (ov Y) Y)<|Rq Y (Zq (ov Y) Y)<|Ra Y<|Ra Y<|Za<|K6 1 2 3 4 9 10 Y<|Tr<|Rq Y (Zr (ov Y) Zd7 Y Y)<|Rm Y<|Rm Y<|bE h fun y7 h_y7 h=>?_
  rcases y7 with y7 |y7
  ·
   replace h:=ell h
   refine Rx Y (ZK [] (Ze7 h_y7) (.cons (ov Y) (Zbw<|rld Y)<|.cons (ov Y) (.dat Y)<|.cons (ov Y) (.dat Y) .nil) .nil Y (.keep Y Y<|.keep Y Y<|.keep Y Y .nil) Y Y<|JO<|rlc (.dat Y)<|rlc (.dat Y) rln)<|Rm Y<|Rq Y (Zq (ov Y) Y)<|Rq Y (Zq (ov Y) Y)<|Ra Y<|Ra Y<|Za<|Zm<|K5 3 9 10 11 12 Y<|Tr<|Rm Y<|Rm Y<|R2 Qo Y<|Rm Y<|Rq Y (.guarded ((!decide (y.2=y7))==false) Y Y Y Y fun h=>Zf<|ov Y)<|Rq Y (.guarded ((!decide (y.2=y7))==false) Y Y Y Y fun h=>Qo (ow Y h)<|ov Y)<|Rq Y (Xi (ov Y) fun hp=>ow Y<|gF hp)<|Za<|K6 3 9 10 11 12 41 Y<|If h Y (fun h=>?_) fun h=>?_
   ·
    refine K2 10 12 Y<|Tr<|Rm Y<|Rm Y<|R2 ZT Y<|Rm Y<|bE h fun y8 h_y8 h=>Rq Y (.guarded ((decide (y.2=y7))==true) Y Y Y Y fun h=>Zn (JP<|gdT h_y8 h) .nil)<|Rq Y (ZQ (ov Y) fun hp=>ow Y<|gT hp)<|Ra Y<|Za<|?_
    obtain rfl:=rt h
    exact Zj (Zu Y (.one<|rb Y))
   ·
    refine Zh<|I0 ⟨[],[]⟩ h (fun h=>?_) fun h=>?_
    ·
     refine K3 3 9 11 Y<|Tr<|Rm Y<|Rl tZ_72 ZlW Y<|Rm Y<|Za<|Zl<|?_
     obtain⟨r3,hl3,ho3⟩:=Xa h
     refine L0 ⟨[(9,.ptr 0 1 0 0),(11,.lit (.pointer none)),(48,.sl 72 (List.map R72 deeds)),(49,.int .i64 (deeds.length:Int)),(50,.int .i64 0)],[some ⟨91,[[.sl 49 (List.map R49 y.1.p.Instruments),.sl 54 (List.map R54 y.1.l),.int .i64 y.1.keep,.int .i64 y.1.state.Frame,.sl 99 (List.map R99 y.1.state.Memos),.own 1 y.1.kept.length,.own 2 y.1.marks.length]]⟩,some ⟨44,List.map R44 y.1.kept⟩,some ⟨120,List.map R120 y.1.marks⟩]⟩ hl3 (ES [some 0,some 1,some 2]) fun n3 h=>?_
     unfold ZaP at h
     refine Tr<|R2 ZV Y<|Za<|Zm<|If h Y (fun h=>?_) fun h=>?_
     ·
      refine Zh<|Zm<|Zl<|K5 9 11 48 49 50 Y<|Tr<|bE h fun x3 h_x3 h=>Rq Y (ZU (ov Y) (ov Y) ZlW h_x3)<|Rq Y (Zr (ov Y) Zmg Y Y)<|Rx Y (Zz (row:= [_,_,_]) 3 Y Zpr Y tZ_72)<|Rx Y (Zk (ov Y) (ov Y) (Zo Zmg Y) Y Y Y (Nat.le_of_ble_eq_true Y) (Zd Y) Y)<|Za<|K6 9 11 14 48 49 50 Y<|Tr<|Ra Y<|Ra Y<|Ra Y<|Za<|K8 9 11 14 15 16 48 49 50 Y<|Tr<|Ra Y<|Ra Y<|Ra Y<|Za<|Zm<|K10 9 11 14 15 16 18 19 48 49 50 Y<|Tr<|Rq Y (Zb (ov Y) Y Y ZhA)<|Rq Y (Zi (ov Y) Y Y Y tS3 Y)<|Za<|Zl<|K11 9 11 14 15 16 18 19 48 49 50 55 Y<|Tr<|R2 ZT Y<|Ra Y<|Za<|K12 9 11 14 15 16 18 19 48 49 50 55 74 Y<|If h Y (fun h=>?_) fun h=>?_
      ·
       exact(Zeo h).elim
      ·
       refine K11 9 11 14 15 16 18 19 48 49 50 55 Y<|Tr<|R2 ZT Y<|Ra Y<|Za<|K12 9 11 14 15 16 18 19 48 49 50 55 84 Y<|If h Y (fun h=>?_) fun h=>?_
       ·
        exact K9 9 11 14 15 16 19 48 49 50 Y<|Tr<|Rm Y<|Rq Y (Zb (ov Y) Y Y Zi0)<|Rq Y (Zi (ov Y) Y Y Y tS3 Y)<|bE h fun y9 h_y9 h=>Rx Y (ZK [0,1,2] (X6 h_y9) (.cons (ov Y) (.ptr _ _ _ Y)<|.cons (ov Y) (.dat Y) .nil) (.cons Y (ro1 (by exact tZ_91.symm)<|rlc (.dat Y)<|rlc (.dat Y)<|rlc (.dat Y)<|rlc (.dat Y)<|rlc (.dat Y)<|rlc (.own _ Y)<|rlc (.own _ Y) rln)<|.cons Y (roM D44)<|.cons Y (roM D120) .nil) Y (.lent 0 (.inl Y) Y (ro1 (by exact tZ_91.symm)<|rlc (.dat Y)<|rlc (.dat Y)<|rlc (.dat Y)<|rlc (.dat Y)<|rlc (.dat Y)<|rlc (.own _<|.inr ⟨Nat.le_of_ble_eq_true Y,Y⟩)<|rlc (.own _<|.inr ⟨Nat.le_of_ble_eq_true Y,Y⟩) rln)<|.none<|.none<|.keep Y Y<|.lent 3 (.inr ⟨Nat.le_of_ble_eq_true Y,Y⟩) Y (roM D44)<|.lent 4 (.inr ⟨Nat.le_of_ble_eq_true Y,Y⟩) Y (roM D120) .nil) Y Y<|JO<|rld Y)<|Rm Y<|Rq Y (Zq (ov Y) Y)<|Rq Y (Zq (ov Y) Y)<|Ra Y<|Ra Y<|Za<|(Zeo h).elim
       ·
        refine K11 9 11 14 15 16 18 19 48 49 50 55 Y<|Tr<|R2 ZT Y<|Ra Y<|Za<|K11 9 11 14 15 16 18 19 48 49 50 100 Y<|If h Y (fun h=>?_) fun h=>?_
        ·
         exact(Zeo h).elim
        ·
         exact K8 9 11 14 15 16 48 49 50 Y<|Tr<|Rm Y<|Rq Y (Zb (ov Y) Y Y ZhA)<|Rq Y (Zi (ov Y) Y Y Y tS3 Y)<|R2 ZT Y<|bE h fun y10 h_y10 h=>Rx Y (ZK [0,1,2] (ZaU h_y10) (.cons (ov Y) (.ptr _ _ _ Y)<|.cons (ov Y) (.dat Y) .nil) (.cons Y (ro1 (by exact tZ_91.symm)<|rlc (.dat Y)<|rlc (.dat Y)<|rlc (.dat Y)<|rlc (.dat Y)<|rlc (.dat Y)<|rlc (.own _ Y)<|rlc (.own _ Y) rln)<|.cons Y (roM D44)<|.cons Y (roM D120) .nil) Y (.lent 0 (.inl Y) Y (ro1 (by exact tZ_91.symm)<|rlc (.dat Y)<|rlc (.dat Y)<|rlc (.dat Y)<|rlc (.dat Y)<|rlc (.dat Y)<|rlc (.own _<|.inr ⟨Nat.le_of_ble_eq_true Y,Y⟩)<|rlc (.own _<|.inr ⟨Nat.le_of_ble_eq_true Y,Y⟩) rln)<|.none<|.none<|.keep Y Y<|.lent 3 (.inr ⟨Nat.le_of_ble_eq_true Y,Y⟩) Y (roM D44)<|.lent 4 (.inr ⟨Nat.le_of_ble_eq_true Y,Y⟩) Y (roM D120) .nil) Y Y<|JO<|rld Y)<|Rm Y<|Rq Y (Zq (ov Y) Y)<|Rq Y (Zq (ov Y) Y)<|Rq Y (Zq (ov Y) Y)<|Ra Y<|Ra Y<|Ra Y<|Za<|(Zeo h).elim
     ·
      refine ZL<|?_
      replace h:=lx h▸ho3
      exact⟨(),h,ES []⟩
    ·
     refine Tr<|bE h fun y11 h_y11 h=>Rq Y (Zn (JP h_y11) .nil)<|Ra Y<|Za<|?_
     obtain rfl:=rt h
     exact Zj (Zu Y (.one<|rb Y))
  ·
   replace h:=elr h
   refine Rx Y (ZK [] (Ze8 h_y7) (.cons (ov Y) (Zbw<|rld Y)<|.cons (ov Y) (.dat Y)<|.cons (ov Y) (.dat Y) .nil) .nil Y (.keep Y Y<|.keep Y Y<|.keep Y Y<|.lent 0 (.inr ⟨Nat.le_of_ble_eq_true Y,Y⟩) Y (ro1 (by exact tZ_118.symm)<|rlc (.dat Y)<|rlc (.dat Y)<|rlc (.dat Y)<|rlc (.dat Y)<|rlc (.dat Y)<|rlc (.own _<|.inr ⟨Nat.le_of_ble_eq_true Y,Y⟩)<|rlc (.own _<|.inr ⟨Nat.le_of_ble_eq_true Y,Y⟩) rln)<|.lent 1 (.inr ⟨Nat.le_of_ble_eq_true Y,Y⟩) Y (roM D44)<|.lent 2 (.inr ⟨Nat.le_of_ble_eq_true Y,Y⟩) Y (roM D120) .nil) Y Y<|JO<|rlc (.ptr _ _ _<|.inr ⟨Nat.le_of_ble_eq_true Y,Y⟩)<|rlc (.dat Y) rln)<|Rm Y<|Rq Y (Zq (ov Y) Y)<|Rq Y (Zq (ov Y) Y)<|Ra Y<|Ra Y<|Za<|Zm<|K5 3 9 10 11 12 Y<|Tr<|Rm Y<|Rm Y<|R2 Qo Y<|Rm Y<|Rq Y (.guarded ((!decide (y.2=y7.2))==false) Y Y Y Y fun h=>Zf<|ov Y)<|Rq Y (.guarded ((!decide (y.2=y7.2))==false) Y Y Y Y fun h=>Qo (ow Y h)<|ov Y)<|Rq Y (Xi (ov Y) fun hp=>ow Y<|gF hp)<|Za<|K6 3 9 10 11 12 41 Y<|If h Y (fun h=>?_) fun h=>?_
   ·
    refine K2 10 12 Y<|Tr<|Rm Y<|Rm Y<|R2 ZT Y<|Rm Y<|bE h fun y12 h_y12 h=>Rq Y (.guarded ((decide (y.2=y7.2))==true) Y Y Y Y fun h=>Zn (JP<|gdT h_y12 h) .nil)<|Rq Y (ZQ (ov Y) fun hp=>ow Y<|gT hp)<|Ra Y<|Za<|?_
    obtain rfl:=rt h
    exact Zj (Zu Y (.one<|rb Y))
   ·
    refine Zh<|J0 (fun j=>(.inr j)) ⟨[],[]⟩ h (fun h=>?_) fun h=>?_
    ·
     refine K3 3 9 11 Y<|Tr<|Rm Y<|Rl tZ_72 ZlW Y<|Rm Y<|Za<|Zl<|?_
     obtain⟨r4,hl4,ho4⟩:=Xa h
     refine Zg5 _ (t13 fun p2 l2 keep2 state kept marks p3 l3 keep3 state2 kept2 marks2 i=>⟨[(9,.ptr 0 1 0 0),(11,.ptr 3 1 0 0),(48,.sl 72 (List.map R72 deeds)),(49,.int .i64 (deeds.length:Int)),(50,.int .i64 i)],[some ⟨91,[[.sl 49 (List.map R49 p2.Instruments),.sl 54 (List.map R54 l2),.int .i64 keep2,.int .i64 state.Frame,.sl 99 (List.map R99 state.Memos),.own 1 kept.length,.own 2 marks.length]]⟩,some ⟨44,List.map R44 kept⟩,some ⟨120,List.map R120 marks⟩,some ⟨118,[[.sl 49 (List.map R49 p3.Instruments),.sl 54 (List.map R54 l3),.int .i64 keep3,.int .i64 state2.Frame,.sl 99 (List.map R99 state2.Memos),.own 4 kept2.length,.own 5 marks2.length]]⟩,some ⟨44,List.map R44 kept2⟩,some ⟨120,List.map R120 marks2⟩]⟩) _ hl4 (Ent.sel [some 0,some 1,some 2,some 3,some 4,some 5] (sr 9 Y (.ptr _ _ _ Y)<|sr 11 Y (.ptr _ _ _ Y)<|sd 48 Y Y<|sd 49 Y Y<|sd 50 Y Y sn) (.cons Y (ro1 (by exact tZ_91.symm)<|rlc (.dat Y)<|rlc (.dat Y)<|rlc (.dat Y)<|rlc (.dat Y)<|rlc (.dat Y)<|rlc (.own _ Y)<|rlc (.own _ Y) rln)<|.cons Y (roM D44)<|.cons Y (roM D120)<|.cons Y (ro1 (by exact tZ_118.symm)<|rlc (.dat Y)<|rlc (.dat Y)<|rlc (.dat Y)<|rlc (.dat Y)<|rlc (.dat Y)<|rlc (.own _ Y)<|rlc (.own _ Y) rln)<|.cons Y (roM D44)<|.cons Y (roM D120) .nil) Y Y) fun n4 s4 h=>?_
     obtain⟨p2,l2,keep2,state,kept,marks,p3,l3,keep3,state2,kept2,marks2,i⟩:=s4
     replace h:=Zrb h
     refine Zq3<|?_
     unfold Z3 at h
     refine Tr<|R2 ZV Y<|Za<|Zm<|If h Y (fun h=>?_) fun h=>?_
     ·
      refine Zh<|Zm<|Zl<|K5 9 11 48 49 50 Y<|Tr<|bE h fun x4 h_x4 h=>Rq Y (ZU (ov Y) (ov Y) ZlW h_x4)<|Rq Y (Zr (ov Y) Zmg Y Y)<|Rx Y (Zz (row:= [_,_,_]) 6 Y Zpr Y tZ_72)<|Rx Y (Zk (ov Y) (ov Y) (Zo Zmg Y) Y Y Y (Nat.le_of_ble_eq_true Y) (Zd Y) Y)<|Za<|K6 9 11 14 48 49 50 Y<|Tr<|Ra Y<|Ra Y<|Ra Y<|Za<|K8 9 11 14 15 16 48 49 50 Y<|Tr<|Ra Y<|Ra Y<|Ra Y<|Za<|ZdJ id (t18 fun p4 l4 keep4 state3 kept3 marks3 p5 l5 keep5 state4 kept4 marks4 n ok e m is f=>⟨[(9,.ptr 0 1 0 0),(11,.ptr 3 1 0 0),(15,.int .i64 n),(16,.bool ok),(17,.int .i64 e),(18,.int .i64 m),(19,.bool is),(20,.int .i64 f),(48,.sl 72 (List.map R72 deeds)),(49,.int .i64 (deeds.length:Int)),(50,.int .i64 i)],[some ⟨91,[[.sl 49 (List.map R49 p4.Instruments),.sl 54 (List.map R54 l4),.int .i64 keep4,.int .i64 state3.Frame,.sl 99 (List.map R99 state3.Memos),.own 1 kept3.length,.own 2 marks3.length]]⟩,some ⟨44,List.map R44 kept3⟩,some ⟨120,List.map R120 marks3⟩,some ⟨118,[[.sl 49 (List.map R49 p5.Instruments),.sl 54 (List.map R54 l5),.int .i64 keep5,.int .i64 state4.Frame,.sl 99 (List.map R99 state4.Memos),.own 4 kept4.length,.own 5 marks4.length]]⟩,some ⟨44,List.map R44 kept4⟩,some ⟨120,List.map R120 marks4⟩]⟩) h (fun h=>?_) fun j h=>?_
      ·
       refine K10 9 11 14 15 16 18 19 48 49 50 Y<|Tr<|Rq Y (Zb (ov Y) Y Y ZhA)<|Rq Y (Zi (ov Y) Y Y Y tS3 Y)<|Za<|Zl<|K11 9 11 14 15 16 18 19 48 49 50 55 Y<|Tr<|R2 ZT Y<|Ra Y<|Za<|K12 9 11 14 15 16 18 19 48 49 50 55 74 Y<|If h Y (fun h=>?_) fun h=>?_
       ·
        refine K10 9 11 14 15 16 18 19 48 49 50 Y<|ZbM (cw:=⟨true,false,[],[],[]⟩) (by kernel_rfl)<|D1 0 Zf Y<|Dq 1 Y (Zb (ov Y) Y Y Zi0)<|Dq 2 Y (Zi (ov Y) Y Y Y tS3 Y)<|ZaL 4 _ Y (by kernel_rfl) Y Y (fun hp'=>Zf<|ov Y)<|bE h fun y13 h_y13 h=>Dw 5 3 Y (Zb (ov Y) Y Y Zi0) (ZK [0,1,2] (Q9 h_y13) (.cons (ov Y) (.ptr _ _ _ Y)<|.cons (ov Y) (.dat Y) .nil) (.cons Y (ro1 (by exact tZ_91.symm)<|rlc (.dat Y)<|rlc (.dat Y)<|rlc (.dat Y)<|rlc (.dat Y)<|rlc (.dat Y)<|rlc (.own _ Y)<|rlc (.own _ Y) rln)<|.cons Y (roM D44)<|.cons Y (roM D120) .nil) Y (.lent 0 (.inl Y) Y (ro1 (by exact tZ_91.symm)<|rlc (.dat Y)<|rlc (.dat Y)<|rlc (.dat Y)<|rlc (.dat Y)<|rlc (.dat Y)<|rlc (.own _<|.inr ⟨Nat.le_of_ble_eq_true Y,Y⟩)<|rlc (.own _<|.inr ⟨Nat.le_of_ble_eq_true Y,Y⟩) rln)<|.none<|.none<|.keep Y Y<|.keep Y Y<|.keep Y Y<|.keep Y Y<|.lent 3 (.inr ⟨Nat.le_of_ble_eq_true Y,Y⟩) Y (roM D44)<|.lent 4 (.inr ⟨Nat.le_of_ble_eq_true Y,Y⟩) Y (roM D120) .nil) Y Y<|.dat Y) ?_ ?_
        ·
         refine Dw 6 3 Y (Zi (ov Y) Y Y Y tS3 Y) (ZK [0,1,2] (Q9 h_y13) (.cons (ov Y) (.ptr _ _ _ Y)<|.cons (ov Y) (.dat Y) .nil) (.cons Y (ro1 (by exact tZ_91.symm)<|rlc (.dat Y)<|rlc (.dat Y)<|rlc (.dat Y)<|rlc (.dat Y)<|rlc (.dat Y)<|rlc (.own _ Y)<|rlc (.own _ Y) rln)<|.cons Y (roM D44)<|.cons Y (roM D120) .nil) Y (.lent 0 (.inl Y) Y (ro1 (by exact tZ_91.symm)<|rlc (.dat Y)<|rlc (.dat Y)<|rlc (.dat Y)<|rlc (.dat Y)<|rlc (.dat Y)<|rlc (.own _<|.inr ⟨Nat.le_of_ble_eq_true Y,Y⟩)<|rlc (.own _<|.inr ⟨Nat.le_of_ble_eq_true Y,Y⟩) rln)<|.none<|.none<|.keep Y Y<|.keep Y Y<|.keep Y Y<|.keep Y Y<|.lent 3 (.inr ⟨Nat.le_of_ble_eq_true Y,Y⟩) Y (roM D44)<|.lent 4 (.inr ⟨Nat.le_of_ble_eq_true Y,Y⟩) Y (roM D120) .nil) Y Y<|.dat Y) ?_ ?_
         ·
          exact Do 3 Y (ZK [0,1,2] (Q9 h_y13) (.cons (ov Y) (.ptr _ _ _ Y)<|.cons (ov Y) (.dat Y) .nil) (.cons Y (ro1 (by exact tZ_91.symm)<|rlc (.dat Y)<|rlc (.dat Y)<|rlc (.dat Y)<|rlc (.dat Y)<|rlc (.dat Y)<|rlc (.own _ Y)<|rlc (.own _ Y) rln)<|.cons Y (roM D44)<|.cons Y (roM D120) .nil) Y (.lent 0 (.inl Y) Y (ro1 (by exact tZ_91.symm)<|rlc (.dat Y)<|rlc (.dat Y)<|rlc (.dat Y)<|rlc (.dat Y)<|rlc (.dat Y)<|rlc (.own _<|.inr ⟨Nat.le_of_ble_eq_true Y,Y⟩)<|rlc (.own _<|.inr ⟨Nat.le_of_ble_eq_true Y,Y⟩) rln)<|.none<|.none<|.keep Y Y<|.keep Y Y<|.keep Y Y<|.keep Y Y<|.lent 3 (.inr ⟨Nat.le_of_ble_eq_true Y,Y⟩) Y (roM D44)<|.lent 4 (.inr ⟨Nat.le_of_ble_eq_true Y,Y⟩) Y (roM D120) .nil) Y Y<|.dat Y)<|bE h fun y14 h_y14 h=>Do 7 Y (ZK [3,4,5] (Jk h_y14) (.cons (ov Y) (.ptr _ _ _ Y)<|.cons (ov Y) (.dat Y) .nil) (.cons Y (ro1 (by exact tZ_118.symm)<|rlc (.dat Y)<|rlc (.dat Y)<|rlc (.dat Y)<|rlc (.dat Y)<|rlc (.dat Y)<|rlc (.own _ Y)<|rlc (.own _ Y) rln)<|.cons Y (roM D44)<|.cons Y (roM D120) .nil) Y (.keep Y Y<|.none<|.none<|.lent 0 (.inl Y) Y (ro1 (by exact tZ_118.symm)<|rlc (.dat Y)<|rlc (.dat Y)<|rlc (.dat Y)<|rlc (.dat Y)<|rlc (.dat Y)<|rlc (.own _<|.inr ⟨Nat.le_of_ble_eq_true Y,Y⟩)<|rlc (.own _<|.inr ⟨Nat.le_of_ble_eq_true Y,Y⟩) rln)<|.none<|.none<|.keep Y Y<|.keep Y Y<|.keep Y Y<|.lent 3 (.inr ⟨Nat.le_of_ble_eq_true Y,Y⟩) Y (roM D44)<|.lent 4 (.inr ⟨Nat.le_of_ble_eq_true Y,Y⟩) Y (roM D120) .nil) Y Y<|.dat Y)<|D1 8 Qp Y<|D1 9 Qp Y<|Dd<|⟨_,h,ES [some 0,some 7,some 8,some 3,some 9,some 10]⟩
         ·
          exact Dq 6 Y (Zi (ov Y) Y Y Y tS3 Y)<|bE h fun y14 h_y14 h=>Do 7 Y (ZK [3,4,5] (Jk h_y14) (.cons (ov Y) (.ptr _ _ _ Y)<|.cons (ov Y) (.dat Y) .nil) (.cons Y (ro1 (by exact tZ_118.symm)<|rlc (.dat Y)<|rlc (.dat Y)<|rlc (.dat Y)<|rlc (.dat Y)<|rlc (.dat Y)<|rlc (.own _ Y)<|rlc (.own _ Y) rln)<|.cons Y (roM D44)<|.cons Y (roM D120) .nil) Y (.keep Y Y<|.none<|.none<|.lent 0 (.inl Y) Y (ro1 (by exact tZ_118.symm)<|rlc (.dat Y)<|rlc (.dat Y)<|rlc (.dat Y)<|rlc (.dat Y)<|rlc (.dat Y)<|rlc (.own _<|.inr ⟨Nat.le_of_ble_eq_true Y,Y⟩)<|rlc (.own _<|.inr ⟨Nat.le_of_ble_eq_true Y,Y⟩) rln)<|.none<|.none<|.keep Y Y<|.keep Y Y<|.keep Y Y<|.lent 3 (.inr ⟨Nat.le_of_ble_eq_true Y,Y⟩) Y (roM D44)<|.lent 4 (.inr ⟨Nat.le_of_ble_eq_true Y,Y⟩) Y (roM D120) .nil) Y Y<|.dat Y)<|D1 8 Qp Y<|D1 9 Qp Y<|Dd<|⟨_,h,ES [some 0,some 7,some 8,some 3,some 9,some 10]⟩
        ·
         exact Dq 5 Y (Zb (ov Y) Y Y Zi0)<|Dq 6 Y (Zi (ov Y) Y Y Y tS3 Y)<|bE h fun y14 h_y14 h=>Do 7 Y (ZK [3,4,5] (Jk h_y14) (.cons (ov Y) (.ptr _ _ _ Y)<|.cons (ov Y) (.dat Y) .nil) (.cons Y (ro1 (by exact tZ_118.symm)<|rlc (.dat Y)<|rlc (.dat Y)<|rlc (.dat Y)<|rlc (.dat Y)<|rlc (.dat Y)<|rlc (.own _ Y)<|rlc (.own _ Y) rln)<|.cons Y (roM D44)<|.cons Y (roM D120) .nil) Y (.keep Y Y<|.none<|.none<|.lent 0 (.inl Y) Y (ro1 (by exact tZ_118.symm)<|rlc (.dat Y)<|rlc (.dat Y)<|rlc (.dat Y)<|rlc (.dat Y)<|rlc (.dat Y)<|rlc (.own _<|.inr ⟨Nat.le_of_ble_eq_true Y,Y⟩)<|rlc (.own _<|.inr ⟨Nat.le_of_ble_eq_true Y,Y⟩) rln)<|.none<|.none<|.keep Y Y<|.keep Y Y<|.keep Y Y<|.lent 3 (.inr ⟨Nat.le_of_ble_eq_true Y,Y⟩) Y (roM D44)<|.lent 4 (.inr ⟨Nat.le_of_ble_eq_true Y,Y⟩) Y (roM D120) .nil) Y Y<|.dat Y)<|D1 8 Qp Y<|D1 9 Qp Y<|Dd<|⟨_,h,ES [some 0,some 7,some 8,some 3,some 9,some 10]⟩
       ·
        refine K11 9 11 14 15 16 18 19 48 49 50 55 Y<|Tr<|R2 ZT Y<|Ra Y<|Za<|K12 9 11 14 15 16 18 19 48 49 50 55 84 Y<|If h Y (fun h=>?_) fun h=>?_
        ·
         exact K9 9 11 14 15 16 19 48 49 50 Y<|Tr<|Rm Y<|Rq Y (Zb (ov Y) Y Y Zi0)<|Rq Y (Zi (ov Y) Y Y Y tS3 Y)<|bE h fun y15 h_y15 h=>Rx Y (ZK [0,1,2] (X6 h_y15) (.cons (ov Y) (.ptr _ _ _ Y)<|.cons (ov Y) (.dat Y) .nil) (.cons Y (ro1 (by exact tZ_91.symm)<|rlc (.dat Y)<|rlc (.dat Y)<|rlc (.dat Y)<|rlc (.dat Y)<|rlc (.dat Y)<|rlc (.own _ Y)<|rlc (.own _ Y) rln)<|.cons Y (roM D44)<|.cons Y (roM D120) .nil) Y (.lent 0 (.inl Y) Y (ro1 (by exact tZ_91.symm)<|rlc (.dat Y)<|rlc (.dat Y)<|rlc (.dat Y)<|rlc (.dat Y)<|rlc (.dat Y)<|rlc (.own _<|.inr ⟨Nat.le_of_ble_eq_true Y,Y⟩)<|rlc (.own _<|.inr ⟨Nat.le_of_ble_eq_true Y,Y⟩) rln)<|.none<|.none<|.keep Y Y<|.keep Y Y<|.keep Y Y<|.keep Y Y<|.lent 3 (.inr ⟨Nat.le_of_ble_eq_true Y,Y⟩) Y (roM D44)<|.lent 4 (.inr ⟨Nat.le_of_ble_eq_true Y,Y⟩) Y (roM D120) .nil) Y Y<|JO<|rld Y)<|Rm Y<|Rq Y (Zq (ov Y) Y)<|Rq Y (Zq (ov Y) Y)<|Ra Y<|Ra Y<|Za<|K10 9 11 14 15 16 17 19 48 49 50 Y<|Zw<|Rm Y<|Rq Y (Zb (ov Y) Y Y Zi0)<|Rq Y (Zi (ov Y) Y Y Y tS3 Y)<|bE h fun y16 h_y16 h=>Rx Y (ZK [3,4,5] (Za5 h_y16) (.cons (ov Y) (.ptr _ _ _ Y)<|.cons (ov Y) (.dat Y) .nil) (.cons Y (ro1 (by exact tZ_118.symm)<|rlc (.dat Y)<|rlc (.dat Y)<|rlc (.dat Y)<|rlc (.dat Y)<|rlc (.dat Y)<|rlc (.own _ Y)<|rlc (.own _ Y) rln)<|.cons Y (roM D44)<|.cons Y (roM D120) .nil) Y (.keep Y Y<|.none<|.none<|.lent 0 (.inl Y) Y (ro1 (by exact tZ_118.symm)<|rlc (.dat Y)<|rlc (.dat Y)<|rlc (.dat Y)<|rlc (.dat Y)<|rlc (.dat Y)<|rlc (.own _<|.inr ⟨Nat.le_of_ble_eq_true Y,Y⟩)<|rlc (.own _<|.inr ⟨Nat.le_of_ble_eq_true Y,Y⟩) rln)<|.none<|.none<|.keep Y Y<|.keep Y Y<|.keep Y Y<|.lent 3 (.inr ⟨Nat.le_of_ble_eq_true Y,Y⟩) Y (roM D44)<|.lent 4 (.inr ⟨Nat.le_of_ble_eq_true Y,Y⟩) Y (roM D120) .nil) Y Y<|JO<|rld Y)<|Rm Y<|Rq Y (Zq (ov Y) Y)<|Rq Y (Zq (ov Y) Y)<|Ra Y<|Ra Y<|Za<|⟨_,h,ES [some 0,some 7,some 8,some 3,some 9,some 10]⟩
        ·
         refine K11 9 11 14 15 16 18 19 48 49 50 55 Y<|Tr<|R2 ZT Y<|Ra Y<|Za<|K11 9 11 14 15 16 18 19 48 49 50 100 Y<|If h Y (fun h=>?_) fun h=>?_
         ·
          refine K10 9 11 14 15 16 18 19 48 49 50 Y<|ZbM (cw:=⟨true,false,[],[],[]⟩) (by kernel_rfl)<|D1 0 Zf Y<|Dq 1 Y (Zb (ov Y) Y Y Zmz)<|Dq 2 Y (Zi (ov Y) Y Y Y tS9 Y)<|ZaL 4 _ Y (by kernel_rfl) Y Y (fun hp'=>Zf<|ov Y)<|bE h fun y17 h_y17 h=>Dw 5 3 Y (Zb (ov Y) Y Y Zmz) (ZK [0,1,2] (X4 h_y17) (.cons (ov Y) (.ptr _ _ _ Y)<|.cons (ov Y) (.dat Y) .nil) (.cons Y (ro1 (by exact tZ_91.symm)<|rlc (.dat Y)<|rlc (.dat Y)<|rlc (.dat Y)<|rlc (.dat Y)<|rlc (.dat Y)<|rlc (.own _ Y)<|rlc (.own _ Y) rln)<|.cons Y (roM D44)<|.cons Y (roM D120) .nil) Y (.lent 0 (.inl Y) Y (ro1 (by exact tZ_91.symm)<|rlc (.dat Y)<|rlc (.dat Y)<|rlc (.dat Y)<|rlc (.dat Y)<|rlc (.dat Y)<|rlc (.own _<|.inr ⟨Nat.le_of_ble_eq_true Y,Y⟩)<|rlc (.own _<|.inr ⟨Nat.le_of_ble_eq_true Y,Y⟩) rln)<|.none<|.none<|.keep Y Y<|.keep Y Y<|.keep Y Y<|.keep Y Y<|.lent 3 (.inr ⟨Nat.le_of_ble_eq_true Y,Y⟩) Y (roM D44)<|.lent 4 (.inr ⟨Nat.le_of_ble_eq_true Y,Y⟩) Y (roM D120) .nil) Y Y<|.dat Y) ?_ ?_
          ·
           refine Dw 6 3 Y (Zi (ov Y) Y Y Y tS9 Y) (ZK [0,1,2] (X4 h_y17) (.cons (ov Y) (.ptr _ _ _ Y)<|.cons (ov Y) (.dat Y) .nil) (.cons Y (ro1 (by exact tZ_91.symm)<|rlc (.dat Y)<|rlc (.dat Y)<|rlc (.dat Y)<|rlc (.dat Y)<|rlc (.dat Y)<|rlc (.own _ Y)<|rlc (.own _ Y) rln)<|.cons Y (roM D44)<|.cons Y (roM D120) .nil) Y (.lent 0 (.inl Y) Y (ro1 (by exact tZ_91.symm)<|rlc (.dat Y)<|rlc (.dat Y)<|rlc (.dat Y)<|rlc (.dat Y)<|rlc (.dat Y)<|rlc (.own _<|.inr ⟨Nat.le_of_ble_eq_true Y,Y⟩)<|rlc (.own _<|.inr ⟨Nat.le_of_ble_eq_true Y,Y⟩) rln)<|.none<|.none<|.keep Y Y<|.keep Y Y<|.keep Y Y<|.keep Y Y<|.lent 3 (.inr ⟨Nat.le_of_ble_eq_true Y,Y⟩) Y (roM D44)<|.lent 4 (.inr ⟨Nat.le_of_ble_eq_true Y,Y⟩) Y (roM D120) .nil) Y Y<|.dat Y) ?_ ?_
           ·
            exact Do 3 Y (ZK [0,1,2] (X4 h_y17) (.cons (ov Y) (.ptr _ _ _ Y)<|.cons (ov Y) (.dat Y) .nil) (.cons Y (ro1 (by exact tZ_91.symm)<|rlc (.dat Y)<|rlc (.dat Y)<|rlc (.dat Y)<|rlc (.dat Y)<|rlc (.dat Y)<|rlc (.own _ Y)<|rlc (.own _ Y) rln)<|.cons Y (roM D44)<|.cons Y (roM D120) .nil) Y (.lent 0 (.inl Y) Y (ro1 (by exact tZ_91.symm)<|rlc (.dat Y)<|rlc (.dat Y)<|rlc (.dat Y)<|rlc (.dat Y)<|rlc (.dat Y)<|rlc (.own _<|.inr ⟨Nat.le_of_ble_eq_true Y,Y⟩)<|rlc (.own _<|.inr ⟨Nat.le_of_ble_eq_true Y,Y⟩) rln)<|.none<|.none<|.keep Y Y<|.keep Y Y<|.keep Y Y<|.keep Y Y<|.lent 3 (.inr ⟨Nat.le_of_ble_eq_true Y,Y⟩) Y (roM D44)<|.lent 4 (.inr ⟨Nat.le_of_ble_eq_true Y,Y⟩) Y (roM D120) .nil) Y Y<|.dat Y)<|bE h fun y18 h_y18 h=>Do 7 Y (ZK [3,4,5] (Ji h_y18) (.cons (ov Y) (.ptr _ _ _ Y)<|.cons (ov Y) (.dat Y) .nil) (.cons Y (ro1 (by exact tZ_118.symm)<|rlc (.dat Y)<|rlc (.dat Y)<|rlc (.dat Y)<|rlc (.dat Y)<|rlc (.dat Y)<|rlc (.own _ Y)<|rlc (.own _ Y) rln)<|.cons Y (roM D44)<|.cons Y (roM D120) .nil) Y (.keep Y Y<|.none<|.none<|.lent 0 (.inl Y) Y (ro1 (by exact tZ_118.symm)<|rlc (.dat Y)<|rlc (.dat Y)<|rlc (.dat Y)<|rlc (.dat Y)<|rlc (.dat Y)<|rlc (.own _<|.inr ⟨Nat.le_of_ble_eq_true Y,Y⟩)<|rlc (.own _<|.inr ⟨Nat.le_of_ble_eq_true Y,Y⟩) rln)<|.none<|.none<|.keep Y Y<|.keep Y Y<|.keep Y Y<|.lent 3 (.inr ⟨Nat.le_of_ble_eq_true Y,Y⟩) Y (roM D44)<|.lent 4 (.inr ⟨Nat.le_of_ble_eq_true Y,Y⟩) Y (roM D120) .nil) Y Y<|.dat Y)<|D1 8 Qp Y<|D1 9 Qp Y<|Dd<|⟨_,h,ES [some 0,some 7,some 8,some 3,some 9,some 10]⟩
           ·
            exact Dq 6 Y (Zi (ov Y) Y Y Y tS9 Y)<|bE h fun y18 h_y18 h=>Do 7 Y (ZK [3,4,5] (Ji h_y18) (.cons (ov Y) (.ptr _ _ _ Y)<|.cons (ov Y) (.dat Y) .nil) (.cons Y (ro1 (by exact tZ_118.symm)<|rlc (.dat Y)<|rlc (.dat Y)<|rlc (.dat Y)<|rlc (.dat Y)<|rlc (.dat Y)<|rlc (.own _ Y)<|rlc (.own _ Y) rln)<|.cons Y (roM D44)<|.cons Y (roM D120) .nil) Y (.keep Y Y<|.none<|.none<|.lent 0 (.inl Y) Y (ro1 (by exact tZ_118.symm)<|rlc (.dat Y)<|rlc (.dat Y)<|rlc (.dat Y)<|rlc (.dat Y)<|rlc (.dat Y)<|rlc (.own _<|.inr ⟨Nat.le_of_ble_eq_true Y,Y⟩)<|rlc (.own _<|.inr ⟨Nat.le_of_ble_eq_true Y,Y⟩) rln)<|.none<|.none<|.keep Y Y<|.keep Y Y<|.keep Y Y<|.lent 3 (.inr ⟨Nat.le_of_ble_eq_true Y,Y⟩) Y (roM D44)<|.lent 4 (.inr ⟨Nat.le_of_ble_eq_true Y,Y⟩) Y (roM D120) .nil) Y Y<|.dat Y)<|D1 8 Qp Y<|D1 9 Qp Y<|Dd<|⟨_,h,ES [some 0,some 7,some 8,some 3,some 9,some 10]⟩
          ·
           exact Dq 5 Y (Zb (ov Y) Y Y Zmz)<|Dq 6 Y (Zi (ov Y) Y Y Y tS9 Y)<|bE h fun y18 h_y18 h=>Do 7 Y (ZK [3,4,5] (Ji h_y18) (.cons (ov Y) (.ptr _ _ _ Y)<|.cons (ov Y) (.dat Y) .nil) (.cons Y (ro1 (by exact tZ_118.symm)<|rlc (.dat Y)<|rlc (.dat Y)<|rlc (.dat Y)<|rlc (.dat Y)<|rlc (.dat Y)<|rlc (.own _ Y)<|rlc (.own _ Y) rln)<|.cons Y (roM D44)<|.cons Y (roM D120) .nil) Y (.keep Y Y<|.none<|.none<|.lent 0 (.inl Y) Y (ro1 (by exact tZ_118.symm)<|rlc (.dat Y)<|rlc (.dat Y)<|rlc (.dat Y)<|rlc (.dat Y)<|rlc (.dat Y)<|rlc (.own _<|.inr ⟨Nat.le_of_ble_eq_true Y,Y⟩)<|rlc (.own _<|.inr ⟨Nat.le_of_ble_eq_true Y,Y⟩) rln)<|.none<|.none<|.keep Y Y<|.keep Y Y<|.keep Y Y<|.lent 3 (.inr ⟨Nat.le_of_ble_eq_true Y,Y⟩) Y (roM D44)<|.lent 4 (.inr ⟨Nat.le_of_ble_eq_true Y,Y⟩) Y (roM D120) .nil) Y Y<|.dat Y)<|D1 8 Qp Y<|D1 9 Qp Y<|Dd<|⟨_,h,ES [some 0,some 7,some 8,some 3,some 9,some 10]⟩
         ·
          exact K8 9 11 14 15 16 48 49 50 Y<|Tr<|Rm Y<|Rq Y (Zb (ov Y) Y Y ZhA)<|Rq Y (Zi (ov Y) Y Y Y tS3 Y)<|R2 ZT Y<|bE h fun y19 h_y19 h=>Rx Y (ZK [0,1,2] (ZaU h_y19) (.cons (ov Y) (.ptr _ _ _ Y)<|.cons (ov Y) (.dat Y) .nil) (.cons Y (ro1 (by exact tZ_91.symm)<|rlc (.dat Y)<|rlc (.dat Y)<|rlc (.dat Y)<|rlc (.dat Y)<|rlc (.dat Y)<|rlc (.own _ Y)<|rlc (.own _ Y) rln)<|.cons Y (roM D44)<|.cons Y (roM D120) .nil) Y (.lent 0 (.inl Y) Y (ro1 (by exact tZ_91.symm)<|rlc (.dat Y)<|rlc (.dat Y)<|rlc (.dat Y)<|rlc (.dat Y)<|rlc (.dat Y)<|rlc (.own _<|.inr ⟨Nat.le_of_ble_eq_true Y,Y⟩)<|rlc (.own _<|.inr ⟨Nat.le_of_ble_eq_true Y,Y⟩) rln)<|.none<|.none<|.keep Y Y<|.keep Y Y<|.keep Y Y<|.keep Y Y<|.lent 3 (.inr ⟨Nat.le_of_ble_eq_true Y,Y⟩) Y (roM D44)<|.lent 4 (.inr ⟨Nat.le_of_ble_eq_true Y,Y⟩) Y (roM D120) .nil) Y Y<|JO<|rld Y)<|Rm Y<|Rq Y (Zq (ov Y) Y)<|Rq Y (Zq (ov Y) Y)<|Rq Y (Zq (ov Y) Y)<|Ra Y<|Ra Y<|Ra Y<|Za<|K9 9 11 14 15 16 17 48 49 50 Y<|Zw<|Rm Y<|Rq Y (Zb (ov Y) Y Y ZhA)<|Rq Y (Zi (ov Y) Y Y Y tS3 Y)<|R2 ZT Y<|bE h fun y20 h_y20 h=>Rx Y (ZK [3,4,5] (ZdO h_y20) (.cons (ov Y) (.ptr _ _ _ Y)<|.cons (ov Y) (.dat Y) .nil) (.cons Y (ro1 (by exact tZ_118.symm)<|rlc (.dat Y)<|rlc (.dat Y)<|rlc (.dat Y)<|rlc (.dat Y)<|rlc (.dat Y)<|rlc (.own _ Y)<|rlc (.own _ Y) rln)<|.cons Y (roM D44)<|.cons Y (roM D120) .nil) Y (.keep Y Y<|.none<|.none<|.lent 0 (.inl Y) Y (ro1 (by exact tZ_118.symm)<|rlc (.dat Y)<|rlc (.dat Y)<|rlc (.dat Y)<|rlc (.dat Y)<|rlc (.dat Y)<|rlc (.own _<|.inr ⟨Nat.le_of_ble_eq_true Y,Y⟩)<|rlc (.own _<|.inr ⟨Nat.le_of_ble_eq_true Y,Y⟩) rln)<|.none<|.none<|.keep Y Y<|.keep Y Y<|.keep Y Y<|.lent 3 (.inr ⟨Nat.le_of_ble_eq_true Y,Y⟩) Y (roM D44)<|.lent 4 (.inr ⟨Nat.le_of_ble_eq_true Y,Y⟩) Y (roM D120) .nil) Y Y<|JO<|rld Y)<|Rm Y<|Rq Y (Zq (ov Y) Y)<|Rq Y (Zq (ov Y) Y)<|Rq Y (Zq (ov Y) Y)<|Ra Y<|Ra Y<|Ra Y<|Za<|⟨_,h,ES [some 0,some 7,some 8,some 3,some 9,some 10]⟩
      ·
       obtain⟨p4,l4,keep4,state3,kept3,marks3,p5,l5,keep5,state4,kept4,marks4,n,ok,e,m,is,f⟩:=j
       replace h:=Zrd h
       refine Zq6<|Tr<|Rm Y<|Rm Y<|R2 Qo Y<|Rm Y<|Rq Y (.guarded ((!decide (n=m))==false) Y Y Y Y fun h=>Zf<|ov Y)<|Rq Y (.guarded ((!decide (n=m))==false) Y Y Y Y fun h=>Zf<|ov Y)<|Rq Y (.guarded ((!decide (n=m))==false) Y Y Y Y fun h=>Zki .neq (by simp) (ow Y h) (ow Y h) tB4)<|Rq Y (Xi (ov Y) fun hp=>ow Y<|gF hp)<|Rm Y<|Rq Y (.guarded (((!decide (n=m)) || (!(ok==is)))==false) Y Y Y Y fun h=>Zf<|ov Y)<|Rq Y (.guarded (((!decide (n=m)) || (!(ok==is)))==false) Y Y Y Y fun h=>Zf<|ov Y)<|Rq Y (.guarded (((!decide (n=m)) || (!(ok==is)))==false) Y Y Y Y fun h=>Qo (ow Y h)<|ow Y h)<|Rq Y (Xi (ov Y) fun hp=>ow Y<|gF hp)<|Rm Y<|Rq Y (.guarded ((((!decide (n=m)) || (!(ok==is))) || (!decide (e=f)))==false) Y Y Y Y fun h=>Zf<|ov Y)<|Rq Y (.guarded ((((!decide (n=m)) || (!(ok==is))) || (!decide (e=f)))==false) Y Y Y Y fun h=>Zf<|ov Y)<|?_
       rcases ifR h with ⟨hg,h⟩ | ⟨hg,h⟩
       ·
        refine Zgi (d:=123) (b':=false) Y (Znn hg)<|bE h fun y21 h_y21 h=>ZkF _ _ Y Y Y Y (ZK [0,1,2,3,4,5] (Zds h_y21) (.cons (ow Y<|by first |rfl |exact hg |simp_all) (.ptr _ _ _ Y)<|.cons (ow Y<|by first |rfl |exact hg |simp_all) (.ptr _ _ _ Y) .nil) (.cons Y (ro1 (by exact tZ_91.symm)<|rlc (.dat Y)<|rlc (.dat Y)<|rlc (.dat Y)<|rlc (.dat Y)<|rlc (.dat Y)<|rlc (.own _ Y)<|rlc (.own _ Y) rln)<|.cons Y (roM D44)<|.cons Y (roM D120)<|.cons Y (ro1 (by exact tZ_118.symm)<|rlc (.dat Y)<|rlc (.dat Y)<|rlc (.dat Y)<|rlc (.dat Y)<|rlc (.dat Y)<|rlc (.own _ Y)<|rlc (.own _ Y) rln)<|.cons Y (roM D44)<|.cons Y (roM D120) .nil) Y (.lent 0 (.inl Y) Y (ro1 (by exact tZ_91.symm)<|rlc (.dat Y)<|rlc (.dat Y)<|rlc (.dat Y)<|rlc (.dat Y)<|rlc (.dat Y)<|rlc (.own _<|.inr ⟨Nat.le_of_ble_eq_true Y,Y⟩)<|rlc (.own _<|.inr ⟨Nat.le_of_ble_eq_true Y,Y⟩) rln)<|.none<|.none<|.lent 3 (.inl Y) Y (ro1 (by exact tZ_118.symm)<|rlc (.dat Y)<|rlc (.dat Y)<|rlc (.dat Y)<|rlc (.dat Y)<|rlc (.dat Y)<|rlc (.own _<|.inr ⟨Nat.le_of_ble_eq_true Y,Y⟩)<|rlc (.own _<|.inr ⟨Nat.le_of_ble_eq_true Y,Y⟩) rln)<|.none<|.none<|.lent 6 (.inr ⟨Nat.le_of_ble_eq_true Y,Y⟩) Y (roM D44)<|.lent 7 (.inr ⟨Nat.le_of_ble_eq_true Y,Y⟩) Y (roM D120)<|.lent 8 (.inr ⟨Nat.le_of_ble_eq_true Y,Y⟩) Y (roM D44)<|.lent 9 (.inr ⟨Nat.le_of_ble_eq_true Y,Y⟩) Y (roM D120) .nil) Y Y<|.dat Y)<|Rq Y (.guarded (false==false) Y Y Y Y fun h=>QA<|ov Y)<|Rq Y (Xi (ov Y) fun hp=>ow Y<|gF hp)<|Za<|K6 9 11 48 49 50 128 Y<|If h Y (fun h=>?_) fun h=>?_
        ·
         refine K0<|Tr<|Ra Y<|Za<|?_
         replace h:=lx h▸ho4
         obtain rfl:=rt h
         exact Zj (Zu Y (.one<|rb Y))
        ·
         exact Zh<|K5 9 11 48 49 50 Y<|Zw<|R2 QB Y<|Rm Y<|Za<|⟨_,h,ES [some 0,some 6,some 7,some 3,some 8,some 9]⟩
       ·
        refine Zgi (d:=123) (b':=true) Y (Zny hg)<|XY Y Y Y Y Y<|bE h fun u h_u h=>R_q (.when (true==false)<|.bool false) Y (.guarded (true==false) Y Y Y Y fun h=>ZfM<|gdT h_u h)<|Rq Y (Xi (ov Y) fun hp=>ow Y<|gF hp)<|Za<|K6 9 11 48 49 50 128 Y<|If h Y (fun h=>?_) fun h=>?_
        ·
         refine K0<|Tr<|Ra Y<|Za<|?_
         replace h:=lx h▸ho4
         obtain rfl:=rt h
         exact Zj (Zu Y (.one<|rb Y))
        ·
         exact Zh<|K5 9 11 48 49 50 Y<|Zw<|R2 QB Y<|Rm Y<|Za<|⟨_,h,ES [some 0,some 1,some 2,some 3,some 4,some 5]⟩
     ·
      refine ZL<|?_
      replace h:=lx h▸ho4
      exact⟨(),h,ES []⟩
    ·
     replace h:=elr h
     replace h:=t0i h
     refine Tr<|bE h fun y22 h_y22 h=>Rq Y (Zn (JP h_y22) .nil)<|Ra Y<|Za<|?_
     obtain rfl:=rt h
     exact Zj (Zu Y (.one<|rb Y))
end Go.Proofs.YtailpehcgelmdaaGreatDoor
