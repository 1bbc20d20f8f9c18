/- A text of the proof: a verified executor of the program form, or the contracts of the functions that the law reaches. -/
import Derived.Test.YtjjknklgafdeiaaGreatDoorOkWc
set_option linter.all false
namespace Go.Proofs.YtjjknklgafdeiaaGreatDoor
open Go Go.Vx
set_option maxRecDepth 10000
set_option maxHeartbeats 1000000
set_option linter.unusedVariables false
theorem ZhA{h_:List Int}{r:(List api_Rest)}(h:XZ h_=some r):
 CSpec Tryz.prog gl0 20 [.sl 5 (List.map R5 h_)] (.sl 52 (List.map R52 r)):=by
 unfold XZ at h
 replace h:=Qk h
 refine So Tryz.func20 Y fun w0 A=>Tr<|Ra Y<|Za<|K1 0 Y<|Tr<|Rm Y<|bE h fun y h_y h=>Rq Y (Zq (ZfG h_y)<|.cons (ov Y) (.b Y) .nil)<|Ra Y<|Za<|K1 3 Y<|Tr<|Ra Y<|Za<|I1 (fun l=>⟨[(4,.own 0 l.length)],[some ⟨52,List.map R52 l⟩]⟩) h (fun h=>?_) fun l h=>?_
 ·
  refine Tr<|Rm Y<|R1 ZD Y<|Rq Y (ZE (ov Y) ZcT)<|Rq Y (Zd (ov Y) Zge Y)<|Rl tZ_47 Zaw Y<|Rm Y<|Za<|Zi<|?_
  obtain⟨r1,hl1,ho1⟩:=QZ h
  refine L2 (fun l2 i=>⟨[(3,.rp [.sl 5 (List.map R5 y.h_),.sl 47 (List.map R47 y.certain),.sl 3 (List.map R3 y.numbers),.any] 0),(4,.own 0 l2.length),(16,.sl 47 (List.map R47 y.certain)),(17,.int .i64 (y.certain.length:Int)),(18,.int .i64 i)],[some ⟨52,List.map R52 l2⟩]⟩) hl1 (ES [none]) fun n1 l2 i h=>?_
  unfold Jp at h
  refine Tr<|R2 ZV Y<|Za<|Zl<|If h Y (fun h=>?_) fun h=>?_
  ·
   refine Zj<|I1 (fun l3=>⟨[(3,.rp [.sl 5 (List.map R5 y.h_),.sl 47 (List.map R47 y.certain),.sl 3 (List.map R3 y.numbers),.any] 0),(4,.own 0 l3.length),(16,.sl 47 (List.map R47 y.certain)),(17,.int .i64 (y.certain.length:Int)),(18,.int .i64 i)],[some ⟨52,List.map R52 l3⟩]⟩) h (fun h=>?_) fun l3 h=>?_
   ·
    refine Zi<|K5 3 4 16 17 18 Y<|Tr<|Rm Y<|bE h fun x h_x h=>Rq Y (ZW (ov Y) (ov Y) Zaw h_x)<|Rq Y (ZU (ov Y) Zf9 (Zu<|Zh Xq) Xq)<|Rx Y (ZP (row:=(.int .i64 0)::((List.map C35 (Vector.replicate 64 0).toList)++([]))) 1 Y ZlH (by kernel_rfl)<|by exact Eq.symm (Eq.trans (b:=65) Xq tZ_47.symm))<|Ra Y<|Rx Y (Zf (ov Y) (ov Y) (Zp Zf9 Xq) Y Y Y (ZG (Zh Xq) Xq) (Zb Zmh)<|ZO<|Eq.trans Xq<|Eq.symm Xq)<|Za<|Zl<|K7 3 4 5 6 16 17 18 Y<|Qe (cw:=md0) (by kernel_rfl)<|D1 0 Zc Y<|D1 1 Zc Y<|D1 2 ZD Y<|Dq 3 Y (ZE (ov Y) QQ)<|Dq 4 Y (Zd (ov Y) XA Y)<|D1 5 Zc Y<|bE h fun x2 h_x2 h=>Dq 6 Y (ZW (ov Y) (ov Y) Qp h_x2)<|Dq 7 Y (Zd (ov Y) tS3 Y)<|Dq 8 Y (Ze (ov Y) Y Y ZmJ)<|Dq 9 Y (ZJ (ov Y) Y Y Y Qz (Zu ZpS) arL (hns:=(nsM fun _=>Y)))<|bE h fun y2 h_y2 h=>Dq 10 Y (Zq (Zcg h_y2)<|.cons (ov Y) (.b Y) .nil)<|Dq 11 Y (Zc9 (zr:=(.int .i64 0)::((List.map C35 (Vector.replicate 64 0).toList)++(((List.map C3 (Vector.replicate 64 0).toList)++((.bool false)::(.int .i64 0)::(.bool false):: []))))) ZlG ZlS ZfL (by kernel_rfl) (.cons (cvs (ov Y)<|Z5 Y)<|.cons (cva<|ov Y)<|.cons (cva<|ov Y)<|.cons (cvs (ov Y)<|Z5 Y)<|.cons (cvs (ov Y)<|Z5 Y) .nil)<|Jj Y Y ZbW Zqo<|Jj Y arL Zdd ZjJ<|Jj Y arL Zdy ZjM<|Jj Y Y Zim ZnH<|Jj Y Y ZjH ZnI Zfy)<|Zkz 12 (.sl 52<|List.map R52 ([(api_Rest.mk x2 x.Frame y2 true 1 false)]:List api_Rest)) Y (by kernel_rfl) Y Y (Jm Jg (.cons (cva<|ov Y) ZC (pwD Zak) .nil) Y Y)<|bE h fun l4 h_l4 h=>Do 13 Y (Zv (ov Y) (ZH (ov Y) tZ_52) Jg Y Y Y (fun x=>Zb<|E52 x) Y h_l4)<|D1 14 QK Y<|Dd<|K6 3 4 5 16 17 18 Y<|Tr<|Rm Y<|Rm Y<|bE h fun y3 h_y3 h=>Rq Y (Zq (Zes h_y3)<|.cons (ov Y) (.b Y)<|.cons (ov Y) (.b Y) .nil)<|Rl tZ_3 Qp Y<|Rm Y<|Za<|Zi<|?_
    obtain⟨r2,hl2,ho2⟩:=QZ h
    refine L2 (fun l5 i2=>⟨[(3,.rp [.sl 5 (List.map R5 y.h_),.sl 47 (List.map R47 y.certain),.sl 3 (List.map R3 y.numbers),.any] 0),(4,.own 0 l5.length),(5,.int .i64 i),(16,.sl 47 (List.map R47 y.certain)),(17,.int .i64 (y.certain.length:Int)),(18,.int .i64 i),(39,.sl 3 (List.map R3 y3)),(40,.int .i64 (y3.length:Int)),(41,.int .i64 i2)],[some ⟨52,List.map R52 l5⟩]⟩) hl2 (ES [some 0]) fun n2 l5 i2 h=>?_
    unfold Jr at h
    refine Tr<|R2 ZV Y<|Za<|Zl<|If h Y (fun h=>?_) fun h=>?_
    ·
     refine Zj<|Zl<|Zi<|K9 3 4 5 16 17 18 39 40 41 Y<|Tr<|bE h fun x3 h_x3 h=>Rq Y (ZW (ov Y) (ov Y) Qp h_x3)<|Rq Y (Zd (ov Y) tS3 Y)<|Ra Y<|Za<|K10 3 4 5 8 16 17 18 39 40 41 Y<|Tr<|Rm Y<|Rm Y<|Rm Y<|bE h fun y4 h_y4 h=>Rq Y (Zq (Zem h_y4)<|.cons (ov Y) (.b Y)<|.cons (ov Y) (.b Y)<|.cons (ov Y) (.b Y) .nil)<|Rm Y<|Rq Y (Zk (ov Y) Y)<|Rq Y (Zk (ov Y) Y)<|Rx Y (ZP (row:=(.int .i64 0)::((List.map C35 (Vector.replicate 64 0).toList)++(((List.map C3 (Vector.replicate 64 0).toList)++((.bool false)::(.int .i64 0)::(.bool false):: []))))) 1 Y ZfL (by kernel_rfl)<|by exact Eq.symm (Eq.trans (b:=132) ZC tZ_52.symm))<|Rx Y (Zf (ov Y) (ov Y) (Zp X8 ZC) Y Y Y (ZG (Zh ZC) ZC) (Zb ZeG)<|ZO<|Eq.trans ZC<|Eq.symm ZC)<|Ra Y<|Za<|K11 3 4 5 9 10 16 17 18 39 40 41 Y<|Tr<|Rm Y<|Za<|K11 3 4 5 9 16 17 18 39 40 41 52 Y<|If h Y (fun h=>?_) fun h=>?_
     ·
      exact K10 3 4 5 9 16 17 18 39 40 41 Y<|Zt<|Rm Y<|Rq Y (ZJ (ov Y) Y Y Y X8 (Zu<|Zh ZC) ZC (hns:=Zdi))<|R_q (.sl 52<|List.map R52 ([y4.1]:List api_Rest)) Y (Jm Jg (.cons (cva<|ov Y) ZC (pwD Zak) .nil) Y Y)<|bE h fun l6 h_l6 h=>Rx Y (Zv (ov Y) (ZH (ov Y) tZ_52) Jg Y Y Y (fun x=>Zb<|E52 x) Y h_l6)<|Ra Y<|Za<|K9 3 4 5 16 17 18 39 40 41 Y<|Zt<|R2 ZX Y<|Rm Y<|Za<|⟨_,h,ES [some 0]⟩
     ·
      exact Zj<|K9 3 4 5 16 17 18 39 40 41 Y<|Zt<|R2 ZX Y<|Rm Y<|Za<|⟨_,h,ES [some 0]⟩
    ·
     refine ZI<|?_
     replace h:=lx h▸ho2
     exact⟨_,h,ES [some 0]⟩
   ·
    exact Zt<|R2 ZX Y<|Rm Y<|Za<|⟨_,h,ES [some 0]⟩
  ·
   refine ZI<|?_
   replace h:=lx h▸ho1
   exact⟨_,h,ES [some 0]⟩
 ·
  refine Tr<|Rm Y<|bE h fun y5 h_y5 h=>Zgk (Ent.sel [none] (sr 4 Y (ZpE Y Y Y D52)<|sr 59 Y (ZpE Y Y Y D52) sn) (.row 52 .nil) Y Y)<|Rq Y (Zq (Zgw h_y5)<|.cons (ov Y) (.b Y) .nil)<|Ra Y<|Za<|?_
  obtain rfl:=rt h
  exact Zs (ZK Y (.one<|rb Y))
theorem Zfv{l:List api_Rest}{r:(List api_Rest)}(h:Xi l=some r):
 GSpec Tryz.prog gl0 22 [.sl 52 (List.map R52 l)] [] (.own 0 r.length) [some ⟨52,List.map R52 r⟩]:=by
 unfold Xi at h
 replace h:=Qk h
 refine ZaU (by kernel_rfl) Tryz.func22 Y Y<|?_
 intro w0 A W φ0
 refine Tr<|Ra Y<|Za<|K1 0 Y<|Tr<|Rx Y (ZhL 0 Y X4)<|Ra Y<|Za<|K2 0 3 Y<|Tr<|Ra Y<|Za<|I2 (fun groups numbers=>⟨[(3,.mref 0 1),(4,.own 1 numbers.length)],[some ⟨105,[[.mcon (List.map (Q8 FK3 (osF 52 R52)) groups)]]⟩,some ⟨3,List.map R3 numbers⟩]⟩) h (fun h=>?_) fun groups numbers h=>?_
 ·
  refine Tr<|Rm Y<|Rl tZ_52 Jg Y<|Rm Y<|Za<|Zi<|?_
  obtain⟨r1,hl1,ho1⟩:=QZ h
  refine L3 (fun groups2 numbers2 i=>⟨[(3,.mref 0 1),(4,.own 1 numbers2.length),(11,.sl 52 (List.map R52 l)),(12,.int .i64 (l.length:Int)),(13,.int .i64 i)],[some ⟨105,[[.mcon (List.map (Q8 FK3 (osF 52 R52)) groups2)]]⟩,some ⟨3,List.map R3 numbers2⟩]⟩) hl1 (ES [some 0,none] (hhp:= .cons Y (Z7 (fk:=FK3) (fv:=(osF 52 R52)) (m:=([]:List (Int×(List api_Rest)))) tZ_105 (fun _=>.dat Y) fun _=>ZcH D52)<|.row 3 .nil)) fun n1 groups2 numbers2 i h=>?_
  unfold XU at h
  refine Tr<|R2 ZV Y<|Za<|Zl<|If h Y (fun h=>?_) fun h=>?_
  ·
   refine Zj<|I2 (fun groups3 numbers3=>⟨[(3,.mref 0 1),(4,.own 1 numbers3.length),(11,.sl 52 (List.map R52 l)),(12,.int .i64 (l.length:Int)),(13,.int .i64 i)],[some ⟨105,[[.mcon (List.map (Q8 FK3 (osF 52 R52)) groups3)]]⟩,some ⟨3,List.map R3 numbers3⟩]⟩) h (fun h=>?_) fun groups3 numbers3 h=>?_
   ·
    refine Zi<|K5 3 4 11 12 13 Y<|Tr<|bE h fun x h_x h=>Rq Y (ZW (ov Y) (ov Y) Jg h_x)<|Rq Y (ZU (ov Y) X8 (Zu<|Zh ZC) ZC)<|Rx Y (ZP (row:=(.int .i64 0)::((List.map C35 (Vector.replicate 64 0).toList)++(((List.map C3 (Vector.replicate 64 0).toList)++((.bool false)::(.int .i64 0)::(.bool false):: []))))) 2 Y ZfL (by kernel_rfl)<|by exact Eq.symm (Eq.trans (b:=132) ZC tZ_52.symm))<|Rx Y (Zf (ov Y) (ov Y) (Zp X8 ZC) Y Y Y (ZG (Zh ZC) ZC) (Zb ZeG)<|ZO<|Eq.trans ZC<|Eq.symm ZC)<|Za<|I1 (fun numbers4=>⟨[(3,.mref 0 1),(4,.own 1 numbers4.length),(6,.ptr 2 1 0 0),(11,.sl 52 (List.map R52 l)),(12,.int .i64 (l.length:Int)),(13,.int .i64 i)],[some ⟨105,[[.mcon (List.map (Q8 FK3 (osF 52 R52)) groups2)]]⟩,some ⟨3,List.map R3 numbers4⟩,some ⟨52,[(.int .i64 x.Number)::((List.map C35 x.Frame.toList)++(((List.map C3 x.States.toList)++((.bool x.Sound)::(.int .i64 x.Copies)::(.bool x.Conflict):: []))))]⟩]⟩) h (fun h=>?_) fun numbers4 h=>?_
    ·
     refine K6 3 4 6 11 12 13 Y<|Tr<|Rm Y<|Rq Y (Ze (ov Y) Y Y JC)<|Rq Y (Zm (ov Y) Y Y Y tS3<|Zn ZbW)<|bE h fun z h_z h=>?_
     rcases z with z |z
     ·
      replace h:=ell h
      refine Rq Y (ZjX (e1:=52) (R:=R52) (m:=groups2) (k:=x.Number) (Zh0 h_z) (ov Y) (ov Y) X4 QV Y (fun _=>.b Y)<|Zx Zfb Y)<|Rq Y (ZpJ (ng:=false) (ov Y) ZkT)<|Za<|K7 3 4 6 11 12 13 21 Y<|Znq h Y (fun b21 h=>?_) fun b21 h=>?_
      ·
       exact K6 3 4 6 11 12 13 Y<|Zt<|Rm Y<|Rq Y (Ze (ov Y) Y Y JC)<|Rq Y (Zm (ov Y) Y Y Y tS3<|Zn ZbW)<|R_q (.sl 3<|List.map R3 ([x.Number]:List Int)) Y (Jm Qp (.cons (cvs (ov Y)<|Z5 Y) Y (.cons (.b Y) .nil) .nil) Y Y)<|bE h fun l2 h_l2 h=>Rx Y (Zv (ov Y) (ZH (ov Y) tZ_3) Qp Y Y Y (fun _=>Zb Y) Y h_l2)<|Ra Y<|Za<|⟨_,h,ES [some 0,some 1,some 2] (hhp:= .cons Y (Z7 (fk:=FK3) (fv:=(osF 52 R52)) (m:=groups2) tZ_105 (fun _=>.dat Y) fun _=>ZcH D52)<|.cons Y (roM D3)<|.cons Y (ro1 (by exact Eq.trans (b:=132) ZC tZ_52.symm)<|rld Zak) .nil)⟩
      ·
       exact Bool.noConfusion b21
     ·
      replace h:=elr h
      refine Zgk (Ent.focusMk1 (e:=52) (R:=R52) (m:=groups2) (k:=x.Number) (r:=0) Y tZ_105 (Zeq h_z) D52)<|Rq Y (Zkg (e1:=52) (R:=R52) (m:=groups2) (k:=x.Number) (ov Y) (ov Y) X4 QV Y (fun _=>.b Y)<|Zx Zfb Y)<|bE h fun u h_u h=>Rq Y (ZpQ (ng:=false) (ov Y) ZkT Y (List.length_map ..) h_u)<|Zgk (by exact Ent.absorbMs1 (e:=52) (R:=R52) (m:=groups2) (k:=x.Number) (ys:=z) (fk:=FK3) (r:=0) (q:=3) (Zeq h_z) rfl tZ_105 rfl rfl rfl)<|Za<|K7 3 4 6 11 12 13 21 Y<|Znq h Y (fun b21 h=>?_) fun b21 h=>?_
      ·
       exact Bool.noConfusion b21
      ·
       exact Zj<|⟨_,h,ES [some 0,some 1,some 2] (hhp:= .cons Y (Z7 (fk:=FK3) (fv:=(osF 52 R52)) (m:=groups2) tZ_105 (fun _=>.dat Y) fun _=>ZcH D52)<|.cons Y (roM D3)<|.cons Y (ro1 (by exact Eq.trans (b:=132) ZC tZ_52.symm)<|rld Zak) .nil)⟩
    ·
     refine bE h fun z2 h_z2 h=>?_
     rcases z2 with z2 |z2
     ·
      replace h:=ell h
      refine Qe (cw:=md0) (by kernel_rfl)<|D1 3 Zc Y<|Dq 4 Y (Ze (ov Y) Y Y JC)<|Dq 5 Y (Zm (ov Y) Y Y Y tS3<|Zn ZbW)<|Dq 6 Y (ZjX (e1:=52) (R:=R52) (m:=groups2) (k:=x.Number) (Zh0 h_z2) (ov Y) (ov Y) X4 QV Y (fun _=>.b Y)<|Zx Zfb Y)<|Dq 7 Y (ZJ (ov Y) Y Y Y X8 (Zu<|Zh ZC) ZC (hns:=Zdi))<|Zkz 8 (.sl 52<|List.map R52 ([x]:List api_Rest)) Y (by kernel_rfl) Y Y (Jm Jg (.cons (cva<|ov Y) ZC (pwD Zak) .nil) Y Y)<|XG 0 _ Y (by kernel_rfl) Y Y (fun hp'=>Zc<|ov Y)<|bE h fun l3 h_l3 h=>Dw 1 9 Y (Ze (ov Y) Y Y JC) (ZbS (r:=3) Y (ov Y) (ZH (ov Y) tZ_52) Jg Y h_l3) ?_ ?_
      ·
       refine Dw 2 9 Y (Zm (ov Y) Y Y Y tS3<|Zn ZbW) (ZbS (r:=3) Y (ov Y) (ZH (ov Y) tZ_52) Jg Y h_l3) ?_ ?_
       ·
        exact Do 9 Y (ZbS (r:=3) Y (ov Y) (ZH (ov Y) tZ_52) Jg Y h_l3)<|Do 10 Y (ZhI (e1:=52) (R:=R52) (m:=groups2) (k:=x.Number) (ov Y) (ov Y) (ov Y) X4 QV Y fun _=>.b Y)<|ZbP (by kernel_rfl) (Ent.absorbMk1 (e:=52) (R:=R52) (m:=groups2) (k:=x.Number) (ys:=l3) (fk:=FK3) (r:=0) (q:=3) Y tZ_105 Y Y Y)<|⟨_,h,ES [some 0,some 1] (hhp:= .cons Y (Z7 (fk:=FK3) (fv:=(osF 52 R52)) (m:=(Qc kqI groups2 x.Number l3)) tZ_105 (fun _=>.dat Y) fun _=>ZcH D52)<|.cons Y (roM D3) .nil)⟩
       ·
        exact Dq 2 Y (Zm (ov Y) Y Y Y tS3<|Zn ZbW)<|Do 10 Y (ZhI (e1:=52) (R:=R52) (m:=groups2) (k:=x.Number) (ov Y) (ov Y) (ov Y) X4 QV Y fun _=>.b Y)<|ZbP (by kernel_rfl) (Ent.absorbMk1 (e:=52) (R:=R52) (m:=groups2) (k:=x.Number) (ys:=l3) (fk:=FK3) (r:=0) (q:=3) Y tZ_105 Y Y Y)<|⟨_,h,ES [some 0,some 1] (hhp:= .cons Y (Z7 (fk:=FK3) (fv:=(osF 52 R52)) (m:=(Qc kqI groups2 x.Number l3)) tZ_105 (fun _=>.dat Y) fun _=>ZcH D52)<|.cons Y (roM D3) .nil)⟩
      ·
       exact Dq 1 Y (Ze (ov Y) Y Y JC)<|Dq 2 Y (Zm (ov Y) Y Y Y tS3<|Zn ZbW)<|Do 10 Y (ZhI (e1:=52) (R:=R52) (m:=groups2) (k:=x.Number) (ov Y) (ov Y) (ov Y) X4 QV Y fun _=>.b Y)<|ZbP (by kernel_rfl) (Ent.absorbMk1 (e:=52) (R:=R52) (m:=groups2) (k:=x.Number) (ys:=l3) (fk:=FK3) (r:=0) (q:=3) Y tZ_105 Y Y Y)<|⟨_,h,ES [some 0,some 1] (hhp:= .cons Y (Z7 (fk:=FK3) (fv:=(osF 52 R52)) (m:=(Qc kqI groups2 x.Number l3)) tZ_105 (fun _=>.dat Y) fun _=>ZcH D52)<|.cons Y (roM D3) .nil)⟩
     ·
      replace h:=elr h
      refine ZiS (Ent.focusMk1 (e:=52) (R:=R52) (m:=groups2) (k:=x.Number) (r:=0) Y tZ_105 (Zeq h_z2) D52)<|Qe (cw:=md0) (by kernel_rfl)<|D1 3 Zc Y<|Dq 4 Y (Ze (ov Y) Y Y JC)<|Dq 5 Y (Zm (ov Y) Y Y Y tS3<|Zn ZbW)<|Dq 6 Y (Zkg (e1:=52) (R:=R52) (m:=groups2) (k:=x.Number) (ov Y) (ov Y) X4 QV Y (fun _=>.b Y)<|Zx Zfb Y)<|Dq 7 Y (ZJ (ov Y) Y Y Y X8 (Zu<|Zh ZC) ZC (hns:=Zdi))<|Zkz 8 (.sl 52<|List.map R52 ([x]:List api_Rest)) Y (by kernel_rfl) Y Y (Jm Jg (.cons (cva<|ov Y) ZC (pwD Zak) .nil) Y Y)<|XG 0 _ Y (by kernel_rfl) Y Y (fun hp'=>Zc<|ov Y)<|bE h fun l4 h_l4 h=>Dw 1 9 Y (Ze (ov Y) Y Y JC) (Zv (ov Y) (ZH (ov Y) tZ_52) Jg Y Y Y (fun x=>Zb<|E52 x) Y h_l4) ?_ ?_
      ·
       refine Dw 2 9 Y (Zm (ov Y) Y Y Y tS3<|Zn ZbW) (Zv (ov Y) (ZH (ov Y) tZ_52) Jg Y Y Y (fun x=>Zb<|E52 x) Y h_l4) ?_ ?_
       ·
        exact Do 9 Y (Zv (ov Y) (ZH (ov Y) tZ_52) Jg Y Y Y (fun x=>Zb<|E52 x) Y h_l4)<|Do 10 Y (ZhH (e1:=52) (R:=R52) (m:=groups2) (k:=x.Number) (ov Y) (ov Y) (ov Y) X4 QV Y fun _=>.b Y)<|ZbP (by kernel_rfl) (Ent.absorbMk1 (e:=52) (R:=R52) (m:=groups2) (k:=x.Number) (ys:=l4) (fk:=FK3) (r:=0) (q:=3) Y tZ_105 Y Y Y)<|⟨_,h,ES [some 0,some 1] (hhp:= .cons Y (Z7 (fk:=FK3) (fv:=(osF 52 R52)) (m:=(Qc kqI groups2 x.Number l4)) tZ_105 (fun _=>.dat Y) fun _=>ZcH D52)<|.cons Y (roM D3) .nil)⟩
       ·
        exact Dq 2 Y (Zm (ov Y) Y Y Y tS3<|Zn ZbW)<|Do 10 Y (ZhH (e1:=52) (R:=R52) (m:=groups2) (k:=x.Number) (ov Y) (ov Y) (ov Y) X4 QV Y fun _=>.b Y)<|ZbP (by kernel_rfl) (Ent.absorbMk1 (e:=52) (R:=R52) (m:=groups2) (k:=x.Number) (ys:=l4) (fk:=FK3) (r:=0) (q:=3) Y tZ_105 Y Y Y)<|⟨_,h,ES [some 0,some 1] (hhp:= .cons Y (Z7 (fk:=FK3) (fv:=(osF 52 R52)) (m:=(Qc kqI groups2 x.Number l4)) tZ_105 (fun _=>.dat Y) fun _=>ZcH D52)<|.cons Y (roM D3) .nil)⟩
      ·
       exact Dq 1 Y (Ze (ov Y) Y Y JC)<|Dq 2 Y (Zm (ov Y) Y Y Y tS3<|Zn ZbW)<|Do 10 Y (ZhH (e1:=52) (R:=R52) (m:=groups2) (k:=x.Number) (ov Y) (ov Y) (ov Y) X4 QV Y fun _=>.b Y)<|ZbP (by kernel_rfl) (Ent.absorbMk1 (e:=52) (R:=R52) (m:=groups2) (k:=x.Number) (ys:=l4) (fk:=FK3) (r:=0) (q:=3) Y tZ_105 Y Y Y)<|⟨_,h,ES [some 0,some 1] (hhp:= .cons Y (Z7 (fk:=FK3) (fv:=(osF 52 R52)) (m:=(Qc kqI groups2 x.Number l4)) tZ_105 (fun _=>.dat Y) fun _=>ZcH D52)<|.cons Y (roM D3) .nil)⟩
   ·
    exact Zt<|R2 ZX Y<|Rm Y<|Za<|⟨_,h,ES [some 0,some 1] (hhp:= .cons Y (Z7 (fk:=FK3) (fv:=(osF 52 R52)) (m:=groups3) tZ_105 (fun _=>.dat Y) fun _=>ZcH D52)<|.cons Y (roM D3) .nil)⟩
  ·
   refine ZI<|?_
   replace h:=lx h▸ho1
   exact⟨_,h,ES [some 0,some 1] (hhp:= .cons Y (Z7 (fk:=FK3) (fv:=(osF 52 R52)) (m:=groups2) tZ_105 (fun _=>.dat Y) fun _=>ZcH D52)<|.cons Y (roM D3) .nil)⟩
 ·
  refine Tr<|Rm Y<|bE h fun y h_y h=>Rx Y (JH [1] (ZjU h_y) (.cons (ov Y) (.own _ Y) .nil) (.cons Y (roM D3) .nil) Y (.keep Y Y<|.lent 0 (.inl Y) Y (roM D3) .nil) Y Y<|ZbA<|rld Y)<|Za<|K2 3 4 Y<|Tr<|Ra Y<|Za<|I1 (fun out=>⟨[(7,.own 0 out.length)],[some ⟨52,List.map R52 out⟩]⟩) h (fun h=>?_) fun out h=>?_
  ·
   refine Tr<|Rm Y<|Rq Y (Zd3 (ov Y) Y (ZfD h_y) Qp)<|Rm Y<|Za<|Zi<|?_
   obtain⟨r2,hl2,ho2⟩:=QZ h
   refine L2 (fun out2 i2=>⟨[(3,.mref 0 1),(7,.own 1 out2.length),(40,.own 2 y.length),(41,.int .i64 (y.length:Int)),(42,.int .i64 i2)],[some ⟨105,[[.mcon (List.map (Q8 FK3 (osF 52 R52)) groups)]]⟩,some ⟨52,List.map R52 out2⟩,some ⟨3,List.map R3 y⟩]⟩) hl2 (Ent.sel [some 0,none,some 1] (sr 3 Y (.mref _ Y)<|sr 7 Y (.row Y)<|sr 40 Y (ZfM (Eq.symm<|ZfD h_y) Y)<|sd 41 Y Y<|sd 42 Y Y sn) (.cons Y (Z7 (fk:=FK3) (fv:=(osF 52 R52)) (m:=groups) tZ_105 (fun _=>.dat Y) fun _=>ZcH D52)<|.row 52<|.cons Y (roM D3) .nil) Y Y) fun n2 out2 i2 h=>?_
   unfold XO at h
   refine Tr<|R2 ZV Y<|Za<|Zl<|If h Y (fun h=>?_) fun h=>?_
   ·
    refine Zj<|Zl<|Zi<|K5 3 7 40 41 42 Y<|Tr<|bE h fun x2 h_x2 h=>Rq Y (QW (ov Y) (ov Y) Qp Y Y h_x2)<|Rq Y (Q0 (ov Y) Y Y h_x2 tS3 Y)<|Ra Y<|Za<|K6 3 7 9 40 41 42 Y<|Zt<|Rm Y<|Rm Y<|Rm Y<|bE h fun z3 h_z3 h=>?_
    rcases z3 with z3 |z3
    ·
     replace h:=ell h
     exact Rq Y (ZjX (e1:=52) (R:=R52) (m:=groups) (k:=x2) (Zh0 h_z3) (ov Y) (ov Y) X4 QV Y (fun _=>.b Y)<|Zx Zfb Y)<|bE h fun y2 h_y2 h=>Rq Y (Zq (Zbi h_y2)<|.cons (ov Y) (Dat.nils _) .nil)<|R_q (.sl 52<|List.map R52 ([y2]:List api_Rest)) Y (Jm Jg (.cons (cva<|ov Y) ZC (pwD Zak) .nil) Y Y)<|bE h fun l5 h_l5 h=>Rx Y (Zv (ov Y) (ZH (ov Y) tZ_52) Jg Y Y Y (fun x=>Zb<|E52 x) Y h_l5)<|Ra Y<|Za<|K5 3 7 40 41 42 Y<|Zt<|R2 ZX Y<|Rm Y<|Za<|⟨_,h,ES [some 0,some 1,some 2] (hhp:= .cons Y (Z7 (fk:=FK3) (fv:=(osF 52 R52)) (m:=groups) tZ_105 (fun _=>.dat Y) fun _=>ZcH D52)<|.cons Y (roM D52)<|.cons Y (roM D3) .nil)⟩
    ·
     replace h:=elr h
     exact Zgk (Ent.focusMk1 (e:=52) (R:=R52) (m:=groups) (k:=x2) (r:=0) Y tZ_105 (Zeq h_z3) D52)<|Rq Y (Zkg (e1:=52) (R:=R52) (m:=groups) (k:=x2) (ov Y) (ov Y) X4 QV Y (fun _=>.b Y)<|Zx Zfb Y)<|bE h fun y3 h_y3 h=>Rq Y (ZaN (Zbi h_y3) (.agg<|faC .int<|faA (faV fun _=> .int)<|faA (faV fun _=> .int)<|faC .bool<|faC .int<|faC .bool faN)<|.cons (ov Y) (View.ownM Y Y D52) .nil)<|R_q (.sl 52<|List.map R52 ([y3]:List api_Rest)) Y (Jm Jg (.cons (cva<|ov Y) ZC (pwD Zak) .nil) Y Y)<|bE h fun l6 h_l6 h=>Rx Y (Zv (ov Y) (ZH (ov Y) tZ_52) Jg Y Y Y (fun x=>Zb<|E52 x) Y h_l6)<|Ra Y<|Zgk (by exact Ent.absorbMs1 (e:=52) (R:=R52) (m:=groups) (k:=x2) (ys:=z3) (fk:=FK3) (r:=0) (q:=3) (Zeq h_z3) rfl tZ_105 rfl rfl rfl)<|Za<|K5 3 7 40 41 42 Y<|Zt<|R2 ZX Y<|Rm Y<|Za<|⟨_,h,ES [some 0,some 1,some 2] (hhp:= .cons Y (Z7 (fk:=FK3) (fv:=(osF 52 R52)) (m:=groups) tZ_105 (fun _=>.dat Y) fun _=>ZcH D52)<|.cons Y (roM D52)<|.cons Y (roM D3) .nil)⟩
   ·
    refine ZI<|?_
    replace h:=lx h▸ho2
    exact⟨_,h,ES [some 1]⟩
  ·
   refine Tr<|Rm Y<|Ra Y<|Za<|?_
   obtain rfl:=rt h
   exact Zs<|ZlW [some 0] Y (.cons (.tmp Y) .nil) (.cons Y (roM D52) .nil) Y Y<|.own _ Y
theorem Zg0{f:Vector Int 64}{i:Int}{r:(Vector Int 64)}(h:XB f i=some r):
 CSpec Tryz.prog gl0 80 [.agg (List.map C35 f.toList),.int .i64 i] (.agg (List.map C35 r.toList)):=by
 unfold XB at h
 replace h:=Qk h
 refine So Tryz.func80 Y fun w0 A=>Tr<|Rx Y (Zm8 0 Y (ov Y) Qz arL)<|Rx Y (ZP (row:=(List.map C35 (Vector.replicate 64 0).toList)) 1 Y ZcI Y tZ_37)<|Za<|I1 (fun f2=>⟨[(2,.ptr 0 1 0 0),(4,.ptr 1 1 0 0)],[some ⟨37,[(List.map C35 f2.toList)]⟩,some ⟨37,[(List.map C35 (Vector.replicate 64 0).toList)]⟩]⟩) h (fun h=>?_) fun f2 h=>?_
 ·
  refine K3 1 2 4 Y<|Tr<|Rm Y<|Za<|Zi<|Tr<|R2 Q3 Y<|Ra Y<|Za<|K5 1 2 4 5 19 Y<|If h Y (fun h=>?_) fun h=>?_
  ·
   exact K2 2 4 Y<|Zt<|bE h fun y h_y h=>Rq Y (ZaN (ZaK h_y) .int<|.cons (ov Y) (View.ptr Y Y Y (pwB<|arD fun _=>Y) (hns:=(nsM fun _=>Y))) .nil)<|bE h fun q h_q h=>Rq Y (JI (ov Y) (ov Y) h_q)<|bE h fun x h_x h=>Rq Y (QI (og (v:=gv_frame_syncs) (k:= .u16) (f:=C35) (by simp [gl0]) fun _=>Y) (ov Y) Znh h_x)<|Rq Y (Zd (ov Y) Xn<|Zn<|Qn (o:=0) (o':=(q.toNat*1)) (Zh arL)<|Qd h_x)<|bE h fun x2 h_x2 h=>Rq Y (QB (ov Y) (ov Y) Xc Y Y h_x2)<|Rx Y (Zf (ov Y) (ov Y) (Zg Xn) Y Y Y (arB h_x2) (Zb Y)<|arS h_x2)<|Za<|⟨_,h,ES [some 0,some 1]⟩
  ·
   refine K4 1 2 4 5 Y<|Tr<|R2 Q3 Y<|Ra Y<|Za<|K5 1 2 4 5 26 Y<|If h Y (fun h=>?_) fun h=>?_
   ·
    exact K3 1 2 4 Y<|Zt<|Rm Y<|bE h fun y2 h_y2 h=>Rq Y (ZaN (Zct h_y2) .int<|.cons (ov Y) (View.ptr Y Y Y (pwB<|arD fun _=>Y) (hns:=(nsM fun _=>Y))) .nil)<|bE h fun y3 h_y3 h=>Rq Y (Zq (Xv h_y3)<|.cons (ov Y) (.b Y) .nil)<|bE h fun x3 h_x3 h=>Rq Y (QB (ov Y) (ov Y) Xc Y Y h_x3)<|Rx Y (Zf (ov Y) (ov Y) (Zg Xn) Y Y Y (arB h_x3) (Zb Y)<|arS h_x3)<|Za<|⟨_,h,ES [some 0,some 1]⟩
   ·
    refine K4 1 2 4 5 Y<|Tr<|R2 Q3 Y<|Ra Y<|Za<|K5 1 2 4 5 32 Y<|If h Y (fun h=>?_) fun h=>?_
    ·
     exact K3 1 2 4 Y<|Zt<|Rm Y<|bE h fun y4 h_y4 h=>Rq Y (ZaN (Za9 h_y4) .int<|.cons (ov Y) (View.ptr Y Y Y (pwB<|arD fun _=>Y) (hns:=(nsM fun _=>Y))) .nil)<|bE h fun q2 h_q2 h=>Rq Y (Zbo (ov Y) (ov Y) h_q2)<|bE h fun y5 h_y5 h=>Rq Y (Zq (Xv h_y5)<|.cons (ov Y) (.b Y) .nil)<|bE h fun x4 h_x4 h=>Rq Y (QB (ov Y) (ov Y) Xc Y Y h_x4)<|Rx Y (Zf (ov Y) (ov Y) (Zg Xn) Y Y Y (arB h_x4) (Zb Y)<|arS h_x4)<|Za<|⟨_,h,ES [some 0,some 1]⟩
    ·
     refine K4 1 2 4 5 Y<|Tr<|R2 Q3 Y<|Ra Y<|Za<|K4 1 2 4 39 Y<|If h Y (fun h=>?_) fun h=>?_
     ·
      exact K3 1 2 4 Y<|Zt<|Rm Y<|bE h fun y6 h_y6 h=>Rq Y (ZaN (Za9 h_y6) .int<|.cons (ov Y) (View.ptr Y Y Y (pwB<|arD fun _=>Y) (hns:=(nsM fun _=>Y))) .nil)<|R2 ZbX Y<|bE h fun y7 h_y7 h=>Rq Y (Zq (Xv h_y7)<|.cons (ov Y) (.b Y) .nil)<|bE h fun x5 h_x5 h=>Rq Y (QB (ov Y) (ov Y) Xc Y Y h_x5)<|Rx Y (Zf (ov Y) (ov Y) (Zg Xn) Y Y Y (arB h_x5) (Zb Y)<|arS h_x5)<|Za<|⟨_,h,ES [some 0,some 1]⟩
     ·
      exact K3 1 2 4 Y<|Qe (cw:=md0) (by kernel_rfl)<|D1 0 Zc Y<|bE h fun y8 h_y8 h=>Dq 1 Y (ZaN (Zct h_y8) .int<|.cons (ov Y) (View.ptr Y Y Y (pwB<|arD fun _=>Y) (hns:=(nsM fun _=>Y))) .nil)<|D1 2 Zc Y<|bE h fun x6 h_x6 h=>Dq 3 Y (QB (ov Y) (ov Y) Xc Y Y h_x6)<|Dq 4 Y (Zm (ov Y) Y Y Y Xn<|Zn<|Qn (o:=0) (o':=(i.toNat*1)) (Zh arL)<|Qd h_x6)<|bE h fun y9 h_y9 h=>Dq 5 Y (Zq (Jo h_y9)<|.cons (ov Y) (.b Y) .nil)<|D2 6 ZhG Y<|bE h fun x7 h_x7 h=>Dq 7 Y (QB (ov Y) (ov Y) Xc Y Y h_x7)<|Dq 8 Y (Zm (ov Y) Y Y Y Xn<|Zn<|Qn (o:=0) (o':=((Int.toNat 61)*1)) (Zh arL)<|Qd h_x7)<|bE h fun y10 h_y10 h=>Dq 9 Y (Zq (Jo h_y10)<|.cons (ov Y) (.b Y) .nil)<|D2 10 ZhG Y<|bE h fun y11 h_y11 h=>Dq 11 Y (Zq (Xv h_y11)<|.cons (ov Y) (.b Y) .nil)<|bE h fun x8 h_x8 h=>Dq 12 Y (QB (ov Y) (ov Y) Xc Y Y h_x8)<|Do 13 Y (Zf (ov Y) (ov Y) (Zg Xn) Y Y Y (arB h_x8) (Zb Y)<|arS h_x8)<|Dd<|⟨_,h,ES [some 0,some 1]⟩
 ·
  refine Tr<|Rq Y (ZJ (ov Y) Y Y Y Qz (Zu<|Zh arL) arL (hns:=(nsM fun _=>Y)))<|Rx Y (Zf (ov Y) (ov Y) (Zp Qz arL) Y Y Y (ZG (Zh arL) arL) (Zb<|arC fun _=>Y)<|ZO<|Eq.trans arL<|Eq.symm arL)<|Za<|?_
  obtain rfl:=rt h
  exact Zs (ZK Y (.one<|.agg Y Y Y Y Qz (Zu<|Zh arL) arL (pwB<|arD fun _=>Y) (hns:=(nsM fun _=>Y))))
theorem Zhg{f:Vector Int 64}{i:Int}{r:(Vector Int 64)×Bool}(h:Za3 f i=some r):
 CSpec Tryz.prog gl0 49 [.agg (List.map C35 f.toList),.int .i64 i] (.tuple [.agg (List.map C35 r.1.toList),.bool r.2]):=by
 unfold Za3 at h
 replace h:=Qk h
 refine So Tryz.func49 Y fun w0 A=>Tr<|Rx Y (Zm8 0 Y (ov Y) Qz arL)<|Rx Y (ZP (row:=(List.map C35 (Vector.replicate 64 0).toList)) 1 Y ZcI Y tZ_37)<|Ra Y<|Za<|Zl<|K3 1 2 4 Y<|Tr<|Rm Y<|R2 ZV Y<|Rm Y<|Rq Y (.guarded ((decide (i<0))==false) Y Y Y Y fun h=>Zc<|ov Y)<|Rq Y (.guarded ((decide (i<0))==false) Y Y Y Y fun h=>Zc5 (ow Y h)<|ov Y)<|Rq Y (Za2 (ov Y) fun hp=>ow Y<|gF hp)<|Za<|K4 1 2 4 12 Y<|If h Y (fun h=>?_) fun h=>?_
 ·
  refine K1 4 Y<|Tr<|R_q (.agg<|List.map C35 (#v[0,0,0,0,0,0,0,0,0,0,0,0,0,0,0,0,0,0,0,0,0,0,0,0,0,0,0,0,0,0,0,0,0,0,0,0,0,0,0,0,0,0,0,0,0,0,0,0,0,0,0,0,0,0,0,0,0,0,0,0,0,0,0,0]:Vector Int 64).toList) Y (Zbq (ys:= [_,_,_,_,_,_,_,_,_,_,_,_,_,_,_,_,_,_,_,_,_,_,_,_,_,_,_,_,_,_,_,_,_,_,_,_,_,_,_,_,_,_,_,_,_,_,_,_,_,_,_,_,_,_,_,_,_,_,_,_,_,_,_,_]) Xc ZcI .nil Y)<|Rx Y (Zf (ov Y) (ov Y) (Zp Qz arL) Y Y Y (ZG (Zh arL) arL) (Zb<|arC fun _=>Y)<|ZO<|Eq.trans arL<|Eq.symm arL)<|Ra Y<|Za<|?_
  obtain rfl:=rt h
  exact Zs (ZK Y (.two (.agg Y Y Y Y Qz (Zu<|Zh arL) arL (pwB<|arD fun _=>Y) (hns:=(nsM fun _=>Y)))<|rb Y))
 ·
  refine Zj<|K3 1 2 4 Y<|Tr<|Rm Y<|bE h fun x h_x h=>Rq Y (QB (ov Y) (ov Y) Xc Y Y h_x)<|Rx Y (Zf (ov Y) (ov Y) (Zg Xn) Y Y Y (arB h_x) (Zb Y)<|arS h_x)<|Za<|Zl<|K3 1 2 4 Y<|Tr<|bE h fun y h_y h=>Rq Y (ZaN (Zgn h_y) .bool<|.cons (ov Y) (View.ptr Y Y Y (pwB<|arD fun _=>Y) (hns:=(nsM fun _=>Y))) .nil)<|Za<|If h Y (fun h=>?_) fun h=>?_
  ·
   refine K1 4 Y<|Tr<|R_q (.agg<|List.map C35 (#v[0,0,0,0,0,0,0,0,0,0,0,0,0,0,0,0,0,0,0,0,0,0,0,0,0,0,0,0,0,0,0,0,0,0,0,0,0,0,0,0,0,0,0,0,0,0,0,0,0,0,0,0,0,0,0,0,0,0,0,0,0,0,0,0]:Vector Int 64).toList) Y (Zbq (ys:= [_,_,_,_,_,_,_,_,_,_,_,_,_,_,_,_,_,_,_,_,_,_,_,_,_,_,_,_,_,_,_,_,_,_,_,_,_,_,_,_,_,_,_,_,_,_,_,_,_,_,_,_,_,_,_,_,_,_,_,_,_,_,_,_]) Xc ZcI .nil Y)<|Rx Y (Zf (ov Y) (ov Y) (Zp Qz arL) Y Y Y (ZG (Zh arL) arL) (Zb<|arC fun _=>Y)<|ZO<|Eq.trans arL<|Eq.symm arL)<|Ra Y<|Za<|?_
   obtain rfl:=rt h
   exact Zs (ZK Y (.two (.agg Y Y Y Y Qz (Zu<|Zh arL) arL (pwB<|arD fun _=>Y) (hns:=(nsM fun _=>Y)))<|rb Y))
  ·
   refine Zj<|K3 1 2 4 Y<|Tr<|Rq Y (ZJ (ov Y) Y Y Y Qz (Zu<|Zh arL) arL (hns:=(nsM fun _=>Y)))<|Rm Y<|bE h fun y2 h_y2 h=>Rq Y (Zq (Zg0 h_y2)<|.cons (ov Y) (.aggB<|arD fun _=>Y)<|.cons (ov Y) (.b Y) .nil)<|Rx Y (ZP (row:=(List.map C35 (Vector.replicate 64 0).toList)) 2 Y ZcI Y tZ_37)<|Rx Y (Zf (ov Y) (ov Y) (Zp Qz arL) Y Y Y (ZG (Zh arL) arL) (Zb<|arC fun _=>Y)<|ZO<|Eq.trans arL<|Eq.symm arL)<|Za<|Zl<|K2 4 6 Y<|Tr<|bE h fun y3 h_y3 h=>Rq Y (ZaN (Zfl h_y3) .bool<|.cons (ov Y) (View.ptr Y Y Y (pwB<|arD fun _=>Y) (hns:=(nsM fun _=>Y))) .nil)<|R1 XV Y<|Za<|K3 4 6 22 Y<|If h Y (fun h=>?_) fun h=>?_
   ·
    refine K1 4 Y<|Tr<|R_q (.agg<|List.map C35 (#v[0,0,0,0,0,0,0,0,0,0,0,0,0,0,0,0,0,0,0,0,0,0,0,0,0,0,0,0,0,0,0,0,0,0,0,0,0,0,0,0,0,0,0,0,0,0,0,0,0,0,0,0,0,0,0,0,0,0,0,0,0,0,0,0]:Vector Int 64).toList) Y (Zbq (ys:= [_,_,_,_,_,_,_,_,_,_,_,_,_,_,_,_,_,_,_,_,_,_,_,_,_,_,_,_,_,_,_,_,_,_,_,_,_,_,_,_,_,_,_,_,_,_,_,_,_,_,_,_,_,_,_,_,_,_,_,_,_,_,_,_]) Xc ZcI .nil Y)<|Rx Y (Zf (ov Y) (ov Y) (Zp Qz arL) Y Y Y (ZG (Zh arL) arL) (Zb<|arC fun _=>Y)<|ZO<|Eq.trans arL<|Eq.symm arL)<|Ra Y<|Za<|?_
    obtain rfl:=rt h
    exact Zs (ZK Y (.two (.agg Y Y Y Y Qz (Zu<|Zh arL) arL (pwB<|arD fun _=>Y) (hns:=(nsM fun _=>Y)))<|rb Y))
   ·
    refine Zj<|K2 4 6 Y<|Tr<|Rq Y (ZJ (ov Y) Y Y Y Qz (Zu<|Zh arL) arL (hns:=(nsM fun _=>Y)))<|Rx Y (Zf (ov Y) (ov Y) (Zp Qz arL) Y Y Y (ZG (Zh arL) arL) (Zb<|arC fun _=>Y)<|ZO<|Eq.trans arL<|Eq.symm arL)<|Ra Y<|Za<|?_
    obtain rfl:=rt h
    exact Zs (ZK Y (.two (.agg Y Y Y Y Qz (Zu<|Zh arL) arL (pwB<|arD fun _=>Y) (hns:=(nsM fun _=>Y)))<|rb Y))
theorem Zhp{r_:api_Rest}{r:api_Rest}(h:Xy r_=some r):
 CSpec Tryz.prog gl0 23 [.agg ((.int .i64 r_.Number)::((List.map C35 r_.Frame.toList)++(((List.map C3 r_.States.toList)++((.bool r_.Sound)::(.int .i64 r_.Copies)::(.bool r_.Conflict):: [])))))] (.agg ((.int .i64 r.Number)::((List.map C35 r.Frame.toList)++(((List.map C3 r.States.toList)++((.bool r.Sound)::(.int .i64 r.Copies)::(.bool r.Conflict):: [])))))):=by
 unfold Xy at h
 replace h:=Qk h
 refine So Tryz.func23 Y fun w0 A=>Tr<|Rx Y (Zm8 0 Y (ov Y) X8 ZC)<|Rx Y (ZP (row:=(.int .i64 0)::((List.map C35 (Vector.replicate 64 0).toList)++(((List.map C3 (Vector.replicate 64 0).toList)++((.bool false)::(.int .i64 0)::(.bool false):: []))))) 1 Y ZfL (by kernel_rfl)<|by exact Eq.symm (Eq.trans (b:=132) ZC tZ_52.symm))<|Za<|Zl<|K2 1 2 Y<|Tr<|Rq Y (Ze (ov Y) Y Y ZeQ)<|Rq Y (Zm (ov Y) Y Y Y tS4<|Zn Zim)<|Rm Y<|Rq Y (.guarded (r_.Sound==false) Y Y Y Y fun h=>Ze (ov Y) Y Y Zl2)<|Rq Y (.guarded (r_.Sound==false) Y Y Y Y fun h=>Zm (ow Y h) Y Y Y tS4<|Zn ZqV)<|Rq Y (Za2 (ov Y) fun hp=>ow Y<|gF hp)<|Za<|K3 1 2 14 Y<|If h Y (fun h=>?_) fun h=>?_
 ·
  refine K2 1 2 Y<|Tr<|Rq Y (ZJ (ov Y) Y Y Y X8 (Zu<|Zh ZC) ZC (hns:=Zdi))<|Rx Y (Zf (ov Y) (ov Y) (Zp X8 ZC) Y Y Y (ZG (Zh ZC) ZC) (Zb ZeG)<|ZO<|Eq.trans ZC<|Eq.symm ZC)<|Za<|?_
  obtain rfl:=rt h
  exact Zs (ZK Y (.one<|.agg Y Y Y Y X8 (Zu<|Zh ZC) ZC (pwB Zak) (hns:=Zdi)))
 ·
  refine Zj<|K2 1 2 Y<|Tr<|Ra Y<|Ra Y<|Za<|I2 (fun lost place=>⟨[(1,.ptr 0 1 0 0),(2,.ptr 1 1 0 0),(3,.int .i64 lost),(4,.int .i64 place)],[some ⟨52,[(.int .i64 r_.Number)::((List.map C35 r_.Frame.toList)++(((List.map C3 r_.States.toList)++((.bool r_.Sound)::(.int .i64 r_.Copies)::(.bool r_.Conflict):: []))))]⟩,some ⟨52,[(.int .i64 0)::((List.map C35 (Vector.replicate 64 0).toList)++(((List.map C3 (Vector.replicate 64 0).toList)++((.bool false)::(.int .i64 0)::(.bool false):: []))))]⟩]⟩) h (fun h=>?_) fun lost place h=>?_
  ·
   refine Tr<|Rq Y (Ze (ov Y) Y Y Zce)<|Rq Y (ZJ (ov Y) Y Y Y ZmC (Zu Zdy) arL (hns:=(nsM fun _=>Y)))<|Rm Y<|Za<|Zi<|?_
   obtain⟨r1,hl1,ho1⟩:=QZ h
   refine L3 (fun lost2 place2 i=>⟨[(1,.ptr 0 1 0 0),(2,.ptr 1 1 0 0),(3,.int .i64 lost2),(4,.int .i64 place2),(17,.agg (List.map C3 r_.States.toList)),(18,.int .i64 i)],[some ⟨52,[(.int .i64 r_.Number)::((List.map C35 r_.Frame.toList)++(((List.map C3 r_.States.toList)++((.bool r_.Sound)::(.int .i64 r_.Copies)::(.bool r_.Conflict):: []))))]⟩,some ⟨52,[(.int .i64 0)::((List.map C35 (Vector.replicate 64 0).toList)++(((List.map C3 (Vector.replicate 64 0).toList)++((.bool false)::(.int .i64 0)::(.bool false):: []))))]⟩]⟩) hl1 (ES [some 0,some 1]) fun n1 lost2 place2 i h=>?_
   unfold Ja at h
   refine Tr<|R2 ZV Y<|Za<|Zl<|If h Y (fun h=>?_) fun h=>?_
   ·
    refine Zj<|Zl<|Zi<|K6 1 2 3 4 17 18 Y<|Tr<|Rm Y<|bE h fun x h_x h=>Rq Y (ZeN (ov Y) (ov Y) ZhK tS3 h_x)<|Ra Y<|Ra Y<|Za<|K8 1 2 3 4 5 6 17 18 Y<|Tr<|Rm Y<|R2 Q3 Y<|Za<|K8 1 2 3 4 5 17 18 23 Y<|If h Y (fun h=>?_) fun h=>?_
    ·
     exact K7 1 2 3 4 5 17 18 Y<|Zt<|Rm Y<|R2 ZX Y<|Rm Y<|Ra Y<|Ra Y<|Za<|K6 1 2 3 4 17 18 Y<|Zt<|R2 ZX Y<|Rm Y<|Za<|⟨_,h,ES [some 0,some 1]⟩
    ·
     exact Zj<|K6 1 2 3 4 17 18 Y<|Zt<|R2 ZX Y<|Rm Y<|Za<|⟨_,h,ES [some 0,some 1]⟩
   ·
    refine ZI<|?_
    replace h:=lx h▸ho1
    exact⟨_,h,ES [some 0,some 1]⟩
  ·
   refine Zl<|Tr<|Rm Y<|R2 XW Y<|Za<|K4 1 2 4 29 Y<|If h Y (fun h=>?_) fun h=>?_
   ·
    refine K2 1 2 Y<|Tr<|Rq Y (ZJ (ov Y) Y Y Y X8 (Zu<|Zh ZC) ZC (hns:=Zdi))<|Rx Y (Zf (ov Y) (ov Y) (Zp X8 ZC) Y Y Y (ZG (Zh ZC) ZC) (Zb ZeG)<|ZO<|Eq.trans ZC<|Eq.symm ZC)<|Za<|?_
    obtain rfl:=rt h
    exact Zs (ZK Y (.one<|.agg Y Y Y Y X8 (Zu<|Zh ZC) ZC (pwB Zak) (hns:=Zdi)))
   ·
    refine Zj<|K3 1 2 4 Y<|Tr<|Rq Y (Ze (ov Y) Y Y Zao)<|Rq Y (ZJ (ov Y) Y Y Y Qz (Zu Zdd) arL (hns:=(nsM fun _=>Y)))<|Rm Y<|bE h fun y h_y h=>Rq Y (Zq (Zhg h_y)<|.cons (ov Y) (.aggB<|arD fun _=>Y)<|.cons (ov Y) (.b Y) .nil)<|Rm Y<|Rq Y (Zk (ov Y) Y)<|Rq Y (Zk (ov Y) Y)<|Rx Y (ZP (row:=(List.map C35 (Vector.replicate 64 0).toList)) 2 Y ZcI Y tZ_37)<|Rx Y (Zf (ov Y) (ov Y) (Zp Qz arL) Y Y Y (ZG (Zh arL) arL) (Zb<|arC fun _=>Y)<|ZO<|Eq.trans arL<|Eq.symm arL)<|Ra Y<|Za<|Zl<|K5 1 2 4 7 8 Y<|Tr<|Rm Y<|R1 XV Y<|Rm Y<|Rq Y (.guarded ((!y.2)==false) Y Y Y Y fun h=>ZJ (ov Y) Y Y Y Qz (Zu<|Zh arL) arL (hns:=(nsM fun _=>Y)))<|Rq Y (.guarded ((!y.2)==false) Y Y Y Y fun h=>Ze (ov Y) Y Y JC)<|Rq Y (.guarded ((!y.2)==false) Y Y Y Y fun h=>Zm (ow Y h) Y Y Y tS3<|Zn ZbW)<|bE h fun y2 h_y2 h=>Rq Y (.guarded ((!y.2)==false) Y Y Y Y fun h=>Zq (Zd1<|gdT h_y2 h)<|.cons (ow Y h) (.aggB<|arD fun _=>Y)<|.cons (ow Y h) (.b Y) .nil)<|Rq Y (.guarded ((!y.2)==false) Y Y Y Y fun h=>XV<|ow Y h)<|Rq Y (Za2 (ov Y) fun hp=>ow Y<|gF hp)<|Za<|K5 1 2 4 7 46 Y<|If h Y (fun h=>?_) fun h=>?_
    ·
     refine K2 1 2 Y<|Tr<|Rq Y (ZJ (ov Y) Y Y Y X8 (Zu<|Zh ZC) ZC (hns:=Zdi))<|Rx Y (Zf (ov Y) (ov Y) (Zp X8 ZC) Y Y Y (ZG (Zh ZC) ZC) (Zb ZeG)<|ZO<|Eq.trans ZC<|Eq.symm ZC)<|Za<|?_
     obtain rfl:=rt h
     exact Zs (ZK Y (.one<|.agg Y Y Y Y X8 (Zu<|Zh ZC) ZC (pwB Zak) (hns:=Zdi)))
    ·
     refine Zj<|Zl<|K4 1 2 4 7 Y<|Qe (cw:=md0) (by kernel_rfl)<|Dq 0 Y (ZJ (ov Y) Y Y Y Qz (Zu<|Zh arL) arL (hns:=(nsM fun _=>Y)))<|bE h fun y3 h_y3 h=>Dq 1 Y (Zq (Zcg h_y3)<|.cons (ov Y) (.b Y) .nil)<|Dq 2 Y (Ze (ov Y) Y Y Zao)<|Do 3 Y (Zf (ov Y) (ov Y) (Zp Qz arL) Y Y Y (ZG Zdd arL) (Zb<|arC fun _=>Y) ZjJ)<|Dq 4 Y (Ze (ov Y) Y Y Zce)<|Do 5 Y (Zf (ov Y) (ov Y) (Zp ZmC arL) Y Y Y (ZG Zdy arL) (Zb<|arC fun _=>Y) ZjM)<|Dq 6 Y (Ze (ov Y) Y Y ZeQ)<|Do 7 Y (Zf (ov Y) (ov Y) (Zg tS4) Y Y Y (ZG Zim Y) (Zb Y) ZnH)<|Dq 8 Y (Ze (ov Y) Y Y Zfp)<|Do 9 Y (Zf (ov Y) (ov Y) (Zg tS3) Y Y Y (ZG ZjH Y) (Zb Y) ZnI)<|Dd<|K3 1 2 4 Y<|Tr<|Rm Y<|Rq Y (Ze (ov Y) Y Y Zce)<|bE h fun x2 h_x2 h=>Rq Y (QB (ov Y) (ov Y) ZhK Y Y h_x2)<|Rx Y (Zf (ov Y) (ov Y) (Zg tS3) Y Y Y (ZG (Qn (o:=65) (o':=(place.toNat*1)) Zdy<|Qd h_x2) Y) (Zb Y)<|ZbF (o:=65) (o':=(place.toNat*1)) Zdy (Qd h_x2) Y (Zdn h_x2 (x:=2)) ZjM)<|Za<|K2 1 2 Y<|Tr<|Rq Y (ZJ (ov Y) Y Y Y X8 (Zu<|Zh ZC) ZC (hns:=Zdi))<|Rx Y (Zf (ov Y) (ov Y) (Zp X8 ZC) Y Y Y (ZG (Zh ZC) ZC) (Zb ZeG)<|ZO<|Eq.trans ZC<|Eq.symm ZC)<|Za<|?_
     obtain rfl:=rt h
     exact Zs (ZK Y (.one<|.agg Y Y Y Y X8 (Zu<|Zh ZC) ZC (pwB Zak) (hns:=Zdi)))
theorem Zgo{l:List api_Piece}{r:(List api_Rest)×Int}(h:ZaB l=some r):
 CSpec Tryz.prog gl0 7 [.sl 42 (List.map R42 l)] (.tuple [.sl 52 (List.map R52 r.1),.int .i64 r.2]):=by
 unfold ZaB at h
 replace h:=Qk h
 refine So Tryz.func7 Y fun w0 A=>Tr<|Ra Y<|Ra Y<|Za<|Zl<|K1 0 Y<|Tr<|Rm Y<|Rl tZ_42 Zk2 Y<|R2 ZaL Y<|Za<|K2 0 14 Y<|If h Y (fun h=>?_) fun h=>?_
 ·
  refine K0<|Tr<|Ra Y<|Ra Y<|Za<|?_
  obtain rfl:=rt h
  exact Zs (ZK Y (.two (.tmp Y<|View.nils 52)<|rb Y))
 ·
  refine Zj<|J0 (fun j=>(.inr j)) ⟨[(0,.sl 42 (List.map R42 l))],[]⟩ h (fun h=>?_) fun h=>?_
  ·
   refine K1 0 Y<|Tr<|Rm Y<|Rl tZ_42 Zk2 Y<|Rm Y<|Za<|Zi<|?_
   obtain⟨r1,hl1,ho1⟩:=QZ h
   refine L1 (fun i=>⟨[(0,.sl 42 (List.map R42 l)),(15,.sl 42 (List.map R42 l)),(16,.int .i64 (l.length:Int)),(17,.int .i64 i)],[]⟩) hl1 (ES []) fun n1 i h=>?_
   unfold XM at h
   refine Tr<|R2 ZV Y<|Za<|Zl<|If h Y (fun h=>?_) fun h=>?_
   ·
    refine Zj<|Zl<|Zi<|K4 0 15 16 17 Y<|Tr<|bE h fun x h_x h=>Rq Y (ZW (ov Y) (ov Y) Zk2 h_x)<|Rq Y (ZU (ov Y) Zc2 Y Y)<|Rx Y (ZP (row:= [_,_]) 0 Y Zli Y tZ_42)<|Rx Y (Zf (ov Y) (ov Y) (Zp Zc2 Y) Y Y Y (Nat.le_of_ble_eq_true Y) (Zb Y) Y)<|Za<|K5 0 5 15 16 17 Y<|Tr<|Rq Y (ZJ (ov Y) Y Y Y Zc2 Y Y)<|bE h fun y h_y h=>Rq Y (Zq (Zfg h_y)<|.cons (ov Y) (.aggB Y) .nil)<|Ra Y<|Za<|K5 0 6 15 16 17 Y<|Tr<|Rm Y<|R2 XW Y<|Za<|K6 0 6 15 16 17 24 Y<|If h Y (fun h=>?_) fun h=>?_
    ·
     refine K1 6 Y<|Tr<|Rm Y<|Ra Y<|Ra Y<|Za<|?_
     replace h:=lx h▸ho1
     obtain rfl:=rt h
     exact Zs (ZK Y (.two (.tmp Y<|View.nils 52)<|rb Y))
    ·
     exact Zj<|K4 0 15 16 17 Y<|Zt<|R2 ZX Y<|Rm Y<|Za<|⟨_,h,ES []⟩
   ·
    refine ZI<|?_
    replace h:=lx h▸ho1
    exact⟨(),h,ES []⟩
  ·
   replace h:=elr h
   replace h:=t0i h
   refine Tr<|Ra Y<|Za<|I1 (fun parts=>⟨[(7,.own 0 parts.length)],[some ⟨52,List.map R52 parts⟩]⟩) h (fun h=>?_) fun parts h=>?_
   ·
    refine Tr<|Rm Y<|Rl tZ_42 Zk2 Y<|Rm Y<|Za<|Zi<|?_
    obtain⟨r2,hl2,ho2⟩:=QZ h
    refine L2 (fun parts2 i2=>⟨[(7,.own 0 parts2.length),(27,.sl 42 (List.map R42 l)),(28,.int .i64 (l.length:Int)),(29,.int .i64 i2)],[some ⟨52,List.map R52 parts2⟩]⟩) hl2 (ES [none]) fun n2 parts2 i2 h=>?_
    unfold XQ at h
    refine Tr<|R2 ZV Y<|Za<|Zl<|If h Y (fun h=>?_) fun h=>?_
    ·
     exact Zj<|Zl<|Zi<|K4 7 27 28 29 Y<|Tr<|bE h fun x2 h_x2 h=>Rq Y (ZW (ov Y) (ov Y) Zk2 h_x2)<|Rq Y (ZU (ov Y) Zc2 Y Y)<|Rx Y (ZP (row:= [_,_]) 1 Y Zli Y tZ_42)<|Rx Y (Zf (ov Y) (ov Y) (Zp Zc2 Y) Y Y Y (Nat.le_of_ble_eq_true Y) (Zb Y) Y)<|Za<|K5 7 9 27 28 29 Y<|Zt<|Rm Y<|Rq Y (ZJ (ov Y) Y Y Y Zc2 Y Y)<|bE h fun y2 h_y2 h=>Rq Y (Zq (Zha h_y2)<|.cons (ov Y) (.aggB Y) .nil)<|bE h fun y3 h_y3 h=>Rq Y (Zq (ZhA h_y3)<|.cons (ov Y) (.b Y) .nil)<|bE h fun l2 h_l2 h=>Rx Y (Zj1 (ov Y) (ZH (ov Y) tZ_52) Jg Y Y (fun x=>Zb<|E52 x) Y h_l2)<|Ra Y<|Za<|K4 7 27 28 29 Y<|Zt<|R2 ZX Y<|Rm Y<|Za<|⟨_,h,ES [some 0]⟩
    ·
     refine ZI<|?_
     replace h:=lx h▸ho2
     exact⟨_,h,ES [some 0]⟩
   ·
    refine Tr<|Rm Y<|bE h fun y4 h_y4 h=>Rx Y (ZqL (Zfv h_y4) (.cons (ov Y) (View.ownM Y Y D52) .nil) (.keep Y Y<|.lent 0 (.inr ⟨Nat.le_of_ble_eq_true Y,Y⟩) Y (roM D52) .nil) Y (.own _<|.inr ⟨Nat.le_of_ble_eq_true Y,Y⟩) Y<|.cons (frM ZtO) .nil)<|Ra Y<|Za<|Zl<|Zl<|K1 10 Y<|Qe (cw:=md0) (by kernel_rfl)<|D1 0 Zc Y<|Dq 1 Y (Zd3 (ov Y) Y Y Jg)<|D2 2 ZaL Y<|D1 3 Zc Y<|Dq 4 Y (.guarded ((decide (0<(y4.length:Int)))==true) Y Y Y Y fun h=>Zc<|ov Y)<|Dq 5 Y (.guarded ((decide (0<(y4.length:Int)))==true) Y Y Y Y fun h=>Zc<|ov Y)<|Dq 6 Y (.guarded ((decide (0<(y4.length:Int)))==true) Y Y Y Y fun h=>Zd3 (ow Y h) Y Y Jg)<|Dq 7 Y (.guarded ((decide (0<(y4.length:Int)))==true) Y Y Y Y fun h=>Zdo (ow Y h) (ov Y) Y)<|bE h fun x3 h_x3 h=>Dq 8 Y (.guarded ((decide (0<(y4.length:Int)))==true) Y Y Y Y fun h=>QW (ow Y h) (ow Y h) Jg Y Y<|gdT h_x3 h)<|Dq 9 Y (.guarded ((decide (0<(y4.length:Int)))==true) Y Y Y Y fun h=>Zki (ow Y h) Y Y JC)<|Dq 10 Y (.guarded ((decide (0<(y4.length:Int)))==true) Y Y Y Y fun h=>Q0 (ow Y h) Y Y (gdT h_x3 h) tS3<|Zn ZbW)<|Dq 11 Y (.guarded ((decide (0<(y4.length:Int)))==true) Y Y Y Y fun h=>Zc<|ov Y)<|bE h fun x4 h_x4 h=>Dq 12 Y (.guarded ((decide (0<(y4.length:Int)))==true) Y Y Y Y fun h=>QW (ow Y h) (ov Y) Jg Y Y<|gdT h_x4 h)<|Dq 13 Y (.guarded ((decide (0<(y4.length:Int)))==true) Y Y Y Y fun h=>Zki (ow Y h) Y Y JC)<|Dq 14 Y (.guarded ((decide (0<(y4.length:Int)))==true) Y Y Y Y fun h=>Q0 (ow Y h) Y Y (gdT h_x4 h) tS3<|Zn ZbW)<|Dq 15 Y (.guarded ((decide (0<(y4.length:Int)))==true) Y Y Y Y fun h=>Zdo (ow Y h) (ow Y h) Y)<|Dq 16 Y (.guarded ((decide (0<(y4.length:Int)))==true) Y Y Y Y fun h=>ZaL (ow Y h)<|ov Y)<|Dq 17 Y (XJ (ov Y) fun hp=>ow Y<|gT hp)<|Dd<|K2 10 58 Y<|If h Y (fun h=>?_) fun h=>?_
    ·
     refine K0<|Tr<|Ra Y<|Ra Y<|Za<|?_
     obtain rfl:=rt h
     exact Zs (ZK Y (.two (.tmp Y<|View.nils 52)<|rb Y))
    ·
     refine Zj<|I1 (fun out=>⟨[(10,.own 0 out.length)],[some ⟨52,List.map R52 out⟩]⟩) h (fun h=>?_) fun out h=>?_
     ·
      refine K1 10 Y<|Tr<|Rm Y<|Rq Y (Zd3 (ov Y) Y Y Jg)<|Rm Y<|Za<|Zi<|?_
      obtain⟨r3,hl3,ho3⟩:=QZ h
      refine L2 (fun out2 i3=>⟨[(10,.own 0 out2.length),(60,.int .i64 (y4.length:Int)),(61,.int .i64 i3)],[some ⟨52,List.map R52 out2⟩]⟩) hl3 (ES [some 1]) fun n3 out2 i3 h=>?_
      unfold XL at h
      refine Tr<|R2 ZV Y<|Za<|Zl<|If h Y (fun h=>?_) fun h=>?_
      ·
       exact Zj<|Zl<|Zi<|K3 10 60 61 Y<|Tr<|Rm Y<|Ra Y<|Za<|K4 10 11 60 61 Y<|Zt<|Rm Y<|Rm Y<|Rm Y<|Rm Y<|bE h fun x5 h_x5 h=>Rq Y (QW (ov Y) (ov Y) Jg Y Y h_x5)<|Rq Y (Zle (ov Y) Y Y h_x5 X8 (Zu<|Zh ZC) ZC (hns:=Zdi))<|bE h fun y5 h_y5 h=>Rq Y (Zq (Zhp h_y5)<|.cons (ov Y) (.aggB Zak) .nil)<|bE h fun x6 h_x6 h=>Rq Y (QW (ov Y) (ov Y) Jg Y Y h_x6)<|Rx Y (J4 (u':=y5) (ov Y) (ov Y) (Zp X8 ZC) Y Y h_x6 (Nat.ble_eq_true_of_le<|ZG (Zh ZC) ZC) (Zb ZeG)<|ZO<|Eq.trans ZC<|Eq.symm ZC)<|Za<|K3 10 60 61 Y<|Zt<|R2 ZX Y<|Rm Y<|Za<|⟨_,h,ES [some 0]<|sr 10 Y (ZfM (Eq.symm<|(List.length_set ..).trans Y) Y)<|sd 60 Y Y<|sd 61 Y Y sn⟩
      ·
       refine ZI<|?_
       replace h:=lx h▸ho3
       exact⟨_,h,ES [some 0]⟩
     ·
      refine Tr<|Rm Y<|Ra Y<|Ra Y<|Za<|?_
      obtain rfl:=rt h
      exact Zs (ZK Y (.two (.tmp Y<|View.ownM Y Y D52)<|rb Y))
theorem Zgy{p:api_Piece}{r:Int}(h:JJ p=some r):
 CSpec Tryz.prog gl0 51 [.agg [.sl 5 (List.map R5 p.Bytes),.bool p.Half]] (.int .i64 r):=by
 unfold JJ at h
 replace h:=Qk h
 refine So Tryz.func51 Y fun w0 A=>Tr<|Rq Y (Xh (cva<|ov Y) Y tZ_42 Y)<|Ra Y<|Za<|Zl<|K1 1 Y<|Tr<|Rq Y (ZE (ov Y) ZcR)<|Rq Y (Zd (ov Y) Zdz Y)<|Rl tZ_5 Q6 Y<|R2 ZaL Y<|Za<|K2 1 6 Y<|If h Y (fun h=>?_) fun h=>?_
 ·
  refine K0<|Tr<|Ra Y<|Za<|?_
  obtain rfl:=rt h
  exact Zs (ZK Y (.one<|rb Y))
 ·
  refine Zj<|Zl<|K1 1 Y<|Tr<|Rq Y (ZE (ov Y) ZiG)<|Rq Y (Zd (ov Y) tS4 Y)<|Rm Y<|Rq Y (.guarded (p.Half==true) Y Y Y Y fun h=>ZE (ov Y) ZcR)<|Rq Y (.guarded (p.Half==true) Y Y Y Y fun h=>Zd (ow Y h) Zdz Y)<|Rq Y (.guarded (p.Half==true) Y Y Y Y fun h=>ZfO (ZH (ow Y h) tZ_5) Q6<|Zcs _ _)<|Rq Y (.guarded (p.Half==true) Y Y Y Y fun h=>Q3 (ow Y h)<|ov Y)<|Rq Y (.guarded (p.Half==true) Y Y Y Y fun h=>Zc<|ow Y h)<|Rq Y (.guarded2 ((p.Half==true)&&((decide ((p.Bytes.length:Int)=0))==false)) Y Y Y Y fun h=>ZE (ov Y) ZcR)<|Rq Y (.guarded2 ((p.Half==true)&&((decide ((p.Bytes.length:Int)=0))==false)) Y Y Y Y fun h=>Zd (ow Y h) Zdz Y)<|bE h fun x h_x h=>Rq Y (.guarded2 ((p.Half==true)&&((decide ((p.Bytes.length:Int)=0))==false)) Y Y Y Y fun h=>ZW (ow Y h) (ov Y) Q6<|gdT h_x h)<|Rq Y (.guarded2 ((p.Half==true)&&((decide ((p.Bytes.length:Int)=0))==false)) Y Y Y Y fun h=>Zd (ow Y h) tS5 Y)<|Rq Y (.guarded2 ((p.Half==true)&&((decide ((p.Bytes.length:Int)=0))==false)) Y Y Y Y fun h=>ZaL (ow Y h)<|ov Y)<|Rq Y (.guarded (p.Half==true) Y Y Y Y fun h=>Za2 (ow Y h) fun hp=>ow Y<|gA h<|gF hp)<|Rq Y (XJ (ov Y) fun hp=>ow Y<|gT hp)<|Za<|K1 21 Y<|If h Y (fun h=>?_) fun h=>?_
  ·
   refine K0<|Tr<|Ra Y<|Za<|?_
   obtain rfl:=rt h
   exact Zs (ZK Y (.one<|rb Y))
  ·
   refine Zj<|K0<|Tr<|Ra Y<|Za<|?_
   obtain rfl:=rt h
   exact Zs (ZK Y (.one<|rb Y))
theorem ZiX{p:api_Piece}{r:(List Int)}(h:Zaf p=some r):
 CSpec Tryz.prog gl0 53 [.agg [.sl 5 (List.map R5 p.Bytes),.bool p.Half]] (.sl 5 (List.map R5 r)):=by
 unfold Zaf at h
 replace h:=Qk h
 refine So Tryz.func53 Y fun w0 A=>Tr<|Rq Y (Xh (cva<|ov Y) Y tZ_42 Y)<|Ra Y<|Za<|K1 1 Y<|Tr<|Ra Y<|Za<|I1 (fun out=>⟨[(3,.own 0 out.length)],[some ⟨5,List.map R5 out⟩]⟩) h (fun h=>?_) fun out h=>?_
 ·
  refine Tr<|Rq Y (ZE (ov Y) ZcR)<|Rq Y (Zd (ov Y) Zdz Y)<|Rl tZ_5 Q6 Y<|Rm Y<|Za<|Zi<|?_
  obtain⟨r1,hl1,ho1⟩:=QZ h
  refine L2 (fun out2 i=>⟨[(1,.rp [.sl 5 (List.map R5 p.Bytes),.bool p.Half] 0),(3,.own 0 out2.length),(7,.sl 5 (List.map R5 p.Bytes)),(8,.int .i64 (p.Bytes.length:Int)),(9,.int .i64 i)],[some ⟨5,List.map R5 out2⟩]⟩) hl1 (ES [none]) fun n1 out2 i h=>?_
  unfold Za5 at h
  refine Tr<|R2 ZV Y<|Za<|Zl<|If h Y (fun h=>?_) fun h=>?_
  ·
   refine Zj<|Zl<|Zi<|K5 1 3 7 8 9 Y<|Tr<|Rm Y<|bE h fun x h_x h=>Rq Y (ZW (ov Y) (ov Y) Q6 h_x)<|Rq Y (Zd (ov Y) tS5 Y)<|Ra Y<|Ra Y<|Za<|I1 (fun out3=>⟨[(1,.rp [.sl 5 (List.map R5 p.Bytes),.bool p.Half] 0),(3,.own 0 out3.length),(5,.int .u8 x),(7,.sl 5 (List.map R5 p.Bytes)),(8,.int .i64 (p.Bytes.length:Int)),(9,.int .i64 i)],[some ⟨5,List.map R5 out3⟩]⟩) h (fun h=>?_) fun out3 h=>?_
   ·
    refine K7 1 3 4 5 7 8 9 Y<|Tr<|Rm Y<|R2 ZaL Y<|Rm Y<|Rq Y (.guarded ((decide (0<i))==false) Y Y Y Y fun h=>ZE (ov Y) ZiG)<|Rq Y (.guarded ((decide (0<i))==false) Y Y Y Y fun h=>Zd (ow Y h) tS4 Y)<|Rq Y (.guarded ((decide (0<i))==false) Y Y Y Y fun h=>XV<|ow Y h)<|Rq Y (Za2 (ov Y) fun hp=>ow Y<|gF hp)<|Za<|K7 1 3 5 7 8 9 20 Y<|If h Y (fun h=>?_) fun h=>?_
    ·
     exact K6 1 3 5 7 8 9 Y<|Zt<|Rm Y<|Rm Y<|bE h fun q h_q h=>Rq Y (Zd6 (ov Y) (ov Y) h_q)<|R_q (.sl 5<|List.map R5 ([q]:List Int)) Y (Jm Q6 (.cons (cvs (ov Y)<|Z5 Y) Y (.cons (.b Y) .nil) .nil) Y Y)<|bE h fun l h_l h=>Rx Y (Zv (ov Y) (ZH (ov Y) tZ_5) Q6 Y Y Y (fun _=>Zb Y) Y h_l)<|Ra Y<|Za<|⟨_,h,ES [some 0]⟩
    ·
     exact Zj<|⟨_,h,ES [some 0]⟩
   ·
    exact Zt<|Rm Y<|Rm Y<|bE h fun q2 h_q2 h=>Rq Y (JI (ov Y) (ov Y) h_q2)<|R_q (.sl 5<|List.map R5 ([q2]:List Int)) Y (Jm Q6 (.cons (cvs (ov Y)<|Z5 Y) Y (.cons (.b Y) .nil) .nil) Y Y)<|bE h fun l2 h_l2 h=>Rx Y (Zv (ov Y) (ZH (ov Y) tZ_5) Q6 Y Y Y (fun _=>Zb Y) Y h_l2)<|Ra Y<|Za<|K5 1 3 7 8 9 Y<|Zt<|R2 ZX Y<|Rm Y<|Za<|⟨_,h,ES [some 0]⟩
  ·
   refine ZI<|?_
   replace h:=lx h▸ho1
   exact⟨_,h,ES [some 0]⟩
 ·
  refine Tr<|Rm Y<|Ra Y<|Za<|?_
  obtain rfl:=rt h
  exact Zs (ZK Y (.one<|.tmp Y<|View.ownM Y Y D5))
theorem Zir{h_:List Int}{at_:Int}{r:(Vector Int 64)×(Vector Bool 64)}(h:Zam h_ at_=some r):
 CSpec Tryz.prog gl0 83 [.sl 5 (List.map R5 h_),.int .i64 at_] (.tuple [.agg (List.map C35 r.1.toList),.agg (List.map C4 r.2.toList)]):=by
 unfold Zam at h
 replace h:=Qk h
 refine So Tryz.func83 Y fun w0 A=>Tr<|Rx Y (ZP (row:=(List.map C35 (Vector.replicate 64 0).toList)) 0 Y ZcI Y tZ_37)<|Rx Y (ZP (row:=(List.map C4 (Vector.replicate 64 false).toList)) 1 Y Zkl Y tZ_118)<|Za<|Tr<|R_q (.agg<|List.map C35 (#v[0,0,0,0,0,0,0,0,0,0,0,0,0,0,0,0,0,0,0,0,0,0,0,0,0,0,0,0,0,0,0,0,0,0,0,0,0,0,0,0,0,0,0,0,0,0,0,0,0,0,0,0,0,0,0,0,0,0,0,0,0,0,0,0]:Vector Int 64).toList) Y (Zbq (ys:= [_,_,_,_,_,_,_,_,_,_,_,_,_,_,_,_,_,_,_,_,_,_,_,_,_,_,_,_,_,_,_,_,_,_,_,_,_,_,_,_,_,_,_,_,_,_,_,_,_,_,_,_,_,_,_,_,_,_,_,_,_,_,_,_]) Xc ZcI .nil Y)<|R_q (.agg<|List.map C4 (#v[false,false,false,false,false,false,false,false,false,false,false,false,false,false,false,false,false,false,false,false,false,false,false,false,false,false,false,false,false,false,false,false,false,false,false,false,false,false,false,false,false,false,false,false,false,false,false,false,false,false,false,false,false,false,false,false,false,false,false,false,false,false,false,false]:Vector Bool 64).toList) Y (Zbq (ys:= [_,_,_,_,_,_,_,_,_,_,_,_,_,_,_,_,_,_,_,_,_,_,_,_,_,_,_,_,_,_,_,_,_,_,_,_,_,_,_,_,_,_,_,_,_,_,_,_,_,_,_,_,_,_,_,_,_,_,_,_,_,_,_,_]) ZiK Zkl .nil Y)<|Rx Y (ZP (row:=(List.map C35 (Vector.replicate 64 0).toList)) 2 Y ZcI Y tZ_37)<|Rx Y (ZP (row:=(List.map C4 (Vector.replicate 64 false).toList)) 3 Y Zkl Y tZ_118)<|Rx Y (Zf (ov Y) (ov Y) (Zp Qz arL) Y Y Y (ZG (Zh arL) arL) (Zb<|arC fun _=>Y)<|ZO<|Eq.trans arL<|Eq.symm arL)<|Rx Y (Zf (ov Y) (ov Y) (Zp Zc8 arL) Y Y Y (ZG (Zh arL) arL) (Zb<|arC fun _=>Y)<|ZO<|Eq.trans arL<|Eq.symm arL)<|Za<|I2 (fun f whole=>⟨[(4,.ptr 0 1 0 0),(5,.ptr 1 1 0 0),(6,.ptr 2 1 0 0),(7,.ptr 3 1 0 0)],[some ⟨37,[(List.map C35 (Vector.replicate 64 0).toList)]⟩,some ⟨118,[(List.map C4 (Vector.replicate 64 false).toList)]⟩,some ⟨37,[(List.map C35 f.toList)]⟩,some ⟨118,[(List.map C4 whole.toList)]⟩]⟩) h (fun h=>?_) fun f whole h=>?_
 ·
  refine K6 0 1 4 5 6 7 Y<|Tr<|Rm Y<|Za<|Zi<|?_
  obtain⟨r1,hl1,ho1⟩:=QZ h
  refine L3 (fun f2 whole2 i=>⟨[(0,.sl 5 (List.map R5 h_)),(1,.int .i64 at_),(4,.ptr 0 1 0 0),(5,.ptr 1 1 0 0),(6,.ptr 2 1 0 0),(7,.ptr 3 1 0 0),(12,.int .i64 i)],[some ⟨37,[(List.map C35 (Vector.replicate 64 0).toList)]⟩,some ⟨118,[(List.map C4 (Vector.replicate 64 false).toList)]⟩,some ⟨37,[(List.map C35 f2.toList)]⟩,some ⟨118,[(List.map C4 whole2.toList)]⟩]⟩) hl1 (ES [some 0,some 1,some 2,some 3]) fun n1 f2 whole2 i h=>?_
  unfold XE at h
  refine Tr<|R2 ZV Y<|Za<|Zl<|If h Y (fun h=>?_) fun h=>?_
  ·
   refine Zj<|Zl<|Zi<|K7 0 1 4 5 6 7 12 Y<|Tr<|Rm Y<|Ra Y<|Za<|K8 0 1 4 5 6 7 8 12 Y<|Tr<|Rm Y<|Rm Y<|R2 Zd7 Y<|R2 ZX Y<|Ra Y<|Za<|Zl<|K9 0 1 4 5 6 7 8 9 12 Y<|Tr<|Rm Y<|R2 ZV Y<|Rm Y<|Rq Y (.guarded ((decide ((i64 (at_+(i64 (3*i))))<0))==false) Y Y Y Y fun h=>Zc<|ov Y)<|Rq Y (.guarded ((decide ((i64 (at_+(i64 (3*i))))<0))==false) Y Y Y Y fun h=>Zh4 (ow Y h) (ov Y) Y)<|Rq Y (.guarded ((decide ((i64 (at_+(i64 (3*i))))<0))==false) Y Y Y Y fun h=>Zc<|ov Y)<|Rq Y (.guarded ((decide ((i64 (at_+(i64 (3*i))))<0))==false) Y Y Y Y fun h=>ZfO (ZH (ow Y h) tZ_5) Q6<|Zcs _ _)<|Rq Y (.guarded ((decide ((i64 (at_+(i64 (3*i))))<0))==false) Y Y Y Y fun h=>ZaL (ow Y h)<|ow Y h)<|Rq Y (Za2 (ov Y) fun hp=>ow Y<|gF hp)<|Za<|K10 0 1 4 5 6 7 8 9 12 27 Y<|If h Y (fun h=>?_) fun h=>?_
   ·
    exact ZI<|K7 0 1 4 5 6 7 12 Y<|Zt<|R2 ZX Y<|Rm Y<|Za<|⟨_,h,ES [some 0,some 1,some 2,some 3]⟩
   ·
    exact Zj<|K9 0 1 4 5 6 7 8 9 12 Y<|Tr<|Rm Y<|bE h fun x h_x h=>Rq Y (QB (ov Y) (ov Y) ZiK Y Y h_x)<|Rx Y (Zf (ov Y) (ov Y) (Zg tS4) Y Y Y (arB h_x) (Zb Y)<|arS h_x)<|Za<|K9 0 1 4 5 6 7 8 9 12 Y<|Qe (cw:=md0) (by kernel_rfl)<|D1 0 Zc Y<|D1 1 Zc Y<|D1 2 Zc Y<|bE h fun x2 h_x2 h=>Dq 3 Y (ZW (ov Y) (ov Y) Q6 h_x2)<|Dq 4 Y (Zd (ov Y) tS5 Y)<|Dq 5 Y (Qy (ov Y) tI5 ZcN Y)<|D2 6 Zd7 Y<|D1 7 Zc Y<|D1 8 Zc Y<|D2 9 ZX Y<|bE h fun x3 h_x3 h=>Dq 10 Y (ZW (ov Y) (ov Y) Q6 h_x3)<|Dq 11 Y (Zd (ov Y) tS5 Y)<|Dq 12 Y (Qy (ov Y) tI5 ZcN Y)<|D2 13 Zd7 Y<|D2 14 ZX Y<|D1 15 Zc Y<|D1 16 Zc Y<|D2 17 ZX Y<|bE h fun x4 h_x4 h=>Dq 18 Y (ZW (ov Y) (ov Y) Q6 h_x4)<|Dq 19 Y (Zd (ov Y) tS5 Y)<|Dq 20 Y (Qy (ov Y) tI5 ZcN Y)<|D2 21 ZX Y<|bE h fun x5 h_x5 h=>Dq 22 Y (QB (ov Y) (ov Y) Xc Y Y h_x5)<|Do 23 Y (Zf (ov Y) (ov Y) (Zg Xn) Y Y Y (arB h_x5) (Zb Y)<|arS h_x5)<|Dd<|K7 0 1 4 5 6 7 12 Y<|Zt<|R2 ZX Y<|Rm Y<|Za<|⟨_,h,ES [some 0,some 1,some 2,some 3]⟩
  ·
   refine ZI<|?_
   replace h:=lx h▸ho1
   exact⟨_,h,ES [some 0,some 1,some 2,some 3]⟩
 ·
  refine Zl<|Qe (cw:=md0) (by kernel_rfl)<|Dq 0 Y (ZJ (ov Y) Y Y Y Qz (Zu<|Zh arL) arL (hns:=(nsM fun _=>Y)))<|Dw 1 2 Y (ZJ (ov Y) Y Y Y Zc8 (Zu<|Zh arL) arL (hns:=(nsM fun _=>Y))) (Zf (ov Y) (ov Y) (Zp Qz arL) Y Y Y (ZG (Zh arL) arL) (Zb<|arC fun _=>Y)<|ZO<|Eq.trans arL<|Eq.symm arL) ?_ ?_
  ·
   refine Do 2 Y (Zf (ov Y) (ov Y) (Zp Qz arL) Y Y Y (ZG (Zh arL) arL) (Zb<|arC fun _=>Y)<|ZO<|Eq.trans arL<|Eq.symm arL)<|Do 3 Y (Zf (ov Y) (ov Y) (Zp Zc8 arL) Y Y Y (ZG (Zh arL) arL) (Zb<|arC fun _=>Y)<|ZO<|Eq.trans arL<|Eq.symm arL)<|Dd<|?_
   obtain rfl:=rt h
   exact Zs (ZK Y (.two (.agg Y Y Y Y Qz (Zu<|Zh arL) arL (pwB<|arD fun _=>Y) (hns:=(nsM fun _=>Y)))<|.agg Y Y Y Y Zc8 (Zu<|Zh arL) arL (pwB<|arD fun _=>Y) (hns:=(nsM fun _=>Y))))
  ·
   refine Dq 1 Y (ZJ (ov Y) Y Y Y Zc8 (Zu<|Zh arL) arL (hns:=(nsM fun _=>Y)))<|Do 3 Y (Zf (ov Y) (ov Y) (Zp Zc8 arL) Y Y Y (ZG (Zh arL) arL) (Zb<|arC fun _=>Y)<|ZO<|Eq.trans arL<|Eq.symm arL)<|Dd<|?_
   obtain rfl:=rt h
   exact Zs (ZK Y (.two (.agg Y Y Y Y Qz (Zu<|Zh arL) arL (pwB<|arD fun _=>Y) (hns:=(nsM fun _=>Y)))<|.agg Y Y Y Y Zc8 (Zu<|Zh arL) arL (pwB<|arD fun _=>Y) (hns:=(nsM fun _=>Y))))
theorem ZeE{f:Vector Int 64}{r:Int}(h:JX f=some r):
 CSpec Tryz.prog gl0 27 [.agg (List.map C35 f.toList)] (.int .i64 r):=by
 unfold JX at h
 replace h:=Qk h
 refine So Tryz.func27 Y fun w0 A=>Tr<|Rq Y (Xh (cva<|ov Y) arL tZ_37<|arD fun _=>Y)<|Ra Y<|Za<|K2 1 2 Y<|Tr<|bE h fun x h_x h=>Rq Y (QI (ov Y) (ov Y) Xc h_x)<|Rq Y (Zd (ov Y) Xn<|Zn<|Qn (o:=0) (o':=((Int.toNat 1)*1)) (Zh arL)<|Qd h_x)<|Rq Y (Qy (ov Y) ZcN tI3 Y)<|bE h fun q h_q h=>Rq Y (JI (ov Y) (ov Y) h_q)<|bE h fun x2 h_x2 h=>Rq Y (QI (ov Y) (ov Y) Xc h_x2)<|Rq Y (Zd (ov Y) Xn<|Zn<|Qn (o:=0) (o':=((Int.toNat 2)*1)) (Zh arL)<|Qd h_x2)<|Rq Y (Qy (ov Y) ZcN tI3 Y)<|bE h fun q2 h_q2 h=>Rq Y (JI (ov Y) (ov Y) h_q2)<|R2 Zd7 Y<|R2 ZX Y<|Ra Y<|Za<|?_
 obtain rfl:=rt h
 exact Zs (ZK Y (.one<|rb Y))
theorem Zjv{number:Int}{r:Int}(h:ZaP number=some r):
 CSpec Tryz.prog gl0 123 [.int .i64 number] (.int .i64 r):=by
 unfold ZaP at h
 replace h:=Qk h
 refine So Tryz.func123 Y fun w0 A=>Tr<|Ra Y<|Za<|Tr<|R_q (.agg<|List.map C3 (#v[583,1464,2631,3512]:Vector Int 4).toList) Y (Zbq (ys:= [_,_,_,_]) Zq5 Zs7 (.cons (cvs (ov Y)<|Z5 Y)<|.cons (cvs (ov Y)<|Z5 Y)<|.cons (cvs (ov Y)<|Z5 Y)<|.cons (cvs (ov Y)<|Z5 Y) .nil) Y)<|Rm Y<|bE h fun q h_q h=>Rq Y (JI (ov Y) (ov Y) h_q)<|bE h fun x h_x h=>Rq Y (ZeN (ov Y) (ov Y) Zq5 tS3 h_x)<|Ra Y<|Za<|?_
 obtain rfl:=rt h
 exact Zs (ZK Y (.one<|rb Y))
theorem Zh7{n:Int}{r:Bool}(h:Zci n=some r):
 CSpec Tryz.prog gl0 55 [.int .i64 n] (.bool r):=by
 unfold Zci at h
 replace h:=Qk h
 refine So Tryz.func55 Y fun w0 A=>Tr<|Ra Y<|Za<|K1 0 Y<|Tr<|Ra Y<|Za<|I1 (fun ones=>⟨[(3,.int .i64 ones)],[]⟩) h (fun h=>?_) fun ones h=>?_
 ·
  refine Zi<|?_
  obtain⟨r1,hl1,ho1⟩:=QZ h
  refine L2 (fun n2 ones2=>⟨[(0,.int .i64 n2),(3,.int .i64 ones2)],[]⟩) hl1 (ES []) fun n1 n2 ones2 h=>?_
  unfold Zeb at h
  refine Zl<|Tr<|Rm Y<|R2 ZaL Y<|Za<|K3 0 3 5 Y<|If h Y (fun h=>?_) fun h=>?_
  ·
   exact Zj<|Zl<|Zi<|K2 0 3 Y<|Zt<|Rm Y<|Rm Y<|bE h fun q h_q h=>Rq Y (JI (ov Y) (ov Y) h_q)<|R2 ZX Y<|Ra Y<|Za<|K2 0 3 Y<|Zt<|Rm Y<|bE h fun q2 h_q2 h=>Rq Y (Zd6 (ov Y) (ov Y) h_q2)<|Ra Y<|Za<|⟨_,h,ES []⟩
  ·
   refine ZI<|?_
   replace h:=lx h▸ho1
   exact⟨_,h,ES []⟩
 ·
  refine Tr<|Rm Y<|bE h fun q3 h_q3 h=>Rq Y (JI (ov Y) (ov Y) h_q3)<|R2 Q3 Y<|Ra Y<|Za<|?_
  obtain rfl:=rt h
  exact Zs (ZK Y (.one<|rb Y))
theorem Zlw{f:Vector Int 64}{r:Int}(h:ZdY f=some r):
 CSpec Tryz.prog gl0 124 [.agg (List.map C35 f.toList)] (.int .i64 r):=by
 unfold ZdY at h
 replace h:=Qk h
 refine So Tryz.func124 Y fun w0 A=>Tr<|Rq Y (Xh (cva<|ov Y) arL tZ_37<|arD fun _=>Y)<|Ra Y<|Za<|K1 1 Y<|Tr<|Ra Y<|Za<|I1 (fun x=>⟨[(3,.int .i64 x)],[]⟩) h (fun h=>?_) fun x h=>?_
 ·
  refine Tr<|Ra Y<|Za<|Zi<|?_
  obtain⟨r1,hl1,ho1⟩:=QZ h
  refine L2 (fun x2 i=>⟨[(1,.rp (List.map C35 f.toList) 0),(3,.int .i64 x2),(4,.int .i64 i)],[]⟩) hl1 (ES []) fun n1 x2 i h=>?_
  unfold Zc6 at h
  refine Zl<|Tr<|Rm Y<|R2 Zfc Y<|Za<|K4 1 3 4 6 Y<|If h Y (fun h=>?_) fun h=>?_
  ·
   exact Zj<|Zl<|Zi<|K3 1 3 4 Y<|Zt<|Rm Y<|Rm Y<|bE h fun x3 h_x3 h=>Rq Y (QI (ov Y) (ov Y) Xc h_x3)<|Rq Y (Zd (ov Y) Xn<|Zn<|Qn (o:=0) (o':=(i.toNat*1)) (Zh arL)<|Qd h_x3)<|Rq Y (Qy (ov Y) ZcN tI3 Y)<|bE h fun q h_q h=>Rq Y (JI (ov Y) (ov Y) h_q)<|R2 ZhG Y<|Ra Y<|Za<|K3 1 3 4 Y<|Zt<|Rm Y<|R2 ZX Y<|Ra Y<|Za<|⟨_,h,ES []⟩
  ·
   refine ZI<|?_
   replace h:=lx h▸ho1
   exact⟨_,h,ES []⟩
 ·
  refine Tr<|Rm Y<|Ra Y<|Za<|?_
  obtain rfl:=rt h
  exact Zs (ZK Y (.one<|rb Y))
theorem ZjC{f:Vector Int 64}{r:Int}(h:ZbY f=some r):
 CSpec Tryz.prog gl0 125 [.agg (List.map C35 f.toList)] (.int .i64 r):=by
 unfold ZbY at h
 replace h:=Qk h
 refine So Tryz.func125 Y fun w0 A=>Tr<|Rq Y (Xh (cva<|ov Y) arL tZ_37<|arD fun _=>Y)<|Ra Y<|Za<|K1 1 Y<|Tr<|Ra Y<|Za<|I1 (fun rest=>⟨[(3,.int .i64 rest)],[]⟩) h (fun h=>?_) fun rest h=>?_
 ·
  refine Tr<|Ra Y<|Za<|Zi<|?_
  obtain⟨r1,hl1,ho1⟩:=QZ h
  refine L2 (fun rest2 i=>⟨[(1,.rp (List.map C35 f.toList) 0),(3,.int .i64 rest2),(4,.int .i64 i)],[]⟩) hl1 (ES []) fun n1 rest2 i h=>?_
  unfold Zbw at h
  refine Zl<|Tr<|Rm Y<|R2 ZV Y<|Za<|K4 1 3 4 7 Y<|If h Y (fun h=>?_) fun h=>?_
  ·
   refine Zj<|Zl<|Zi<|K3 1 3 4 Y<|Tr<|Ra Y<|Za<|I1 (fun bit=>⟨[(1,.rp (List.map C35 f.toList) 0),(3,.int .i64 rest2),(4,.int .i64 i),(5,.int .i64 bit)],[]⟩) h (fun h=>?_) fun bit h=>?_
   ·
    refine Tr<|Rm Y<|R2 ZV Y<|Za<|K5 1 3 4 5 11 Y<|If h Y (fun h=>?_) fun h=>?_
    ·
     exact K4 1 3 4 5 Y<|Zt<|Rm Y<|bE h fun q h_q h=>Rq Y (Zd6 (ov Y) (ov Y) h_q)<|bE h fun x h_x h=>Rq Y (QI (ov Y) (ov Y) Xc h_x)<|Rq Y (Zd (ov Y) Xn<|Zn<|Qn (o:=0) (o':=(q.toNat*1)) (Zh arL)<|Qd h_x)<|Rq Y (Qy (ov Y) ZcN tI3 Y)<|Rm Y<|bE h fun q2 h_q2 h=>Rq Y (JI (ov Y) (ov Y) h_q2)<|R2 ZaO Y<|bE h fun q3 h_q3 h=>Rq Y (Zbo (ov Y) (ov Y) h_q3)<|R2 ZbX Y<|Ra Y<|Za<|⟨_,h,ES []⟩
    ·
     exact Zj<|⟨_,h,ES []⟩
   ·
    refine Tr<|Rm Y<|R2 Zd7 Y<|Rm Y<|R2 ZX Y<|Ra Y<|Za<|K3 1 3 4 Y<|Tr<|Rm Y<|R2 Zc5 Y<|Za<|K4 1 3 4 27 Y<|If h Y (fun h=>?_) fun h=>?_
    ·
     exact K3 1 3 4 Y<|Zt<|Rm Y<|R2 ZhG Y<|Ra Y<|Za<|K3 1 3 4 Y<|Zt<|Rm Y<|R2 ZX Y<|Ra Y<|Za<|⟨_,h,ES []⟩
    ·
     exact Zj<|K3 1 3 4 Y<|Zt<|Rm Y<|R2 ZX Y<|Ra Y<|Za<|⟨_,h,ES []⟩
  ·
   refine ZI<|?_
   replace h:=lx h▸ho1
   exact⟨_,h,ES []⟩
 ·
  refine Tr<|Rm Y<|Ra Y<|Za<|?_
  obtain rfl:=rt h
  exact Zs (ZK Y (.one<|rb Y))
theorem ZjK{f:Vector Int 64}{r:(List api_Flaw)}(h:ZdP f=some r):
 CSpec Tryz.prog gl0 113 [.agg (List.map C35 f.toList)] (.sl 171 (List.map R171 r)):=by
 unfold ZdP at h
 replace h:=Qk h
 refine So Tryz.func113 Y fun w0 A=>Tr<|Rq Y (Xh (cva<|ov Y) arL tZ_37<|arD fun _=>Y)<|Ra Y<|Za<|K1 1 Y<|Tr<|Ra Y<|Za<|I1 (fun out=>⟨[(1,.rp (List.map C35 f.toList) 0),(3,.own 0 out.length)],[some ⟨171,List.map R171 out⟩]⟩) h (fun h=>?_) fun out h=>?_
 ·
  refine Tr<|Rq Y (ZU (ov Y) Qz (Zu<|Zh arL) arL)<|Rm Y<|Za<|Zi<|?_
  obtain⟨r1,hl1,ho1⟩:=QZ h
  refine L2 (fun out2 i=>⟨[(1,.rp (List.map C35 f.toList) 0),(3,.own 0 out2.length),(7,.agg (List.map C35 f.toList)),(8,.int .i64 i)],[some ⟨171,List.map R171 out2⟩]⟩) hl1 (ES [none]) fun n1 out2 i h=>?_
  unfold Zbp at h
  refine Tr<|R2 ZV Y<|Za<|Zl<|If h Y (fun h=>?_) fun h=>?_
  ·
   refine Zj<|Zl<|Zi<|K4 1 3 7 8 Y<|Tr<|Rm Y<|bE h fun x h_x h=>Rq Y (ZeN (ov Y) (ov Y) Xc Xn h_x)<|Ra Y<|Ra Y<|Za<|K6 1 3 4 5 7 8 Y<|Tr<|Rm Y<|R2 ZaL Y<|Za<|K6 1 3 4 7 8 13 Y<|If h Y (fun h=>?_) fun h=>?_
   ·
    exact K5 1 3 4 7 8 Y<|Zt<|Rm Y<|Rm Y<|Rq Y (ZdC (ys:= [_,_]) Zje Zjb Zlu (.cons (cvs (ov Y)<|Z5 Y)<|.cons (cvs (ov Y)<|Z5 Y) .nil) Y)<|R_q (.sl 171<|List.map R171 ([(api_Flaw.mk i 5)]:List api_Flaw)) Y (Jm Zff (.cons (cva<|ov Y) Y (pwD Y) .nil) Y Y)<|bE h fun l h_l h=>Rx Y (Zv (ov Y) (ZH (ov Y) tZ_171) Zff Y Y Y (fun _=>Zb Y) Y h_l)<|Ra Y<|Za<|K4 1 3 7 8 Y<|Zt<|R2 ZX Y<|Rm Y<|Za<|⟨_,h,ES [some 0]⟩
   ·
    exact Zj<|K4 1 3 7 8 Y<|Zt<|R2 ZX Y<|Rm Y<|Za<|⟨_,h,ES [some 0]⟩
  ·
   refine ZI<|?_
   replace h:=lx h▸ho1
   exact⟨_,h,ES [some 0]⟩
 ·
  refine Zl<|Tr<|Rm Y<|Rq Y (Zd3 (ov Y) Y Y Zff)<|R2 ZaL Y<|Za<|K3 1 3 22 Y<|If h Y (fun h=>?_) fun h=>?_
  ·
   refine K1 3 Y<|Tr<|Rm Y<|Ra Y<|Za<|?_
   obtain rfl:=rt h
   exact Zs (ZK Y (.one<|.tmp Y<|View.ownM Y Y D171))
  ·
   refine Zj<|I1 (fun out3=>⟨[(1,.rp (List.map C35 f.toList) 0),(3,.own 0 out3.length)],[some ⟨171,List.map R171 out3⟩]⟩) h (fun h=>?_) fun out3 h=>?_
   ·
    refine Zl<|K2 1 3 Y<|Qe (cw:=md0) (by kernel_rfl)<|bE h fun x2 h_x2 h=>Dq 0 Y (QI (ov Y) (ov Y) Xc h_x2)<|Dq 1 Y (Zd (ov Y) Xn<|Zn<|Qn (o:=0) (o':=((Int.toNat 0)*1)) (Zh arL)<|Qd h_x2)<|Dq 2 Y (Qy (ov Y) ZcN tI3 Y)<|Dq 3 Y (ZU (ov Y) Qz (Zu<|Zh arL) arL)<|bE h fun y h_y h=>Dq 4 Y (Zq (ZeE h_y)<|.cons (ov Y) (.aggB<|arD fun _=>Y) .nil)<|bE h fun y2 h_y2 h=>Dq 5 Y (Zq (Zjv h_y2)<|.cons (ov Y) (.b Y) .nil)<|D2 6 XW Y<|Dd<|K3 1 3 30 Y<|If h Y (fun h=>?_) fun h=>?_
    ·
     exact K2 1 3 Y<|Zt<|Rm Y<|Rq Y (ZdC (ys:= [_,_]) Zje Zjb Zlu (.cons (cvs (ov Y)<|Z5 Y)<|.cons (cvs (ov Y)<|Z5 Y) .nil) Y)<|R_q (.sl 171<|List.map R171 ([(api_Flaw.mk 0 1)]:List api_Flaw)) Y (Jm Zff (.cons (cva<|ov Y) Y (pwD Y) .nil) Y Y)<|bE h fun l2 h_l2 h=>Rx Y (Zv (ov Y) (ZH (ov Y) tZ_171) Zff Y Y Y (fun _=>Zb Y) Y h_l2)<|Ra Y<|Za<|⟨_,h,ES [some 0]⟩
    ·
     exact Zj<|⟨_,h,ES [some 0]⟩
   ·
    refine I1 (fun out4=>⟨[(1,.rp (List.map C35 f.toList) 0),(3,.own 0 out4.length)],[some ⟨171,List.map R171 out4⟩]⟩) h (fun h=>?_) fun out4 h=>?_
    ·
     refine Tr<|Ra Y<|Za<|Zi<|?_
     obtain⟨r2,hl2,ho2⟩:=QZ h
     refine L2 (fun out5 i2=>⟨[(1,.rp (List.map C35 f.toList) 0),(3,.own 0 out5.length),(6,.int .i64 i2)],[some ⟨171,List.map R171 out5⟩]⟩) hl2 (ES [some 0]) fun n2 out5 i2 h=>?_
     unfold Zbr at h
     refine Zl<|Tr<|Rm Y<|R2 ZV Y<|Za<|K4 1 3 6 36 Y<|If h Y (fun h=>?_) fun h=>?_
     ·
      refine Zj<|Zl<|Zi<|K3 1 3 6 Y<|Tr<|Rm Y<|bE h fun x3 h_x3 h=>Rq Y (QI (ov Y) (ov Y) Xc h_x3)<|Rq Y (Zd (ov Y) Xn<|Zn<|Qn (o:=0) (o':=(i2.toNat*1)) (Zh arL)<|Qd h_x3)<|Rq Y (Qy (ov Y) ZcN tI3 Y)<|bE h fun y3 h_y3 h=>Rq Y (Zq (Zh7 h_y3)<|.cons (ov Y) (.b Y) .nil)<|R1 XV Y<|Za<|K4 1 3 6 44 Y<|If h Y (fun h=>?_) fun h=>?_
      ·
       exact K3 1 3 6 Y<|Zt<|Rm Y<|Rm Y<|Rq Y (ZdC (ys:= [_,_]) Zje Zjb Zlu (.cons (cvs (ov Y)<|Z5 Y)<|.cons (cvs (ov Y)<|Z5 Y) .nil) Y)<|R_q (.sl 171<|List.map R171 ([(api_Flaw.mk i2 2)]:List api_Flaw)) Y (Jm Zff (.cons (cva<|ov Y) Y (pwD Y) .nil) Y Y)<|bE h fun l3 h_l3 h=>Rx Y (Zv (ov Y) (ZH (ov Y) tZ_171) Zff Y Y Y (fun _=>Zb Y) Y h_l3)<|Ra Y<|Za<|K3 1 3 6 Y<|Zt<|Rm Y<|R2 ZX Y<|Ra Y<|Za<|⟨_,h,ES [some 0]⟩
      ·
       exact Zj<|K3 1 3 6 Y<|Zt<|Rm Y<|R2 ZX Y<|Ra Y<|Za<|⟨_,h,ES [some 0]⟩
     ·
      refine ZI<|?_
      replace h:=lx h▸ho2
      exact⟨_,h,ES [some 0]⟩
    ·
     refine I1 (fun out6=>⟨[(1,.rp (List.map C35 f.toList) 0),(3,.own 0 out6.length)],[some ⟨171,List.map R171 out6⟩]⟩) h (fun h=>?_) fun out6 h=>?_
     ·
      refine Zl<|Qe (cw:=md0) (by kernel_rfl)<|bE h fun x4 h_x4 h=>Dq 0 Y (QI (ov Y) (ov Y) Xc h_x4)<|Dq 1 Y (Zd (ov Y) Xn<|Zn<|Qn (o:=0) (o':=((Int.toNat 61)*1)) (Zh arL)<|Qd h_x4)<|Dq 2 Y (Qy (ov Y) ZcN tI3 Y)<|bE h fun q h_q h=>Dq 3 Y (JI (ov Y) (ov Y) h_q)<|Dq 4 Y (ZU (ov Y) Qz (Zu<|Zh arL) arL)<|bE h fun y4 h_y4 h=>Dq 5 Y (Zq (Zlw h_y4)<|.cons (ov Y) (.aggB<|arD fun _=>Y) .nil)<|D2 6 XW Y<|Dd<|K3 1 3 56 Y<|If h Y (fun h=>?_) fun h=>?_
      ·
       exact K2 1 3 Y<|Zt<|Rm Y<|Rq Y (ZdC (ys:= [_,_]) Zje Zjb Zlu (.cons (cvs (ov Y)<|Z5 Y)<|.cons (cvs (ov Y)<|Z5 Y) .nil) Y)<|R_q (.sl 171<|List.map R171 ([(api_Flaw.mk 61 3)]:List api_Flaw)) Y (Jm Zff (.cons (cva<|ov Y) Y (pwD Y) .nil) Y Y)<|bE h fun l4 h_l4 h=>Rx Y (Zv (ov Y) (ZH (ov Y) tZ_171) Zff Y Y Y (fun _=>Zb Y) Y h_l4)<|Ra Y<|Za<|⟨_,h,ES [some 0]⟩
      ·
       exact Zj<|⟨_,h,ES [some 0]⟩
     ·
      refine Zl<|Zl<|Qe (cw:=md0) (by kernel_rfl)<|bE h fun x5 h_x5 h=>Dq 0 Y (QI (ov Y) (ov Y) Xc h_x5)<|Dq 1 Y (Zd (ov Y) Xn<|Zn<|Qn (o:=0) (o':=((Int.toNat 62)*1)) (Zh arL)<|Qd h_x5)<|Dq 2 Y (Qy (ov Y) ZcN tI3 Y)<|bE h fun q2 h_q2 h=>Dq 3 Y (JI (ov Y) (ov Y) h_q2)<|D2 4 Zd7 Y<|bE h fun x6 h_x6 h=>Dq 5 Y (QI (ov Y) (ov Y) Xc h_x6)<|Dq 6 Y (Zd (ov Y) Xn<|Zn<|Qn (o:=0) (o':=((Int.toNat 63)*1)) (Zh arL)<|Qd h_x6)<|Dq 7 Y (Qy (ov Y) ZcN tI3 Y)<|bE h fun q3 h_q3 h=>Dq 8 Y (JI (ov Y) (ov Y) h_q3)<|D2 9 ZX Y<|Dq 10 Y (ZU (ov Y) Qz (Zu<|Zh arL) arL)<|bE h fun y5 h_y5 h=>Dq 11 Y (Zq (ZjC h_y5)<|.cons (ov Y) (.aggB<|arD fun _=>Y) .nil)<|D2 12 XW Y<|Dd<|K2 3 73 Y<|If h Y (fun h=>?_) fun h=>?_
      ·
       refine K1 3 Y<|Zt<|Rm Y<|Rq Y (ZdC (ys:= [_,_]) Zje Zjb Zlu (.cons (cvs (ov Y)<|Z5 Y)<|.cons (cvs (ov Y)<|Z5 Y) .nil) Y)<|R_q (.sl 171<|List.map R171 ([(api_Flaw.mk 62 4)]:List api_Flaw)) Y (Jm Zff (.cons (cva<|ov Y) Y (pwD Y) .nil) Y Y)<|bE h fun l5 h_l5 h=>Rx Y (Zv (ov Y) (ZH (ov Y) tZ_171) Zff Y Y Y (fun _=>Zb Y) Y h_l5)<|Ra Y<|Za<|K1 3 Y<|Tr<|Rm Y<|Ra Y<|Za<|?_
       obtain rfl:=rt h
       exact Zs (ZK Y (.one<|.tmp Y<|View.ownM Y Y D171))
      ·
       refine Zj<|K1 3 Y<|Tr<|Rm Y<|Ra Y<|Za<|?_
       obtain rfl:=rt h
       exact Zs (ZK Y (.one<|.tmp Y<|View.ownM Y Y D171))
theorem Zjz{f:Vector Int 64}{r:Bool}(h:ZbV f=some r):
 CSpec Tryz.prog gl0 84 [.agg (List.map C35 f.toList)] (.bool r):=by
 unfold ZbV at h
 replace h:=Qk h
 refine So Tryz.func84 Y fun w0 A=>Tr<|Rq Y (Xh (cva<|ov Y) arL tZ_37<|arD fun _=>Y)<|Ra Y<|Za<|K2 1 2 Y<|Tr<|Rq Y (ZU (ov Y) Qz (Zu<|Zh arL) arL)<|bE h fun y h_y h=>Rq Y (Zq (ZjK h_y)<|.cons (ov Y) (.aggB<|arD fun _=>Y) .nil)<|Rl tZ_171 Zff Y<|R2 Q3 Y<|Ra Y<|Za<|?_
 obtain rfl:=rt h
 exact Zs (ZK Y (.one<|rb Y))
theorem ZkM{h_:List Int}{r:(List api_Found)}(h:ZdD h_=some r):
 CSpec Tryz.prog gl0 52 [.sl 5 (List.map R5 h_)] (.sl 47 (List.map R47 r)):=by
 unfold ZdD at h
 replace h:=Qk h
 refine So Tryz.func52 Y fun w0 A=>Tr<|Ra Y<|Za<|K1 0 Y<|Tr<|Ra Y<|Za<|I1 (fun out=>⟨[(3,.own 0 out.length)],[some ⟨47,List.map R47 out⟩]⟩) h (fun h=>?_) fun out h=>?_
 ·
  refine Tr<|Ra Y<|Za<|Zi<|?_
  obtain⟨r1,hl1,ho1⟩:=QZ h
  refine L2 (fun out2 at_=>⟨[(0,.sl 5 (List.map R5 h_)),(3,.own 0 out2.length),(4,.int .i64 at_)],[some ⟨47,List.map R47 out2⟩]⟩) hl1 (ES [none]) fun n1 out2 at_ h=>?_
  unfold ZcF at h
  refine Zl<|Tr<|Rm Y<|R2 ZX Y<|Rm Y<|Rl tZ_5 Q6 Y<|R2 Zfc Y<|Za<|K4 0 3 4 12 Y<|If h Y (fun h=>?_) fun h=>?_
  ·
   refine Zj<|I1 (fun out3=>⟨[(0,.sl 5 (List.map R5 h_)),(3,.own 0 out3.length),(4,.int .i64 at_)],[some ⟨47,List.map R47 out3⟩]⟩) h (fun h=>?_) fun out3 h=>?_
   ·
    refine Zi<|Zl<|K3 0 3 4 Y<|Qe (cw:=md0) (by kernel_rfl)<|D1 0 Zc Y<|D1 1 Zc Y<|bE h fun x h_x h=>Dq 2 Y (ZW (ov Y) (ov Y) Q6 h_x)<|Dq 3 Y (Zd (ov Y) tS5 Y)<|Dq 4 Y (Qy (ov Y) tI5 tI3 Y)<|D2 5 Zd7 Y<|D1 6 Zc Y<|D1 7 Zc Y<|D2 8 ZX Y<|bE h fun x2 h_x2 h=>Dq 9 Y (ZW (ov Y) (ov Y) Q6 h_x2)<|Dq 10 Y (Zd (ov Y) tS5 Y)<|Dq 11 Y (Qy (ov Y) tI5 tI3 Y)<|D2 12 Zd7 Y<|D2 13 ZX Y<|D1 14 Zc Y<|D1 15 Zc Y<|D2 16 ZX Y<|bE h fun x3 h_x3 h=>Dq 17 Y (ZW (ov Y) (ov Y) Q6 h_x3)<|Dq 18 Y (Zd (ov Y) tS5 Y)<|Dq 19 Y (Qy (ov Y) tI5 tI3 Y)<|D2 20 ZX Y<|D1 21 QK Y<|Dd<|Zl<|K4 0 3 4 5 Y<|Tr<|Rm Y<|R2 XW Y<|Rm Y<|Rq Y (.guarded ((!decide ((i64 ((i64 ((i64 ((i64 x)*256))+(i64 ((i64 x2)*16))))+(i64 x3)))=583))==true) Y Y Y Y fun h=>Zc<|ov Y)<|Rq Y (.guarded ((!decide ((i64 ((i64 ((i64 ((i64 x)*256))+(i64 ((i64 x2)*16))))+(i64 x3)))=583))==true) Y Y Y Y fun h=>XW (ow Y h)<|ov Y)<|Rq Y (XJ (ov Y) fun hp=>ow Y<|gT hp)<|Rm Y<|Rq Y (.guarded (((!decide ((i64 ((i64 ((i64 ((i64 x)*256))+(i64 ((i64 x2)*16))))+(i64 x3)))=583))&&(!decide ((i64 ((i64 ((i64 ((i64 x)*256))+(i64 ((i64 x2)*16))))+(i64 x3)))=1464)))==true) Y Y Y Y fun h=>Zc<|ov Y)<|Rq Y (.guarded (((!decide ((i64 ((i64 ((i64 ((i64 x)*256))+(i64 ((i64 x2)*16))))+(i64 x3)))=583))&&(!decide ((i64 ((i64 ((i64 ((i64 x)*256))+(i64 ((i64 x2)*16))))+(i64 x3)))=1464)))==true) Y Y Y Y fun h=>XW (ow Y h)<|ov Y)<|Rq Y (XJ (ov Y) fun hp=>ow Y<|gT hp)<|Rm Y<|Rq Y (.guarded ((((!decide ((i64 ((i64 ((i64 ((i64 x)*256))+(i64 ((i64 x2)*16))))+(i64 x3)))=583))&&(!decide ((i64 ((i64 ((i64 ((i64 x)*256))+(i64 ((i64 x2)*16))))+(i64 x3)))=1464)))&&(!decide ((i64 ((i64 ((i64 ((i64 x)*256))+(i64 ((i64 x2)*16))))+(i64 x3)))=2631)))==true) Y Y Y Y fun h=>Zc<|ov Y)<|Rq Y (.guarded ((((!decide ((i64 ((i64 ((i64 ((i64 x)*256))+(i64 ((i64 x2)*16))))+(i64 x3)))=583))&&(!decide ((i64 ((i64 ((i64 ((i64 x)*256))+(i64 ((i64 x2)*16))))+(i64 x3)))=1464)))&&(!decide ((i64 ((i64 ((i64 ((i64 x)*256))+(i64 ((i64 x2)*16))))+(i64 x3)))=2631)))==true) Y Y Y Y fun h=>XW (ow Y h)<|ov Y)<|Rq Y (XJ (ov Y) fun hp=>ow Y<|gT hp)<|Za<|K4 0 3 4 49 Y<|If h Y (fun h=>?_) fun h=>?_
    ·
     exact ZI<|⟨_,h,ES [some 0]⟩
    ·
     refine Zj<|K3 0 3 4 Y<|Tr<|Rm Y<|Rm Y<|bE h fun y h_y h=>Rq Y (Zq (Zir h_y)<|.cons (ov Y) (.b Y)<|.cons (ov Y) (.b Y) .nil)<|Rm Y<|Rq Y (Zk (ov Y) Y)<|Rq Y (Zk (ov Y) Y)<|Rx Y (ZP (row:=(List.map C35 (Vector.replicate 64 0).toList)) 1 Y ZcI Y tZ_37)<|Rx Y (ZP (row:=(List.map C4 (Vector.replicate 64 false).toList)) 2 Y Zkl Y tZ_118)<|Rx Y (Zf (ov Y) (ov Y) (Zp Qz arL) Y Y Y (ZG (Zh arL) arL) (Zb<|arC fun _=>Y)<|ZO<|Eq.trans arL<|Eq.symm arL)<|Rx Y (Zf (ov Y) (ov Y) (Zp Zc8 arL) Y Y Y (ZG (Zh arL) arL) (Zb<|arC fun _=>Y)<|ZO<|Eq.trans arL<|Eq.symm arL)<|Za<|K4 0 3 4 6 Y<|Tr<|Rq Y (ZJ (ov Y) Y Y Y Qz (Zu<|Zh arL) arL (hns:=(nsM fun _=>Y)))<|bE h fun y2 h_y2 h=>Rq Y (Zq (Zjz h_y2)<|.cons (ov Y) (.aggB<|arD fun _=>Y) .nil)<|Za<|K5 0 3 4 6 57 Y<|If h Y (fun h=>?_) fun h=>?_
     ·
      exact K4 0 3 4 6 Y<|Zt<|Rm Y<|Rm Y<|Rq Y (ZJ (ov Y) Y Y Y Qz (Zu<|Zh arL) arL (hns:=(nsM fun _=>Y)))<|Rq Y (Zc9 (zr:=(.int .i64 0)::((List.map C35 (Vector.replicate 64 0).toList)++([]))) ZqX Zrg ZlH (by kernel_rfl) (.cons (cvs (ov Y)<|Z5 Y)<|.cons (cva<|ov Y) .nil)<|Jj Y Y Xo ZtA<|Jj Y arL ZpS Zs6 Zfy)<|R_q (.sl 47<|List.map R47 ([(api_Found.mk at_ y.1)]:List api_Found)) Y (Jm Zaw (.cons (cva<|ov Y) Xq (pwD Zlm) .nil) Y Y)<|bE h fun l h_l h=>Rx Y (Zv (ov Y) (ZH (ov Y) tZ_47) Zaw Y Y Y (fun x=>Zb<|E47 x) Y h_l)<|Ra Y<|Za<|⟨_,h,ES [some 0]⟩
     ·
      exact Zj<|⟨_,h,ES [some 0]⟩
   ·
    exact Zt<|Rm Y<|R2 ZX Y<|Ra Y<|Za<|⟨_,h,ES [some 0]⟩
  ·
   refine ZI<|?_
   replace h:=lx h▸ho1
   exact⟨_,h,ES [some 0]⟩
 ·
  refine Tr<|Rm Y<|Ra Y<|Za<|?_
  obtain rfl:=rt h
  exact Zs (ZK Y (.one<|.tmp Y<|View.ownM Y Y D47))
theorem ZkI{p:api_Piece}{r:(List api_Found)×Int}(h:ZeK p=some r):
 CSpec Tryz.prog gl0 24 [.agg [.sl 5 (List.map R5 p.Bytes),.bool p.Half]] (.tuple [.sl 47 (List.map R47 r.1),.int .i64 r.2]):=by
 unfold ZeK at h
 replace h:=Qk h
 refine So Tryz.func24 Y fun w0 A=>Tr<|Rq Y (Xh (cva<|ov Y) Y tZ_42 Y)<|Ra Y<|Ra Y<|Za<|Zl<|K1 1 Y<|Tr<|Rq Y (ZU (ov Y) Zc2 Y Y)<|bE h fun y h_y h=>Rq Y (Zq (Zgy h_y)<|.cons (ov Y) (.aggB Y) .nil)<|Ra Y<|Za<|K2 1 4 Y<|Tr<|Rm Y<|R2 XW Y<|Za<|K3 1 4 8 Y<|If h Y (fun h=>?_) fun h=>?_
 ·
  refine K1 4 Y<|Tr<|Rm Y<|Ra Y<|Ra Y<|Za<|?_
  obtain rfl:=rt h
  exact Zs (ZK Y (.two (.tmp Y<|View.nils 47)<|rb Y))
 ·
  refine Zj<|K1 1 Y<|Tr<|Rq Y (ZU (ov Y) Zc2 Y Y)<|bE h fun y2 h_y2 h=>Rq Y (Zq (ZiX h_y2)<|.cons (ov Y) (.aggB Y) .nil)<|bE h fun y3 h_y3 h=>Rq Y (Zq (ZkM h_y3)<|.cons (ov Y) (.b Y) .nil)<|Ra Y<|Ra Y<|Za<|?_
  obtain rfl:=rt h
  exact Zs (ZK Y (.two (rb Y)<|rb Y))
theorem Zgm{a:Int}{b:Int}{r:Int}(h:Q2 a b=some r):
 CSpec Tryz.prog gl0 54 [.int .i64 a,.int .i64 b] (.int .i64 r):=by
 unfold Q2 at h
 replace h:=Qk h
 refine So Tryz.func54 Y fun w0 A=>Tr<|Ra Y<|Za<|Zl<|K2 0 1 Y<|Tr<|Rm Y<|Rm Y<|R2 ZV Y<|Za<|K3 0 1 7 Y<|If h Y (fun h=>?_) fun h=>?_
 ·
  refine K2 0 1 Y<|Tr<|Rm Y<|Rm Y<|R2 ZaO Y<|Ra Y<|Za<|?_
  obtain rfl:=rt h
  exact Zs (ZK Y (.one<|rb Y))
 ·
  refine Zj<|K2 0 1 Y<|Tr<|Rm Y<|Rm Y<|R2 ZaO Y<|Ra Y<|Za<|?_
  obtain rfl:=rt h
  exact Zs (ZK Y (.one<|rb Y))
theorem Zii{l:List api_Found}{r:(List api_Found)}(h:Za8 l=some r):
 CSpec Tryz.prog gl0 25 [.sl 47 (List.map R47 l)] (.sl 47 (List.map R47 r)):=by
 unfold Za8 at h
 replace h:=Qk h
 refine So Tryz.func25 Y fun w0 A=>Tr<|Ra Y<|Za<|K1 0 Y<|Tr<|Ra Y<|Za<|I1 (fun out=>⟨[(3,.own 0 out.length)],[some ⟨47,List.map R47 out⟩]⟩) h (fun h=>?_) fun out h=>?_
 ·
  refine Tr<|Rm Y<|Rl tZ_47 Zaw Y<|Rm Y<|Za<|Zi<|?_
  obtain⟨r1,hl1,ho1⟩:=QZ h
  refine L2 (fun out2 i=>⟨[(0,.sl 47 (List.map R47 l)),(3,.own 0 out2.length),(7,.sl 47 (List.map R47 l)),(8,.int .i64 (l.length:Int)),(9,.int .i64 i)],[some ⟨47,List.map R47 out2⟩]⟩) hl1 (ES [none]) fun n1 out2 i h=>?_
  unfold JK at h
  refine Tr<|R2 ZV Y<|Za<|Zl<|If h Y (fun h=>?_) fun h=>?_
  ·
   refine Zj<|Zl<|Zi<|K5 0 3 7 8 9 Y<|Tr<|Rm Y<|bE h fun x h_x h=>Rq Y (ZW (ov Y) (ov Y) Zaw h_x)<|Rq Y (ZU (ov Y) Zf9 (Zu<|Zh Xq) Xq)<|Rx Y (ZP (row:=(.int .i64 0)::((List.map C35 (Vector.replicate 64 0).toList)++([]))) 1 Y ZlH (by kernel_rfl)<|by exact Eq.symm (Eq.trans (b:=65) Xq tZ_47.symm))<|Ra Y<|Rx Y (Zf (ov Y) (ov Y) (Zp Zf9 Xq) Y Y Y (ZG (Zh Xq) Xq) (Zb Zmh)<|ZO<|Eq.trans Xq<|Eq.symm Xq)<|Za<|Zl<|K7 0 3 4 5 7 8 9 Y<|Qe (cw:=md0) (by kernel_rfl)<|D1 0 Zc Y<|D2 1 Q3 Y<|D1 2 Zc Y<|Dq 3 Y (.guarded ((decide (i=0))==false) Y Y Y Y fun h=>Zc<|ov Y)<|Dq 4 Y (.guarded ((decide (i=0))==false) Y Y Y Y fun h=>Zc<|ov Y)<|Dq 5 Y (.guarded ((decide (i=0))==false) Y Y Y Y fun h=>Zdo (ow Y h) (ov Y) Y)<|bE h fun x2 h_x2 h=>Dq 6 Y (.guarded ((decide (i=0))==false) Y Y Y Y fun h=>ZW (ow Y h) (ow Y h) Zaw<|gdT h_x2 h)<|Dq 7 Y (.guarded ((decide (i=0))==false) Y Y Y Y fun h=>ZE (ow Y h) Xm)<|Dq 8 Y (.guarded ((decide (i=0))==false) Y Y Y Y fun h=>Zd (ow Y h) tS3<|Zn Xo)<|Dq 9 Y (.guarded ((decide (i=0))==false) Y Y Y Y fun h=>Ze (ov Y) Y Y Xm)<|Dq 10 Y (.guarded ((decide (i=0))==false) Y Y Y Y fun h=>Zm (ow Y h) Y Y Y tS3<|Zn Xo)<|bE h fun y h_y h=>Dq 11 Y (.guarded ((decide (i=0))==false) Y Y Y Y fun h=>Zq (Zgm<|gdT h_y h)<|.cons (ow Y h) (.b Y)<|.cons (ow Y h) (.b Y) .nil)<|Dq 12 Y (.guarded ((decide (i=0))==false) Y Y Y Y fun h=>Zc5 (ow Y h)<|ov Y)<|Dq 13 Y (Za2 (ov Y) fun hp=>ow Y<|gF hp)<|D1 14 Zc Y<|Dq 15 Y (.guarded (((decide (i=0)) || (decide (192≤y)))==true) Y Y Y Y fun h=>Zc<|ov Y)<|Dq 16 Y (.guarded (((decide (i=0)) || (decide (192≤y)))==true) Y Y Y Y fun h=>Zh4 (ow Y h) (ov Y) Y)<|Dq 17 Y (.guarded (((decide (i=0)) || (decide (192≤y)))==true) Y Y Y Y fun h=>Zc<|ov Y)<|Dq 18 Y (.guarded (((decide (i=0)) || (decide (192≤y)))==true) Y Y Y Y fun h=>ZfO (ZH (ow Y h) tZ_47) Zaw<|Zcs _ _)<|Dq 19 Y (.guarded (((decide (i=0)) || (decide (192≤y)))==true) Y Y Y Y fun h=>Q3 (ow Y h)<|ow Y h)<|Dq 20 Y (.guarded (((decide (i=0)) || (decide (192≤y)))==true) Y Y Y Y fun h=>Zc<|ow Y h)<|Dq 21 Y (.guarded2 ((((decide (i=0)) || (decide (192≤y)))==true)&&((decide ((i64 (i+1))=(l.length:Int)))==false)) Y Y Y Y fun h=>Zc<|ov Y)<|Dq 22 Y (.guarded2 ((((decide (i=0)) || (decide (192≤y)))==true)&&((decide ((i64 (i+1))=(l.length:Int)))==false)) Y Y Y Y fun h=>Zc<|ov Y)<|Dq 23 Y (.guarded2 ((((decide (i=0)) || (decide (192≤y)))==true)&&((decide ((i64 (i+1))=(l.length:Int)))==false)) Y Y Y Y fun h=>Zh4 (ow Y h) (ov Y) Y)<|bE h fun x3 h_x3 h=>Dq 24 Y (.guarded2 ((((decide (i=0)) || (decide (192≤y)))==true)&&((decide ((i64 (i+1))=(l.length:Int)))==false)) Y Y Y Y fun h=>ZW (ow Y h) (ow Y h) Zaw<|gdT h_x3 h)<|Dq 25 Y (.guarded2 ((((decide (i=0)) || (decide (192≤y)))==true)&&((decide ((i64 (i+1))=(l.length:Int)))==false)) Y Y Y Y fun h=>ZE (ow Y h) Xm)<|Dq 26 Y (.guarded2 ((((decide (i=0)) || (decide (192≤y)))==true)&&((decide ((i64 (i+1))=(l.length:Int)))==false)) Y Y Y Y fun h=>Zd (ow Y h) tS3<|Zn Xo)<|Dq 27 Y (.guarded2 ((((decide (i=0)) || (decide (192≤y)))==true)&&((decide ((i64 (i+1))=(l.length:Int)))==false)) Y Y Y Y fun h=>Ze (ov Y) Y Y Xm)<|Dq 28 Y (.guarded2 ((((decide (i=0)) || (decide (192≤y)))==true)&&((decide ((i64 (i+1))=(l.length:Int)))==false)) Y Y Y Y fun h=>Zm (ow Y h) Y Y Y tS3<|Zn Xo)<|bE h fun y2 h_y2 h=>Dq 29 Y (.guarded2 ((((decide (i=0)) || (decide (192≤y)))==true)&&((decide ((i64 (i+1))=(l.length:Int)))==false)) Y Y Y Y fun h=>Zq (Zgm<|gdT h_y2 h)<|.cons (ow Y h) (.b Y)<|.cons (ow Y h) (.b Y) .nil)<|Dq 30 Y (.guarded2 ((((decide (i=0)) || (decide (192≤y)))==true)&&((decide ((i64 (i+1))=(l.length:Int)))==false)) Y Y Y Y fun h=>Zc5 (ow Y h)<|ov Y)<|Dq 31 Y (.guarded (((decide (i=0)) || (decide (192≤y)))==true) Y Y Y Y fun h=>Za2 (ow Y h) fun hp=>ow Y<|gA h<|gF hp)<|Dq 32 Y (XJ (ov Y) fun hp=>ow Y<|gT hp)<|D1 33 QK Y<|Dd<|K7 0 3 5 6 7 8 9 Y<|Tr<|Rm Y<|Za<|K7 0 3 5 7 8 9 47 Y<|If h Y (fun h=>?_) fun h=>?_
   ·
    exact K6 0 3 5 7 8 9 Y<|Zt<|Rm Y<|Rq Y (ZJ (ov Y) Y Y Y Zf9 (Zu<|Zh Xq) Xq (hns:=Zr3))<|R_q (.sl 47<|List.map R47 ([x]:List api_Found)) Y (Jm Zaw (.cons (cva<|ov Y) Xq (pwD Zlm) .nil) Y Y)<|bE h fun l2 h_l2 h=>Rx Y (Zv (ov Y) (ZH (ov Y) tZ_47) Zaw Y Y Y (fun x=>Zb<|E47 x) Y h_l2)<|Ra Y<|Za<|K5 0 3 7 8 9 Y<|Zt<|R2 ZX Y<|Rm Y<|Za<|⟨_,h,ES [some 0]⟩
   ·
    exact Zj<|K5 0 3 7 8 9 Y<|Zt<|R2 ZX Y<|Rm Y<|Za<|⟨_,h,ES [some 0]⟩
  ·
   refine ZI<|?_
   replace h:=lx h▸ho1
   exact⟨_,h,ES [some 0]⟩
 ·
  refine Tr<|Rm Y<|Ra Y<|Za<|?_
  obtain rfl:=rt h
  exact Zs (ZK Y (.one<|.tmp Y<|View.ownM Y Y D47))
theorem Zij{p:api_Piece}{r:(List api_Found)×Int}(h:Zb9 p=some r):
 CSpec Tryz.prog gl0 8 [.agg [.sl 5 (List.map R5 p.Bytes),.bool p.Half]] (.tuple [.sl 47 (List.map R47 r.1),.int .i64 r.2]):=by
 unfold Zb9 at h
 replace h:=Qk h
 refine So Tryz.func8 Y fun w0 A=>Tr<|Rq Y (Xh (cva<|ov Y) Y tZ_42 Y)<|Ra Y<|Ra Y<|Za<|K1 1 Y<|Tr<|Rq Y (ZU (ov Y) Zc2 Y Y)<|bE h fun y h_y h=>Rq Y (Zq (ZkI h_y)<|.cons (ov Y) (.aggB Y) .nil)<|Rm Y<|Rq Y (Zk (ov Y) Y)<|Rq Y (Zk (ov Y) Y)<|Ra Y<|Ra Y<|Za<|K2 4 5 Y<|Tr<|Rm Y<|bE h fun y2 h_y2 h=>Rq Y (Zq (Zii h_y2)<|.cons (ov Y) (.b Y) .nil)<|Rm Y<|Ra Y<|Ra Y<|Za<|?_
 obtain rfl:=rt h
 exact Zs (ZK Y (.two (rb Y)<|rb Y))
theorem Zgi{w:Int}{r:Bool}(h:JW w=some r):
 CSpec Tryz.prog gl0 26 [.int .u16 w] (.bool r):=by
 unfold JW at h
 replace h:=Qk h
 refine So Tryz.func26 Y fun w0 A=>Tr<|Ra Y<|Za<|Tr<|Rm Y<|R2 Zfc Y<|Rm Y<|Rq Y (.guarded ((decide (w≤4095))==true) Y Y Y Y fun h=>Zc<|ov Y)<|Rq Y (.guarded ((decide (w≤4095))==true) Y Y Y Y fun h=>Qy (ow Y h) ZcN tI3 Y)<|bE h fun y h_y h=>Rq Y (.guarded ((decide (w≤4095))==true) Y Y Y Y fun h=>Zq (Zh7<|gdT h_y h)<|.cons (ow Y h) (.b Y) .nil)<|Rq Y (XJ (ov Y) fun hp=>ow Y<|gT hp)<|Ra Y<|Za<|?_
 obtain rfl:=rt h
 exact Zs (ZK Y (.one<|rb Y))
theorem Zjl{f:Vector Int 64}{r:Int×Bool}(h:Zag f=some r):
 CSpec Tryz.prog gl0 9 [.agg (List.map C35 f.toList)] (.tuple [.int .i64 r.1,.bool r.2]):=by
 unfold Zag at h
 replace h:=Qk h
 refine So Tryz.func9 Y fun w0 A=>Tr<|Rq Y (Xh (cva<|ov Y) arL tZ_37<|arD fun _=>Y)<|Ra Y<|Ra Y<|Za<|Zl<|K1 1 Y<|Tr<|bE h fun x h_x h=>Rq Y (QI (ov Y) (ov Y) Xc h_x)<|Rq Y (Zd (ov Y) Xn<|Zn<|Qn (o:=0) (o':=((Int.toNat 1)*1)) (Zh arL)<|Qd h_x)<|bE h fun y h_y h=>Rq Y (Zq (Zgi h_y)<|.cons (ov Y) (.b Y) .nil)<|R1 XV Y<|Rm Y<|bE h fun x2 h_x2 h=>Rq Y (.guarded ((!y)==false) Y Y Y Y fun h=>QI (ov Y) (ov Y) Xc<|gdT h_x2 h)<|Rq Y (.guarded ((!y)==false) Y Y Y Y fun h=>Zd (ow Y h) Xn<|Zn<|Qn (o:=0) (o':=((Int.toNat 2)*1)) (Zh arL)<|Qd<|gdT h_x2 h)<|bE h fun y2 h_y2 h=>Rq Y (.guarded ((!y)==false) Y Y Y Y fun h=>Zq (Zgi<|gdT h_y2 h)<|.cons (ow Y h) (.b Y) .nil)<|Rq Y (.guarded ((!y)==false) Y Y Y Y fun h=>XV<|ow Y h)<|Rq Y (Za2 (ov Y) fun hp=>ow Y<|gF hp)<|Za<|K2 1 13 Y<|If h Y (fun h=>?_) fun h=>?_
 ·
  refine K0<|Tr<|Ra Y<|Ra Y<|Za<|?_
  obtain rfl:=rt h
  exact Zs (ZK Y (.two (rb Y)<|rb Y))
 ·
  refine Zj<|K1 1 Y<|Tr<|Rq Y (ZU (ov Y) Qz (Zu<|Zh arL) arL)<|bE h fun y3 h_y3 h=>Rq Y (Zq (ZeE h_y3)<|.cons (ov Y) (.aggB<|arD fun _=>Y) .nil)<|Ra Y<|Ra Y<|Za<|?_
  obtain rfl:=rt h
  exact Zs (ZK Y (.two (rb Y)<|rb Y))
end Go.Proofs.YtjjknklgafdeiaaGreatDoor
