/- A text of the proof: a verified executor of the program form, or the contracts of the functions that the law reaches. -/
import Derived.Test.YtjjknklgafdeiaaGreatDoorOkWd
set_option linter.all false
namespace Go.Proofs.YtjjknklgafdeiaaGreatDoor
open Go Go.Vx
set_option maxRecDepth 10000
set_option maxHeartbeats 1000000
set_option linter.unusedVariables false
theorem Zde{l:List api_Memory}{cuts:List Int}{r:Bool}(h:Xx l cuts=some r):
 CSpec Tryz.prog gl0 3 [.sl 60 (List.map R60 l),.sl 3 (List.map R3 cuts)] (.bool r):=by
 unfold Xx at h
 replace h:=Qk h
 refine So Tryz.func3 Y fun w0 A=>Tr<|Ra Y<|Za<|Zl<|K2 0 1 Y<|Tr<|bE h fun y h_y h=>Rq Y (Zq (ZkE h_y) .nil)<|R1 XV Y<|Za<|K3 0 1 24 Y<|If h Y (fun h=>?_) fun h=>?_
 ·
  refine K0<|Tr<|Ra Y<|Za<|?_
  obtain rfl:=rt h
  exact Zs (ZK Y (.one<|rb Y))
 ·
  refine Zj<|K2 0 1 Y<|Tr<|Rm Y<|bE h fun y2 h_y2 h=>Rq Y (Zq (Zip h_y2)<|.cons (ov Y) (.b Y) .nil)<|Rm Y<|Rq Y (Zk (ov Y) Y)<|Rq Y (Zk (ov Y) Y)<|Ra Y<|Ra Y<|Za<|Zl<|K4 0 1 5 6 Y<|Tr<|Rm Y<|R2 XW Y<|Za<|K4 0 1 5 31 Y<|If h Y (fun h=>?_) fun h=>?_
  ·
   refine K0<|Tr<|Ra Y<|Za<|?_
   obtain rfl:=rt h
   exact Zs (ZK Y (.one<|rb Y))
  ·
   refine Zj<|K3 0 1 5 Y<|Tr<|Rm Y<|Rm Y<|bE h fun y3 h_y3 h=>Rq Y (Zq (Zhm h_y3)<|.cons (ov Y) (.b Y)<|.cons (ov Y) (.b Y) .nil)<|Rm Y<|Rq Y (Zk (ov Y) Y)<|Rq Y (Zk (ov Y) Y)<|Ra Y<|Ra Y<|Za<|Zl<|K3 5 6 7 Y<|Tr<|Rm Y<|R2 XW Y<|Za<|K3 5 7 39 Y<|If h Y (fun h=>?_) fun h=>?_
   ·
    refine K0<|Tr<|Ra Y<|Za<|?_
    obtain rfl:=rt h
    exact Zs (ZK Y (.one<|rb Y))
   ·
    refine Zj<|K2 5 7 Y<|Tr<|Rm Y<|bE h fun y4 h_y4 h=>Rq Y (Zq (Zgo h_y4)<|.cons (ov Y) (.b Y) .nil)<|Rm Y<|Rq Y (Zk (ov Y) Y)<|Rq Y (Zk (ov Y) Y)<|Ra Y<|Ra Y<|Za<|Zl<|K4 5 6 7 8 Y<|Tr<|Rm Y<|R2 XW Y<|Za<|K5 5 6 7 8 46 Y<|If h Y (fun h=>?_) fun h=>?_
    ·
     refine K1 6 Y<|Tr<|Rm Y<|R2 Q3 Y<|Ra Y<|Za<|?_
     obtain rfl:=rt h
     exact Zs (ZK Y (.one<|rb Y))
    ·
     refine Zj<|J0 (fun j=>(.inr j)) ⟨[],[]⟩ h (fun h=>?_) fun h=>?_
     ·
      refine K3 5 7 8 Y<|Tr<|Rm Y<|Rl tZ_39 Zqw Y<|Rm Y<|Za<|Zi<|?_
      obtain⟨r1,hl1,ho1⟩:=QZ h
      refine L1 (fun i=>⟨[(7,.sl 42 (List.map R42 y3.1)),(8,.sl 52 (List.map R52 y4.1)),(49,.sl 39 (List.map R39 y2.1)),(50,.int .i64 (y2.1.length:Int)),(51,.int .i64 i)],[]⟩) hl1 (ES []) fun n1 i h=>?_
      unfold QN at h
      refine Tr<|R2 ZV Y<|Za<|Zl<|If h Y (fun h=>?_) fun h=>?_
      ·
       refine Zj<|Zl<|Zi<|K5 7 8 49 50 51 Y<|Tr<|bE h fun x h_x h=>Rq Y (ZW (ov Y) (ov Y) Zqw h_x)<|Rq Y (ZU (ov Y) Ztr (Zu<|Zh ZjE) ZjE)<|Rx Y (ZP (row:=(.int .i64 0)::(.int .i64 0)::(.int .i64 0)::(.int .i64 0)::((List.map C35 (Vector.replicate 64 0).toList)++([]))) 0 Y ZsB (by kernel_rfl)<|by exact Eq.symm (Eq.trans (b:=68) ZjE tZ_39.symm))<|Rx Y (Zf (ov Y) (ov Y) (Zp Ztr ZjE) Y Y Y (ZG (Zh ZjE) ZjE) (Zb ZsZ)<|ZO<|Eq.trans ZjE<|Eq.symm ZjE)<|Za<|K6 7 8 10 49 50 51 Y<|Tr<|Ra Y<|Za<|J1 (fun j=>(.inr j)) (fun whole=>⟨[(7,.sl 42 (List.map R42 y3.1)),(8,.sl 52 (List.map R52 y4.1)),(10,.ptr 0 1 0 0),(11,.bool whole),(49,.sl 39 (List.map R39 y2.1)),(50,.int .i64 (y2.1.length:Int)),(51,.int .i64 i)],[some ⟨39,[(.int .i64 x.Memory)::(.int .i64 x.Sector)::(.int .i64 x.Sequence)::(.int .i64 x.Slot)::((List.map C35 x.Frame.toList)++([]))]⟩]⟩) h (fun h=>?_) fun whole h=>?_
       ·
        refine Tr<|Rm Y<|Rl tZ_42 Zk2 Y<|Rm Y<|Za<|Zi<|?_
        obtain⟨r2,hl2,ho2⟩:=QZ h
        refine L2 (fun whole2 i2=>⟨[(7,.sl 42 (List.map R42 y3.1)),(8,.sl 52 (List.map R52 y4.1)),(10,.ptr 0 1 0 0),(11,.bool whole2),(49,.sl 39 (List.map R39 y2.1)),(50,.int .i64 (y2.1.length:Int)),(51,.int .i64 i),(55,.sl 42 (List.map R42 y3.1)),(56,.int .i64 (y3.1.length:Int)),(57,.int .i64 i2)],[some ⟨39,[(.int .i64 x.Memory)::(.int .i64 x.Sector)::(.int .i64 x.Sequence)::(.int .i64 x.Slot)::((List.map C35 x.Frame.toList)++([]))]⟩]⟩) hl2 (ES [some 0]) fun n2 whole2 i2 h=>?_
        unfold Qu at h
        refine Tr<|R2 ZV Y<|Za<|Zl<|If h Y (fun h=>?_) fun h=>?_
        ·
         refine Zj<|J1 (fun j=>(.inr j)) (fun whole3=>⟨[(7,.sl 42 (List.map R42 y3.1)),(8,.sl 52 (List.map R52 y4.1)),(10,.ptr 0 1 0 0),(11,.bool whole3),(49,.sl 39 (List.map R39 y2.1)),(50,.int .i64 (y2.1.length:Int)),(51,.int .i64 i),(55,.sl 42 (List.map R42 y3.1)),(56,.int .i64 (y3.1.length:Int)),(57,.int .i64 i2)],[some ⟨39,[(.int .i64 x.Memory)::(.int .i64 x.Sector)::(.int .i64 x.Sequence)::(.int .i64 x.Slot)::((List.map C35 x.Frame.toList)++([]))]⟩]⟩) h (fun h=>?_) fun whole3 h=>?_
         ·
          refine Zi<|K10 7 8 10 11 49 50 51 55 56 57 Y<|Tr<|bE h fun x2 h_x2 h=>Rq Y (ZW (ov Y) (ov Y) Zk2 h_x2)<|Rq Y (ZU (ov Y) Zc2 Y Y)<|Rx Y (ZP (row:= [_,_]) 1 Y Zli Y tZ_42)<|Rx Y (Zf (ov Y) (ov Y) (Zp Zc2 Y) Y Y Y (Nat.le_of_ble_eq_true Y) (Zb Y) Y)<|Za<|K11 7 8 10 11 13 49 50 51 55 56 57 Y<|Tr<|Rq Y (ZJ (ov Y) Y Y Y Zc2 Y Y)<|bE h fun y5 h_y5 h=>Rq Y (Zq (Zij h_y5)<|.cons (ov Y) (.aggB Y) .nil)<|Rm Y<|Rq Y (Zk (ov Y) Y)<|Rq Y (Zk (ov Y) Y)<|Ra Y<|Ra Y<|Za<|Zl<|K12 7 8 10 11 14 15 49 50 51 55 56 57 Y<|Tr<|Rm Y<|R2 XW Y<|Za<|K12 7 8 10 11 14 49 50 51 55 56 57 67 Y<|If h Y (fun h=>?_) fun h=>?_
          ·
           refine K0<|Tr<|Ra Y<|Za<|?_
           replace h:=lx h▸ho2
           replace h:=lx h▸ho1
           obtain rfl:=rt h
           exact Zs (ZK Y (.one<|rb Y))
          ·
           refine Zj<|K11 7 8 10 11 14 49 50 51 55 56 57 Y<|Tr<|Rm Y<|Rl tZ_47 Zaw Y<|Rm Y<|Za<|Zi<|?_
           obtain⟨r3,hl3,ho3⟩:=bnd h
           refine L2 (fun whole4 i3=>⟨[(7,.sl 42 (List.map R42 y3.1)),(8,.sl 52 (List.map R52 y4.1)),(10,.ptr 0 1 0 0),(11,.bool whole4),(49,.sl 39 (List.map R39 y2.1)),(50,.int .i64 (y2.1.length:Int)),(51,.int .i64 i),(55,.sl 42 (List.map R42 y3.1)),(56,.int .i64 (y3.1.length:Int)),(57,.int .i64 i2),(68,.sl 47 (List.map R47 y5.1)),(69,.int .i64 (y5.1.length:Int)),(70,.int .i64 i3)],[some ⟨39,[(.int .i64 x.Memory)::(.int .i64 x.Sector)::(.int .i64 x.Sequence)::(.int .i64 x.Slot)::((List.map C35 x.Frame.toList)++([]))]⟩]⟩) hl3 (ES [some 0]) fun n3 whole4 i3 h=>?_
           unfold Qw at h
           refine Tr<|R2 ZV Y<|Za<|Zl<|If h Y (fun h=>?_) fun h=>?_
           ·
            exact Zj<|Zl<|Zi<|Jk (kc 7 Y<|kc 8 Y<|kc 10 Y<|kc 11 Y<|kc 49 Y<|kc 50 Y<|kc 51 Y<|kc 55 Y<|kc 56 Y<|kc 57 Y<|kc 68 Y<|kc 69 Y<|kc 70 Y kn) Y<|Tr<|bE h fun x3 h_x3 h=>Rq Y (ZW (ov Y) (ov Y) Zaw h_x3)<|Rq Y (ZU (ov Y) Zf9 (Zu<|Zh Xq) Xq)<|Rx Y (ZP (row:=(.int .i64 0)::((List.map C35 (Vector.replicate 64 0).toList)++([]))) 1 Y ZlH (by kernel_rfl)<|by exact Eq.symm (Eq.trans (b:=65) Xq tZ_47.symm))<|Rx Y (Zf (ov Y) (ov Y) (Zp Zf9 Xq) Y Y Y (ZG (Zh Xq) Xq) (Zb Zmh)<|ZO<|Eq.trans Xq<|Eq.symm Xq)<|Za<|Jk (kc 7 Y<|kc 8 Y<|kc 10 Y<|kc 11 Y<|kc 17 Y<|kc 49 Y<|kc 50 Y<|kc 51 Y<|kc 55 Y<|kc 56 Y<|kc 57 Y<|kc 68 Y<|kc 69 Y<|kc 70 Y kn) Y<|Zt<|Rm Y<|Rm Y<|Rq Y (.guarded (whole4==false) Y Y Y Y fun h=>Ze (ov Y) Y Y ZmJ)<|Rq Y (.guarded (whole4==false) Y Y Y Y fun h=>ZJ (ow Y h) Y Y Y Qz (Zu ZpS) arL (hns:=(nsM fun _=>Y)))<|Rq Y (.guarded (whole4==false) Y Y Y Y fun h=>Ze (ov Y) Y Y Zl4)<|Rq Y (.guarded (whole4==false) Y Y Y Y fun h=>ZJ (ow Y h) Y Y Y Qz (Zu at9) arL (hns:=(nsM fun _=>Y)))<|Rq Y (.guarded (whole4==false) Y Y Y Y fun h=>ZoW Zn9 (ow Y h) (ow Y h) (.aggB<|arD fun _=>Y) (.aggB<|arD fun _=>Y) (fkV fun _=>Y) (fkV fun _=>Y)<|eqV fun _ _=>Y)<|Rq Y (Za2 (ov Y) fun hp=>ow Y<|gF hp)<|Ra Y<|Za<|Jk (kc 7 Y<|kc 8 Y<|kc 10 Y<|kc 11 Y<|kc 49 Y<|kc 50 Y<|kc 51 Y<|kc 55 Y<|kc 56 Y<|kc 57 Y<|kc 68 Y<|kc 69 Y<|kc 70 Y kn) Y<|Zt<|R2 ZX Y<|Rm Y<|Za<|⟨_,h,ES [some 0]⟩
           ·
            refine ZI<|?_
            replace h:=lx h▸ho3
            exact⟨_,h,ES [some 0]⟩
         ·
          replace h:=elr h
          replace h:=t1i h
          exact Zt<|R2 ZX Y<|Rm Y<|Za<|⟨_,h,ES [some 0]⟩
        ·
         refine ZI<|?_
         replace h:=lx h▸ho2
         exact⟨_,h,ES [some 0]⟩
       ·
        replace h:=elr h
        replace h:=t1i h
        refine Zl<|Tr<|Rm Y<|R1 XV Y<|Za<|K7 7 8 10 49 50 51 85 Y<|If h Y (fun h=>?_) fun h=>?_
        ·
         exact ZI<|K5 7 8 49 50 51 Y<|Zt<|R2 ZX Y<|Rm Y<|Za<|⟨_,h,ES []⟩
        ·
         refine Zj<|K6 7 8 10 49 50 51 Y<|Tr<|Rq Y (Ze (ov Y) Y Y Zl4)<|Rq Y (ZJ (ov Y) Y Y Y Qz (Zu at9) arL (hns:=(nsM fun _=>Y)))<|bE h fun y6 h_y6 h=>Rq Y (Zq (Zjl h_y6)<|.cons (ov Y) (.aggB<|arD fun _=>Y) .nil)<|Rm Y<|Rq Y (Zk (ov Y) Y)<|Rq Y (Zk (ov Y) Y)<|Ra Y<|Ra Y<|Za<|K7 7 8 10 18 49 50 51 Y<|Tr<|Ra Y<|Za<|I1 (fun found=>⟨[(7,.sl 42 (List.map R42 y3.1)),(8,.sl 52 (List.map R52 y4.1)),(20,.bool found),(49,.sl 39 (List.map R39 y2.1)),(50,.int .i64 (y2.1.length:Int)),(51,.int .i64 i)],[]⟩) h (fun h=>?_) fun found h=>?_
         ·
          refine Tr<|Rm Y<|Rl tZ_52 Jg Y<|Rm Y<|Za<|Zi<|?_
          obtain⟨r4,hl4,ho4⟩:=QZ h
          refine L2 (fun found2 i4=>⟨[(7,.sl 42 (List.map R42 y3.1)),(8,.sl 52 (List.map R52 y4.1)),(10,.ptr 0 1 0 0),(18,.int .i64 y6.1),(20,.bool found2),(49,.sl 39 (List.map R39 y2.1)),(50,.int .i64 (y2.1.length:Int)),(51,.int .i64 i),(92,.sl 52 (List.map R52 y4.1)),(93,.int .i64 (y4.1.length:Int)),(94,.int .i64 i4)],[some ⟨39,[(.int .i64 x.Memory)::(.int .i64 x.Sector)::(.int .i64 x.Sequence)::(.int .i64 x.Slot)::((List.map C35 x.Frame.toList)++([]))]⟩]⟩) hl4 (ES [some 0]) fun n4 found2 i4 h=>?_
          unfold Qt at h
          refine Tr<|R2 ZV Y<|Za<|Zl<|If h Y (fun h=>?_) fun h=>?_
          ·
           exact Zj<|Zl<|Zi<|K11 7 8 10 18 20 49 50 51 92 93 94 Y<|Tr<|bE h fun x4 h_x4 h=>Rq Y (ZW (ov Y) (ov Y) Jg h_x4)<|Rq Y (ZU (ov Y) X8 (Zu<|Zh ZC) ZC)<|Rx Y (ZP (row:=(.int .i64 0)::((List.map C35 (Vector.replicate 64 0).toList)++(((List.map C3 (Vector.replicate 64 0).toList)++((.bool false)::(.int .i64 0)::(.bool false):: []))))) 1 Y ZfL (by kernel_rfl)<|by exact Eq.symm (Eq.trans (b:=132) ZC tZ_52.symm))<|Rx Y (Zf (ov Y) (ov Y) (Zp X8 ZC) Y Y Y (ZG (Zh ZC) ZC) (Zb ZeG)<|ZO<|Eq.trans ZC<|Eq.symm ZC)<|Za<|K12 7 8 10 18 20 22 49 50 51 92 93 94 Y<|Zt<|Rm Y<|Rm Y<|Rq Y (.guarded (found2==false) Y Y Y Y fun h=>Ze (ov Y) Y Y JC)<|Rq Y (.guarded (found2==false) Y Y Y Y fun h=>Zm (ow Y h) Y Y Y tS3<|Zn ZbW)<|Rq Y (.guarded (found2==false) Y Y Y Y fun h=>Zc<|ov Y)<|Rq Y (.guarded (found2==false) Y Y Y Y fun h=>Q3 (ow Y h)<|ow Y h)<|Rq Y (.guarded (found2==false) Y Y Y Y fun h=>Zc<|ow Y h)<|Rq Y (.guarded2 ((found2==false)&&((decide (x4.Number=y6.1))==true)) Y Y Y Y fun h=>Ze (ov Y) Y Y Zl2)<|Rq Y (.guarded2 ((found2==false)&&((decide (x4.Number=y6.1))==true)) Y Y Y Y fun h=>Zm (ow Y h) Y Y Y tS4<|Zn ZqV)<|Rq Y (.guarded2 ((found2==false)&&((decide (x4.Number=y6.1))==true)) Y Y Y Y fun h=>Zc<|ow Y h)<|Rq Y (.guarded2 (((found2==false)&&((decide (x4.Number=y6.1))==true))&&(x4.Conflict==false)) Y Y Y Y fun h=>Ze (ov Y) Y Y ZeQ)<|Rq Y (.guarded2 (((found2==false)&&((decide (x4.Number=y6.1))==true))&&(x4.Conflict==false)) Y Y Y Y fun h=>Zm (ow Y h) Y Y Y tS4<|Zn Zim)<|Rq Y (.guarded2 (((found2==false)&&((decide (x4.Number=y6.1))==true))&&(x4.Conflict==false)) Y Y Y Y fun h=>Zc<|ow Y h)<|Rq Y (.guarded2 ((((found2==false)&&((decide (x4.Number=y6.1))==true))&&(x4.Conflict==false))&&(x4.Sound==true)) Y Y Y Y fun h=>Ze (ov Y) Y Y Zao)<|Rq Y (.guarded2 ((((found2==false)&&((decide (x4.Number=y6.1))==true))&&(x4.Conflict==false))&&(x4.Sound==true)) Y Y Y Y fun h=>ZJ (ow Y h) Y Y Y Qz (Zu Zdd) arL (hns:=(nsM fun _=>Y)))<|Rq Y (.guarded2 ((((found2==false)&&((decide (x4.Number=y6.1))==true))&&(x4.Conflict==false))&&(x4.Sound==true)) Y Y Y Y fun h=>Ze (ov Y) Y Y Zl4)<|Rq Y (.guarded2 ((((found2==false)&&((decide (x4.Number=y6.1))==true))&&(x4.Conflict==false))&&(x4.Sound==true)) Y Y Y Y fun h=>ZJ (ow Y h) Y Y Y Qz (Zu at9) arL (hns:=(nsM fun _=>Y)))<|Rq Y (.guarded2 ((((found2==false)&&((decide (x4.Number=y6.1))==true))&&(x4.Conflict==false))&&(x4.Sound==true)) Y Y Y Y fun h=>ZoW Zn9 (ow Y h) (ow Y h) (.aggB<|arD fun _=>Y) (.aggB<|arD fun _=>Y) (fkV fun _=>Y) (fkV fun _=>Y)<|eqV fun _ _=>Y)<|Rq Y (.guarded2 (((found2==false)&&((decide (x4.Number=y6.1))==true))&&(x4.Conflict==false)) Y Y Y Y fun h=>XJ (ow Y h) fun hp=>ow Y<|gA h<|gT hp)<|Rq Y (.guarded2 ((found2==false)&&((decide (x4.Number=y6.1))==true)) Y Y Y Y fun h=>Za2 (ow Y h) fun hp=>ow Y<|gA h<|gF hp)<|Rq Y (.guarded (found2==false) Y Y Y Y fun h=>XJ (ow Y h) fun hp=>ow Y<|gA h<|gT hp)<|Rq Y (Za2 (ov Y) fun hp=>ow Y<|gF hp)<|Ra Y<|Za<|K11 7 8 10 18 20 49 50 51 92 93 94 Y<|Zt<|R2 ZX Y<|Rm Y<|Za<|⟨_,h,ES [some 0]⟩
          ·
           refine ZI<|?_
           replace h:=lx h▸ho4
           exact⟨_,h,ES []⟩
         ·
          refine Tr<|Rm Y<|R1 XV Y<|Za<|K6 7 8 49 50 51 122 Y<|If h Y (fun h=>?_) fun h=>?_
          ·
           refine K0<|Tr<|Ra Y<|Za<|?_
           replace h:=lx h▸ho1
           obtain rfl:=rt h
           exact Zs (ZK Y (.one<|rb Y))
          ·
           exact Zj<|K5 7 8 49 50 51 Y<|Zt<|R2 ZX Y<|Rm Y<|Za<|⟨_,h,ES []⟩
      ·
       refine ZI<|?_
       replace h:=lx h▸ho1
       exact⟨(),h,ES []⟩
     ·
      replace h:=elr h
      replace h:=t0i h
      refine Tr<|Ra Y<|Za<|?_
      obtain rfl:=rt h
      exact Zs (ZK Y (.one<|rb Y))
end Go.Proofs.YtjjknklgafdeiaaGreatDoor
