/- A text of the proof: a verified executor of the program form, or the contracts of the functions that the law reaches. -/
import Derived.Test.YtgohgnaapbpggaaGreatDoorShLib
set_option linter.all false
namespace Go.Vx
noncomputable section
open Go Go.RowKit
set_option linter.unusedVariables false
structure api_Memory where
  Slots:Int
  Limit:Int
  Sectors:List (List Int)
  Wear:List Int
  Bad:List Bool
structure law3_Deed where
  Freeze:Bool
  Frame:Vector Int 64
  Power:Int
structure ring_spot where
  sector:Int
  slot:Int
structure ring_bank where
  memories:List api_Memory
  spots:List ring_spot
structure ring_Recorder where
  bank:ring_bank
  copies:Int
  frozen:Bool
  stopped:Bool
  last:Int
  some_:Bool
structure ref3_stand where
  sector:Int
  slot:Int
structure ref3_Recorder where
  list:List api_Memory
  copies:Int
  stands:List ref3_stand
  frozen:Bool
  stopped:Bool
  last:Int
  some_:Bool
  power:Int
structure api_Flaw where
  Word:Int
  Kind:Int
structure api_Kept where
  Memory:Int
  Sector:Int
  Sequence:Int
  Slot:Int
  Frame:Vector Int 64
def QE(n:Int)(low:Int)(high:Int):Option Bool:=
  some ((decide (low≤n))&&(decide (n≤high)))
def XB(slots:Int):Option Int:=
  some (i64 (16+(i64 (slots*97))))
def QF(m:api_Memory)(i:Int):Option ((Int) ⊕ (Int) ⊕ (Unit)):=
  if(decide (i<(m.Sectors.length:Int)))=true then
  (idx m.Sectors i).bind fun x=>
  (XB m.Slots).bind fun y4=>
  if(!decide ((x.length:Int)=y4))=true then
  some (.inr (.inl 3))
  else
  (idx m.Wear i).bind fun x2=>
  (QE x2 0 m.Limit).bind fun y5=>
  if(!y5)=true then
  some (.inr (.inl 9))
  else
  some (.inl (i64 (i+1)))
  else
  some (.inr (.inr ()))
def Xl(m:api_Memory):Option Int:=
  (QE m.Slots 1 64).bind fun y=>
  (gd ((!y)==false) false (QE m.Limit 1 1000000)).bind fun y2=>
  (gd (((!y) || (!y2))==false) false (QE (m.Sectors.length:Int) 2 64)).bind fun y3=>
  if(((!y) || (!y2)) || (!y3))=true then
  some 9
  else
  if((!decide ((m.Wear.length:Int)=(m.Sectors.length:Int))) || (!decide ((m.Bad.length:Int)=(m.Sectors.length:Int))))=true then
  some 2
  else
  ((loop (t1 (QF m)) 0):Option ((Int) ⊕ (Unit))).bind (Sum.elim (fun q'=>some q') (t0 (some 0)))
def ring_checkAll_L1(l:List api_Memory)(i:Int):Option ((Int) ⊕ (Int) ⊕ (Unit)):=
  if(decide (i<(l.length:Int)))=true then
  (idx l i).bind fun x=>
  (Xl x).bind fun y2=>
  if(!decide (y2=0))=true then
  some (.inr (.inl y2))
  else
  some (.inl (i64 (i+1)))
  else
  some (.inr (.inr ()))
def JO(l:List api_Memory):Option Int:=
  (QE (l.length:Int) 1 8).bind fun y=>
  if(!y)=true then
  some 3
  else
  ((loop (t1 (ring_checkAll_L1 l)) 0):Option ((Int) ⊕ (Unit))).bind (Sum.elim (fun q'=>some q') (t0 (some 0)))
def Xz(m:api_Memory)(sectors2:List (List Int))(i:Int):Option (((List (List Int))×Int) ⊕ ((List (List Int)))):=
  if(decide (i<(m.Sectors.length:Int)))=true then
  (idx m.Sectors i).bind fun x=>
  (ZfU 1 x).bind fun y=>
  (apz 24 sectors2 [y]).bind fun l=>
  some (.inl (l,(i64 (i+1))))
  else
  some (.inr sectors2)
def JF(m:api_Memory):Option api_Memory:=
  ((loop (t2 (Xz m)) ([],0)):Option (((List (List Int))))).bind (t1 fun(sectors:List (List Int))=>
  (ZfU 8 m.Wear).bind fun y2=>
  (ZfU 1 m.Bad).bind fun y3=>
  some (api_Memory.mk m.Slots m.Limit sectors y2 y3))
def XX(l:List api_Memory)(out2:List api_Memory)(i:Int):Option (((List api_Memory)×Int) ⊕ ((List api_Memory))):=
  if(decide (i<(l.length:Int)))=true then
  (idx l i).bind fun x=>
  (JF x).bind fun y=>
  (apz 88 out2 [y]).bind fun l2=>
  some (.inl (l2,(i64 (i+1))))
  else
  some (.inr out2)
def Ji(l:List api_Memory):Option (List api_Memory):=
  ((loop (t2 (XX l)) ([],0)):Option (((List api_Memory)))).bind (t1 fun(out:List api_Memory)=>
  some out)
def XP(sequence:Int)(out2:List Int)(shift:Int):Option (((List Int)×Int) ⊕ ((List Int))):=
  if(decide (0≤shift))=true then
  (shr .i64 sequence shift).bind fun q=>
  (apz 1 out2 ([(u8 q)]:List Int)).bind fun l=>
  some (.inl (l,(i64 (shift-8))))
  else
  some (.inr out2)
def XO(out:List Int)(out4:List Int)(i:Int):Option (((List Int)×Int) ⊕ ((List Int))):=
  if(decide (i<((Int.toNat (6-2):Nat):Int)))=true then
  (ck (decide ((0:Int)≤i)&&decide (i<((Int.toNat (6-2):Nat):Int)))).bind fun u2=>
  (idx out (2+i)).bind fun x2=>
  (apz 1 out4 ([(Zbv .u8 255 x2)]:List Int)).bind fun l2=>
  some (.inl (l2,(i64 (i+1))))
  else
  some (.inr out4)
def ZaU(sequence:Int):Option (List Int):=
  ((loop (t2 (XP sequence)) (([79,66]:List Int),24)):Option (((List Int)))).bind (t1 fun(out:List Int)=>
  (((slp out 2 6).bind fun u=>
  loop (t2 (XO out)) (out,0)):Option (((List Int)))).bind (t1 fun(out3:List Int)=>
  some out3))
def QP(s1:List Int)(s2:List Int)(i:Int):Option ((Int) ⊕ (Bool) ⊕ (Unit)):=
  if(decide (i<(s1.length:Int)))=true then
  (idx s1 i).bind fun x=>
  (idx s2 i).bind fun x2=>
  if(!decide (x=x2))=true then
  some (.inr (.inl false))
  else
  some (.inl (i64 (i+1)))
  else
  some (.inr (.inr ()))
def QS(s1:List Int)(s2:List Int):Option Bool:=
  if(!decide ((s1.length:Int)=(s2.length:Int)))=true then
  some false
  else
  ((loop (t1 (QP s1 s2)) 0):Option ((Bool) ⊕ (Unit))).bind (Sum.elim (fun q'=>some q') (t0 (some true)))
def ZaM(s:List Int):Option (Int×Bool×Bool):=
  if(decide ((s.length:Int)<16))=true then
  some (0,false,false)
  else
  (slc s 0 16).bind fun l=>
  (tov 16 l).bind fun v=>
  (ZY v 2).bind fun x=>
  (shl .i64 (i64 x) 24).bind fun q=>
  (ZY v 3).bind fun x2=>
  (shl .i64 (i64 x2) 16).bind fun q2=>
  (ZY v 4).bind fun x3=>
  (shl .i64 (i64 x3) 8).bind fun q3=>
  (ZY v 5).bind fun x4=>
  (QE (bor .i64 (bor .i64 (bor .i64 q q2) q3) (i64 x4)) 1 1073741824).bind fun y=>
  (gd ((!y)==false) [] (slc v.toList 0 10)).bind fun l2=>
  (gd ((!y)==false) [] (ZaU (bor .i64 (bor .i64 (bor .i64 q q2) q3) (i64 x4)))).bind fun y2=>
  (gd ((!y)==false) false (QS l2 y2)).bind fun y3=>
  if((!y) || (!y3))=true then
  some (0,false,false)
  else
  (ZY v 10).bind fun x5=>
  some ((bor .i64 (bor .i64 (bor .i64 q q2) q3) (i64 x4)),(!decide (x5=255)),true)
def ZC(a:Int)(cmp:Int→Int→Option Int)(o3:List Int)(j:Int):Option (((List Int)×Int) ⊕ ((List Int))):=
  (gd ((decide (a<j))==true) 0 (idx o3 j)).bind fun x=>
  (gd ((decide (a<j))==true) 0 (idx o3 (i64 (j-1)))).bind fun x2=>
  (gd ((decide (a<j))==true) 0 (cmp x x2)).bind fun y=>
  if((decide (a<j))&&(decide (y<0)))=true then
  (idx o3 (i64 (j-1))).bind fun x3=>
  (idx o3 j).bind fun x4=>
  (idx o3 j).bind fun x5=>
  (idx (o3.set j.toNat x3) (i64 (j-1))).bind fun x6=>
  some (.inl (((o3.set j.toNat x3).set (i64 (j-1)).toNat x4),(i64 (j-1))))
  else
  some (.inr o3)
def Zx(a:Int)(b:Int)(cmp:Int→Int→Option Int)(o:List Int)(i:Int):Option (((List Int)×Int) ⊕ ((List Int))):=
  if(decide (i<b))=true then
  ((loop (t2 (ZC a cmp)) (o,i)):Option (((List Int)))).bind (t1 fun(o2:List Int)=>
  some (.inl (o2,(i64 (i+1)))))
  else
  some (.inr o)
def ZE(data:List Int)(a:Int)(b:Int)(cmp:Int→Int→Option Int):Option (List Int):=
  loop (t2 (Zx a b cmp)) (data,(i64 (a+1)))
def Qa(a:Int)(b:Int)(n:Int)(o:List Int)(i:Int):Option (((List Int)×Int) ⊕ ((List Int))):=
  if(decide (i<n))=true then
  (idx o (i64 (b+i))).bind fun x=>
  (idx o (i64 (a+i))).bind fun x2=>
  (idx o (i64 (a+i))).bind fun x3=>
  (idx (o.set (i64 (a+i)).toNat x) (i64 (b+i))).bind fun x4=>
  some (.inl (((o.set (i64 (a+i)).toNat x).set (i64 (b+i)).toNat x2),(i64 (i+1))))
  else
  some (.inr o)
def ZU(data:List Int)(a:Int)(b:Int)(n:Int)(cmp:Int→Int→Option Int):Option (List Int):=
  loop (t2 (Qa a b n)) (data,0)
def Qn(m:Int)(cmp:Int→Int→Option Int)(o2:List Int)(i2:Int)(j:Int):Option (((List Int)×Int×Int) ⊕ ((List Int)×Int)):=
  if(!decide (i2=j))=true then
  if(decide (j<i2))=true then
  (ZU o2 (i64 (m-i2)) m j cmp).bind fun y=>
  some (.inl (y,(i64 (i2-j)),j))
  else
  (ZU o2 (i64 (m-i2)) (i64 ((i64 (m+j))-i2)) i2 cmp).bind fun y2=>
  some (.inl (y2,i2,(i64 (j-i2))))
  else
  some (.inr (o2,i2))
def Qo(data:List Int)(a:Int)(m:Int)(b:Int)(cmp:Int→Int→Option Int):Option (List Int):=
  ((loop (t3 (Qn m cmp)) (data,(i64 (m-a)),(i64 (b-m)))):Option (((List Int)×Int))).bind (t2 fun(o:List Int) (i:Int)=>
  (ZU o (i64 (m-i)) m i cmp).bind fun y3=>
  some y3)
def Qu(data:List Int)(a:Int)(cmp:Int→Int→Option Int)(i2:Int)(j:Int):Option ((Int×Int) ⊕ (Int)):=
  if(decide (i2<j))=true then
  (shr .u64 (u64 (i64 (i2+j))) 1).bind fun q=>
  (idx data (i64 q)).bind fun x=>
  (idx data a).bind fun x2=>
  (cmp x x2).bind fun y=>
  if(decide (y<0))=true then
  some (.inl ((i64 ((i64 q)+1)),j))
  else
  some (.inl (i2,(i64 q)))
  else
  some (.inr i2)
def ZV(i:Int)(o2:List Int)(k:Int):Option (((List Int)×Int) ⊕ ((List Int))):=
  if(decide (k<(i64 (i-1))))=true then
  (idx o2 (i64 (k+1))).bind fun x3=>
  (idx o2 k).bind fun x4=>
  (idx o2 k).bind fun x5=>
  (idx (o2.set k.toNat x3) (i64 (k+1))).bind fun x6=>
  some (.inl (((o2.set k.toNat x3).set (i64 (k+1)).toNat x4),(i64 (k+1))))
  else
  some (.inr o2)
def Qv(data:List Int)(m:Int)(cmp:Int→Int→Option Int)(i4:Int)(j2:Int):Option ((Int×Int) ⊕ (Int)):=
  if(decide (i4<j2))=true then
  (shr .u64 (u64 (i64 (i4+j2))) 1).bind fun q2=>
  (idx data m).bind fun x7=>
  (idx data (i64 q2)).bind fun x8=>
  (cmp x7 x8).bind fun y2=>
  if(!(decide (y2<0)))=true then
  some (.inl ((i64 ((i64 q2)+1)),j2))
  else
  some (.inl (i4,(i64 q2)))
  else
  some (.inr i4)
def ZX(i3:Int)(o4:List Int)(k2:Int):Option (((List Int)×Int) ⊕ ((List Int))):=
  if(decide (i3<k2))=true then
  (idx o4 (i64 (k2-1))).bind fun x9=>
  (idx o4 k2).bind fun x10=>
  (idx o4 k2).bind fun x11=>
  (idx (o4.set k2.toNat x9) (i64 (k2-1))).bind fun x12=>
  some (.inl (((o4.set k2.toNat x9).set (i64 (k2-1)).toNat x10),(i64 (k2-1))))
  else
  some (.inr o4)
def QO(data:List Int)(m:Int)(cmp:Int→Int→Option Int)(q3:Int)(start3:Int)(r_2:Int):Option ((Int×Int) ⊕ (Int)):=
  if(decide (start3<r_2))=true then
  (shr .u64 (u64 (i64 (start3+r_2))) 1).bind fun q4=>
  (idx data (i64 ((i64 ((i64 ((i64 q3)+m))-1))-(i64 q4)))).bind fun x13=>
  (idx data (i64 q4)).bind fun x14=>
  (cmp x13 x14).bind fun y3=>
  if(!(decide (y3<0)))=true then
  some (.inl ((i64 ((i64 q4)+1)),r_2))
  else
  some (.inl (start3,(i64 q4)))
  else
  some (.inr start3)
def Qg(rec_:List Int→Int→Int→Int→(Int→Int→Option Int)→Option (List Int))(data:List Int)(a:Int)(m:Int)(b:Int)(cmp:Int→Int→Option Int):Option (List Int):=
  if(decide ((i64 (m-a))=1))=true then
  ((loop (t2 (Qu data a cmp)) (m,b)):Option ((Int))).bind (t1 fun(i:Int)=>
  ((loop (t2 (ZV i)) (data,a)):Option (((List Int)))).bind (t1 fun(o:List Int)=>
  some o))
  else
  if(decide ((i64 (b-m))=1))=true then
  ((loop (t2 (Qv data m cmp)) (a,m)):Option ((Int))).bind (t1 fun(i3:Int)=>
  ((loop (t2 (ZX i3)) (data,m)):Option (((List Int)))).bind (t1 fun(o3:List Int)=>
  some o3))
  else
  (shr .u64 (u64 (i64 (a+b))) 1).bind fun q3=>
  ((if(decide ((i64 q3)<m))=true then
  some ((i64 ((i64 ((i64 q3)+m))-b)),(i64 q3))
  else
  some (a,m)):Option ((Int×Int))).bind (t2 fun(start:Int) (r_:Int)=>
  ((loop (t2 (QO data m cmp q3)) (start,r_)):Option ((Int))).bind (t1 fun(start2:Int)=>
  ((if((decide (start2<m))&&(decide (m<(i64 ((i64 ((i64 q3)+m))-start2)))))=true then
  (Qo data start2 m (i64 ((i64 ((i64 q3)+m))-start2)) cmp).bind fun y4=>
  some y4
  else
  some data):Option (((List Int)))).bind (t1 fun(o5:List Int)=>
  ((if((decide (a<start2))&&(decide (start2<(i64 q3))))=true then
  (rec_ o5 a start2 (i64 q3) cmp).bind fun y5=>
  some y5
  else
  some o5):Option (((List Int)))).bind (t1 fun(o6:List Int)=>
  if((decide ((i64 q3)<(i64 ((i64 ((i64 q3)+m))-start2))))&&(decide ((i64 ((i64 ((i64 q3)+m))-start2))<b)))=true then
  (rec_ o6 (i64 q3) (i64 ((i64 ((i64 q3)+m))-start2)) b cmp).bind fun y6=>
  some y6
  else
  some o6))))
def ZQ(n_:Nat):List Int→Int→Int→Int→(Int→Int→Option Int)→Option (List Int):=
  Nat.rec (motive:=fun _=>List Int→Int→Int→Int→(Int→Int→Option Int)→Option (List Int)) (fun _ _ _ _ _=>none) (fun _ ih=>Qg ih) n_
def ZT(n:Int)(cmp:Int→Int→Option Int)(o2:List Int)(a2:Int)(b:Int):Option (((List Int)×Int×Int) ⊕ ((List Int)×Int)):=
  if(decide (b≤n))=true then
  (ZE o2 a2 b cmp).bind fun y=>
  some (.inl (y,b,(i64 (b+20))))
  else
  some (.inr (o2,a2))
def ZN(n:Int)(cmp:Int→Int→Option Int)(blockSize:Int)(o5:List Int)(a4:Int)(b2:Int):Option (((List Int)×Int×Int) ⊕ ((List Int)×Int)):=
  if(decide (b2≤n))=true then
  (ZQ 100 o5 a4 (i64 (a4+blockSize)) b2 cmp).bind fun y3=>
  some (.inl (y3,b2,(i64 (b2+(i64 (2*blockSize))))))
  else
  some (.inr (o5,a4))
def ZM(n:Int)(cmp:Int→Int→Option Int)(o3:List Int)(blockSize:Int):Option (((List Int)×Int) ⊕ ((List Int))):=
  if(decide (blockSize<n))=true then
  ((loop (t3 (ZN n cmp blockSize)) (o3,0,(i64 (2*blockSize)))):Option (((List Int)×Int))).bind (t2 fun(o4:List Int) (a3:Int)=>
  if(decide ((i64 (a3+blockSize))<n))=true then
  (ZQ 100 o4 a3 (i64 (a3+blockSize)) n cmp).bind fun y4=>
  some (.inl (y4,(i64 (blockSize*2))))
  else
  some (.inl (o4,(i64 (blockSize*2)))))
  else
  some (.inr o3)
def Qp(data:List Int)(n:Int)(cmp:Int→Int→Option Int):Option (List Int):=
  ((loop (t3 (ZT n cmp)) (data,0,20)):Option (((List Int)×Int))).bind (t2 fun(o:List Int) (a:Int)=>
  (ZE o a n cmp).bind fun y2=>
  loop (t2 (ZM n cmp)) (y2,20))
def ZW(x:List Int)(cmp:Int→Int→Option Int):Option (List Int):=
  (Qp x (x.length:Int) cmp).bind fun y=>
  some y
def Jn(i:Int)(c0:api_Memory):Option Int:=
  (idx c0.Sectors i).bind fun x=>
  (ZaM x).bind fun y=>
  some y.1
def Jq(a:Int)(b:Int)(k:api_Memory):Option Int:=
  (Jn a k).bind fun y=>
  (Jn b k).bind fun y2=>
  some (i64 (y-y2))
def JB(m:api_Memory)(out2:List Int)(i:Int):Option (((List Int)×Int) ⊕ ((List Int))):=
  if(decide (i<(m.Sectors.length:Int)))=true then
  (idx m.Sectors i).bind fun x=>
  (ZaM x).bind fun y=>
  (gd (y.2.2==true) false (idx m.Bad i)).bind fun x2=>
  if(y.2.2&&(!x2))=true then
  (apz 8 out2 ([i]:List Int)).bind fun l=>
  some (.inl (l,(i64 (i+1))))
  else
  some (.inl (out2,(i64 (i+1))))
  else
  some (.inr out2)
def XU(m:api_Memory):Option (List Int):=
  ((loop (t2 (JB m)) ([],0)):Option (((List Int)))).bind (t1 fun(out:List Int)=>
  (ZW out (fun z0 z1=>Jq z0 z1 m)).bind fun y2=>
  some y2)
def ZaQ(s:List Int)(i:Int):Option (Vector Int 97):=
  (slc s (i64 (16+(i64 (i*97)))) (i64 ((i64 (16+(i64 (i*97))))+97))).bind fun l=>
  (tov 97 l).bind fun v=>
  some v
def Qe(s:List Int)(f:Int→Option Bool)(i:Int):Option ((Int) ⊕ (Int) ⊕ (Unit)):=
  if(decide (i<(s.length:Int)))=true then
  (idx s i).bind fun x=>
  (f x).bind fun y=>
  if y=true then
  some (.inr (.inl i))
  else
  some (.inl (i64 (i+1)))
  else
  some (.inr (.inr ()))
def QI(s:List Int)(f:Int→Option Bool):Option Int:=
  ((loop (t1 (Qe s f)) 0):Option ((Int) ⊕ (Unit))).bind (Sum.elim (fun q'=>some q') (t0 (some (-1))))
def Qf(s:List Int)(f:Int→Option Bool):Option Bool:=
  (QI s f).bind fun y=>
  some (decide (0≤y))
def Jo(b:Int):Option Bool:=
  some (!decide (b=255))
def Zap(p:Vector Int 97):Option Int:=
  (ZY p 96).bind fun x=>
  if(decide (x=0))=true then
  some 1
  else
  (slc p.toList 0 (97:Int)).bind fun l=>
  (Qf l (fun z0=>Jo z0)).bind fun y=>
  if y=true then
  some 2
  else
  some 0
def Xj(m:api_Memory)(x:Int)(slot2:Int)(i:Int):Option ((Int×Int) ⊕ (Int)):=
  if(decide (i<m.Slots))=true then
  (idx m.Sectors x).bind fun x2=>
  (ZaQ x2 i).bind fun y2=>
  (Zap y2).bind fun y3=>
  if(!decide (y3=0))=true then
  some (.inl ((i64 (i+1)),(i64 (i+1))))
  else
  some (.inl (slot2,(i64 (i+1))))
  else
  some (.inr slot2)
def Jf(m:api_Memory):Option ring_spot:=
  (XU m).bind fun y=>
  if(decide ((y.length:Int)=0))=true then
  some (ring_spot.mk (-1) 0)
  else
  (idx y (i64 ((y.length:Int)-1))).bind fun x=>
  ((loop (t2 (Xj m x)) (0,0)):Option ((Int))).bind (t1 fun(slot:Int)=>
  some (ring_spot.mk x slot))
def Zbd(y3:(List api_Memory))(spots2:List ring_spot)(frozen2:Bool)(i:Int):Option (((List ring_spot)×Bool×Int) ⊕ ((List ring_spot)×Bool)):=
  if(decide (i<(y3.length:Int)))=true then
  (idx y3 i).bind fun x=>
  (Jf x).bind fun y4=>
  (apz 16 spots2 ([y4]:List ring_spot)).bind fun l2=>
  if(decide (0≤y4.sector))=true then
  (idx x.Sectors y4.sector).bind fun x2=>
  (ZaM x2).bind fun y5=>
  some (.inl (l2,(frozen2 || y5.2.1),(i64 (i+1))))
  else
  some (.inl (l2,frozen2,(i64 (i+1))))
  else
  some (.inr (spots2,frozen2))
def Jy(l:List api_Memory)(copies:Int):Option ((Int) ⊕ (ring_Recorder×Int)):=
  (JO l).bind fun y=>
  if(!decide (y=0))=true then
  some (Sum.inl y)
  else
  (QE copies 1 (l.length:Int)).bind fun y2=>
  if(!y2)=true then
  some (Sum.inl 9)
  else
  (Ji l).bind fun y3=>
  ((loop (t3 (Zbd y3)) ([],false,0)):Option (((List ring_spot)×Bool))).bind (t2 fun(spots:List ring_spot) (frozen:Bool)=>
  some (Sum.inr ((ring_Recorder.mk (ring_bank.mk y3 spots) copies frozen false 0 false),0)))
def Z8(n:Int)(low:Int)(high:Int):Option Bool:=
  some ((decide (n<low)) || (decide (high<n)))
def ZaD(m:api_Memory)(i:Int):Option ((Int) ⊕ (Int) ⊕ (Unit)):=
  if(decide (i<(m.Sectors.length:Int)))=true then
  (idx m.Sectors i).bind fun x=>
  if(!decide ((x.length:Int)=(i64 (16+(i64 (m.Slots*97))))))=true then
  some (.inr (.inl 3))
  else
  (idx m.Wear i).bind fun x2=>
  (Z8 x2 0 m.Limit).bind fun y4=>
  if y4=true then
  some (.inr (.inl 9))
  else
  some (.inl (i64 (i+1)))
  else
  some (.inr (.inr ()))
def ZaK(m:api_Memory):Option Int:=
  (Z8 m.Slots 1 64).bind fun y=>
  (gd (y==false) false (Z8 m.Limit 1 1000000)).bind fun y2=>
  (gd ((y || y2)==false) false (Z8 (m.Sectors.length:Int) 2 64)).bind fun y3=>
  if((y || y2) || y3)=true then
  some 9
  else
  if((!decide ((m.Wear.length:Int)=(m.Sectors.length:Int))) || (!decide ((m.Bad.length:Int)=(m.Sectors.length:Int))))=true then
  some 2
  else
  ((loop (t1 (ZaD m)) 0):Option ((Int) ⊕ (Unit))).bind (Sum.elim (fun q'=>some q') (t0 (some 0)))
def Zd0(l:List api_Memory)(i:Int):Option ((Int) ⊕ (Int) ⊕ (Unit)):=
  if(decide (i<(l.length:Int)))=true then
  (idx l i).bind fun x=>
  (ZaK x).bind fun y=>
  if(!decide (y=0))=true then
  some (.inr (.inl y))
  else
  some (.inl (i64 (i+1)))
  else
  some (.inr (.inr ()))
def Ze7(l:List api_Memory):Option Int:=
  if((decide ((l.length:Int)=0)) || (decide (8<(l.length:Int))))=true then
  some 3
  else
  ((loop (t1 (Zd0 l)) 0):Option ((Int) ⊕ (Unit))).bind (Sum.elim (fun q'=>some q') (t0 (some 0)))
def ZcS(m:api_Memory)(Sectors2:List (List Int))(i:Int):Option (((List (List Int))×Int) ⊕ ((List (List Int)))):=
  if(decide (i<(m.Sectors.length:Int)))=true then
  (((idx m.Sectors i).bind fun x=>
  (apz 1 ([]:List Int) x).bind fun l=>
  (apz 24 Sectors2 [l]).bind fun l2=>
  some l2):Option (((List (List Int))))).bind (t1 fun(Sectors3:List (List Int))=>
  some (.inl (Sectors3,(i64 (i+1)))))
  else
  some (.inr Sectors2)
def ZeY(m:api_Memory):Option api_Memory:=
  ((loop (t2 (ZcS m)) ([],0)):Option (((List (List Int))))).bind (t1 fun(Sectors:List (List Int))=>
  (apz 8 ([]:List Int) m.Wear).bind fun l3=>
  (apz 1 ([]:List Bool) m.Bad).bind fun l4=>
  some (api_Memory.mk m.Slots m.Limit Sectors l3 l4))
def JX(x:Int)(out4:List Int)(k:Int):Option (((List Int)×Int) ⊕ ((List Int))):=
  if(decide (0≤k))=true then
  (shr .u32 x k).bind fun q=>
  (apz 1 out4 ([(u8 q)]:List Int)).bind fun l=>
  some (.inl (l,(i64 (k-8))))
  else
  some (.inr out4)
def JT(sequence:Int)(out2:List Int)(i:Int):Option (((List Int)×Int) ⊕ ((List Int))):=
  if(decide (i<(([(u32 sequence),(Zbv .u32 4294967295 (u32 sequence))]:List Int).length:Int)))=true then
  (((idx ([(u32 sequence),(Zbv .u32 4294967295 (u32 sequence))]:List Int) i).bind fun x=>
  loop (t2 (JX x)) (out2,24)):Option (((List Int)))).bind (t1 fun(out3:List Int)=>
  some (.inl (out3,(i64 (i+1)))))
  else
  some (.inr out2)
def ZcL(sequence:Int):Option (List Int):=
  ((loop (t2 (JT sequence)) (([79,66]:List Int),0)):Option (((List Int)))).bind (t1 fun(out:List Int)=>
  some out)
def Za3(s:List Int)(sequence2:Int)(k:Int):Option ((Int×Int) ⊕ (Int)):=
  if(decide (k<6))=true then
  (idx s k).bind fun x=>
  some (.inl ((i64 ((i64 (sequence2*256))+(i64 x))),(i64 (k+1))))
  else
  some (.inr sequence2)
def ZbZ(s:List Int):Option (Int×Bool×Bool):=
  if(decide ((s.length:Int)<16))=true then
  some (0,false,false)
  else
  ((loop (t2 (Za3 s)) (0,2)):Option ((Int))).bind (t1 fun(sequence:Int)=>
  (Z8 sequence 1 1073741824).bind fun y=>
  (gd (y==false) [] (ZcL sequence)).bind fun y2=>
  (gd (y==false) [] (slc s 0 10)).bind fun l=>
  if(y || (!decide ((ZaE y2)=(ZaE l))))=true then
  some (0,false,false)
  else
  (idx s 10).bind fun x2=>
  some (sequence,(!decide (x2=255)),true))
def ZbB(m:api_Memory)(out2:List Int)(y:Int×Bool×Bool)(at_2:Int):Option ((Int) ⊕ (Int)):=
  if(decide (0<at_2))=true then
  (idx out2 (i64 (at_2-1))).bind fun x3=>
  (idx m.Sectors x3).bind fun x4=>
  (ZbZ x4).bind fun y2=>
  if(decide (y2.1≤y.1))=true then
  some (.inr at_2)
  else
  some (.inl (i64 (at_2-1)))
  else
  some (.inr at_2)
def ZbF(m:api_Memory)(out2:List Int)(i:Int):Option (((List Int)×Int) ⊕ ((List Int))):=
  if(decide (i<(m.Sectors.length:Int)))=true then
  (idx m.Sectors i).bind fun x=>
  (ZbZ x).bind fun y=>
  (gd ((!y.2.2)==false) false (idx m.Bad i)).bind fun x2=>
  if((!y.2.2) || x2)=true then
  some (.inl (out2,(i64 (i+1))))
  else
  ((loop (t1 (ZbB m out2 y)) (out2.length:Int)):Option ((Int))).bind (t1 fun(at_:Int)=>
  (apz 8 out2 ([0]:List Int)).bind fun l=>
  (slq l (i64 (at_+1)) (l.length:Int)).bind fun u=>
  (slq l at_ (l.length:Int)).bind fun u2=>
  (idx (cpy l (i64 (at_+1)).toNat (Int.toNat ((l.length:Int)-(i64 (at_+1)))) at_.toNat (Int.toNat ((l.length:Int)-at_))) at_).bind fun x5=>
  some (.inl (((cpy l (i64 (at_+1)).toNat (Int.toNat ((l.length:Int)-(i64 (at_+1)))) at_.toNat (Int.toNat ((l.length:Int)-at_))).set at_.toNat i),(i64 (i+1)))))
  else
  some (.inr out2)
def ZaT(m:api_Memory):Option (List Int):=
  ((loop (t2 (ZbF m)) ([],0)):Option (((List Int)))).bind (t1 fun(out:List Int)=>
  some out)
def Zgh(s:List Int)(i:Int):Option (List Int):=
  (slc s (i64 (16+(i64 (i*97)))) (i64 (16+(i64 ((i64 (i+1))*97))))).bind fun l=>
  some l
def Zci(y:(List Int))(i2:Int):Option ((Int) ⊕ (Int) ⊕ (Unit)):=
  if(decide (i2<(y.length:Int)))=true then
  (idx y i2).bind fun x2=>
  if(!decide (x2=255))=true then
  some (.inr (.inl 2))
  else
  some (.inl (i64 (i2+1)))
  else
  some (.inr (.inr ()))
def Zfp(s:List Int)(i:Int):Option Int:=
  (Zgh s i).bind fun y=>
  (idx y 96).bind fun x=>
  if(decide (x=0))=true then
  some 1
  else
  ((loop (t1 (Zci y)) 0):Option ((Int) ⊕ (Unit))).bind (Sum.elim (fun q'=>some q') (t0 (some 0)))
def Zcn(x:api_Memory)(x2:Int)(slot2:Int)(i2:Int):Option ((Int×Int) ⊕ (Int)):=
  if(decide (i2<x.Slots))=true then
  (idx x.Sectors x2).bind fun x3=>
  (Zfp x3 i2).bind fun y5=>
  if(!decide (y5=0))=true then
  some (.inl ((i64 (i2+1)),(i64 (i2+1))))
  else
  some (.inl (slot2,(i64 (i2+1))))
  else
  some (.inr slot2)
def Zd3(l:List api_Memory)(list2:List api_Memory)(stands2:List ref3_stand)(frozen2:Bool)(i:Int):Option (((List api_Memory)×(List ref3_stand)×Bool×Int) ⊕ ((List api_Memory)×(List ref3_stand)×Bool)):=
  if(decide (i<(l.length:Int)))=true then
  (idx l i).bind fun x=>
  (((ZeY x).bind fun y3=>
  (apz 88 list2 [y3]).bind fun l2=>
  some l2):Option (((List api_Memory)))).bind (t1 fun(list3:List api_Memory)=>
  (((ZaT x).bind fun y4=>
  if(decide (0<(y4.length:Int)))=true then
  (idx y4 (i64 ((y4.length:Int)-1))).bind fun x2=>
  ((loop (t2 (Zcn x x2)) (0,0)):Option ((Int))).bind (t1 fun(slot:Int)=>
  (idx x.Sectors x2).bind fun x4=>
  (ZbZ x4).bind fun y6=>
  some ((frozen2 || y6.2.1),(ref3_stand.mk x2 slot)))
  else
  some (frozen2,(ref3_stand.mk (-1) 0))):Option ((Bool×ref3_stand))).bind (t2 fun(frozen3:Bool) (at_:ref3_stand)=>
  (apz 16 stands2 ([at_]:List ref3_stand)).bind fun l3=>
  some (.inl (list3,l3,frozen3,(i64 (i+1))))))
  else
  some (.inr (list2,stands2,frozen2))
def JV(l:List api_Memory)(copies:Int):Option ((Int) ⊕ (ref3_Recorder×Int)):=
  (Ze7 l).bind fun y=>
  if(!decide (y=0))=true then
  some (Sum.inl y)
  else
  (Z8 copies 1 (l.length:Int)).bind fun y2=>
  if y2=true then
  some (Sum.inl 9)
  else
  ((loop (t4 (Zd3 l)) ([],[],false,0)):Option (((List api_Memory)×(List ref3_stand)×Bool))).bind (t3 fun(list:List api_Memory) (stands:List ref3_stand) (frozen:Bool)=>
  some (Sum.inr ((ref3_Recorder.mk list copies stands frozen false 0 false 0),0)))
def ZfC(n2:Int)(ones2:Int):Option ((Int×Int) ⊕ (Int)):=
  if(decide (0<n2))=true then
  (rem n2 2).bind fun q=>
  (quo .i64 n2 2).bind fun q2=>
  some (.inl (q2,(i64 (ones2+q))))
  else
  some (.inr ones2)
def Zdm(n:Int):Option Bool:=
  ((loop (t2 (ZfC)) (n,0)):Option ((Int))).bind (t1 fun(ones:Int)=>
  (rem ones 2).bind fun q3=>
  some (decide (q3=1)))
def ZcK(data:Int):Option Int:=
  (Zdm data).bind fun y=>
  if y=true then
  some data
  else
  some (i64 (data+2048))
def Je(f:Vector Int 64):Option Int:=
  (ZY f 1).bind fun x=>
  (rem (i64 x) 2048).bind fun q=>
  (ZY f 2).bind fun x2=>
  (rem (i64 x2) 2048).bind fun q2=>
  some (i64 (q+(i64 (q2*2048))))
def ZaV(number:Int):Option Int:=
  (rem number 4).bind fun q=>
  (ZY (#v[583,1464,2631,3512]:Vector Int 4) q).bind fun x=>
  some x
def ZbJ(f:Vector Int 64)(x2:Int)(i:Int):Option ((Int×Int) ⊕ (Int)):=
  if(decide (i≤60))=true then
  (ZY f i).bind fun x3=>
  (rem (i64 x3) 2048).bind fun q=>
  some (.inl ((Zbv .i64 x2 q),(i64 (i+1))))
  else
  some (.inr x2)
def Zel(f:Vector Int 64):Option Int:=
  ((loop (t2 (ZbJ f)) (0,1)):Option ((Int))).bind (t1 fun(x:Int)=>
  some x)
def Zaw(f:Vector Int 64)(rest2:Int)(i:Int):Option ((Int×Int) ⊕ (Int)):=
  if(decide (i<766))=true then
  ((if(decide (i<744))=true then
  (quo .i64 i 12).bind fun q=>
  (ZY f q).bind fun x=>
  (rem i 12).bind fun q2=>
  (shr .i64 (i64 x) (i64 (11-q2))).bind fun q3=>
  some (QD .i64 q3 1)
  else
  some 0):Option ((Int))).bind (t1 fun(bit:Int)=>
  if(decide (4194304≤(i64 ((i64 (rest2*2))+bit))))=true then
  some (.inl ((Zbv .i64 (i64 ((i64 (rest2*2))+bit)) 6291471),(i64 (i+1))))
  else
  some (.inl ((i64 ((i64 (rest2*2))+bit)),(i64 (i+1)))))
  else
  some (.inr rest2)
def Zbx(f:Vector Int 64):Option Int:=
  ((loop (t2 (Zaw f)) (0,0)):Option ((Int))).bind (t1 fun(rest:Int)=>
  some rest)
def Zdk(f:Vector Int 64):Option (Vector Int 64):=
  (Zbx f).bind fun y=>
  (quo .i64 y 2048).bind fun q=>
  (ZcK q).bind fun y2=>
  (rem y 2048).bind fun q2=>
  (ZcK q2).bind fun y3=>
  (ZY f 62).bind fun x=>
  (ZY (ZaB f 62 (u16 y2)) 63).bind fun x2=>
  some (ZaB (ZaB f 62 (u16 y2)) 63 (u16 y3))
def Zdn(f3:Vector Int 64)(i:Int):Option (((Vector Int 64)×Int) ⊕ ((Vector Int 64))):=
  if(decide (i≤60))=true then
  (ZY f3 i).bind fun x=>
  (rem (i64 x) 2048).bind fun q=>
  (ZcK q).bind fun y=>
  (ZY f3 i).bind fun x2=>
  some (.inl ((ZaB f3 i (u16 y)),(i64 (i+1))))
  else
  some (.inr f3)
def Zec(f:Vector Int 64):Option (Vector Int 64):=
  ((loop (t2 (Zdn)) (f,1)):Option (((Vector Int 64)))).bind (t1 fun(f2:Vector Int 64)=>
  (Je f2).bind fun y2=>
  (ZaV y2).bind fun y3=>
  (ZY f2 0).bind fun x3=>
  (Zel (ZaB f2 0 (u16 y3))).bind fun y4=>
  (ZcK y4).bind fun y5=>
  (ZY (ZaB f2 0 (u16 y3)) 61).bind fun x4=>
  (Zdk (ZaB (ZaB f2 0 (u16 y3)) 61 (u16 y5))).bind fun y6=>
  some y6)
def ZfG(data:List Int)(f2:Vector Int 64)(i:Int):Option (((Vector Int 64)×Int) ⊕ ((Vector Int 64)×Int) ⊕ ((Vector Int 64))):=
  if(decide (i<(data.length:Int)))=true then
  (idx data i).bind fun x3=>
  if((decide (x3<0)) || (decide (2047<x3)))=true then
  some (.inr (.inl ((#v[0,0,0,0,0,0,0,0,0,0,0,0,0,0,0,0,0,0,0,0,0,0,0,0,0,0,0,0,0,0,0,0,0,0,0,0,0,0,0,0,0,0,0,0,0,0,0,0,0,0,0,0,0,0,0,0,0,0,0,0,0,0,0,0]:Vector Int 64),9)))
  else
  (ZY f2 (i64 (3+i))).bind fun x4=>
  some (.inl ((ZaB f2 (i64 (3+i)) (u16 x3)),(i64 (i+1))))
  else
  some (.inr (.inr f2))
def Zhw(number:Int)(data:List Int):Option ((Vector Int 64)×Int):=
  if((decide (number<0)) || (decide (4194304≤number)))=true then
  some ((#v[0,0,0,0,0,0,0,0,0,0,0,0,0,0,0,0,0,0,0,0,0,0,0,0,0,0,0,0,0,0,0,0,0,0,0,0,0,0,0,0,0,0,0,0,0,0,0,0,0,0,0,0,0,0,0,0,0,0,0,0,0,0,0,0]:Vector Int 64),9)
  else
  if(!decide ((data.length:Int)=58))=true then
  some ((#v[0,0,0,0,0,0,0,0,0,0,0,0,0,0,0,0,0,0,0,0,0,0,0,0,0,0,0,0,0,0,0,0,0,0,0,0,0,0,0,0,0,0,0,0,0,0,0,0,0,0,0,0,0,0,0,0,0,0,0,0,0,0,0,0]:Vector Int 64),3)
  else
  (rem number 2048).bind fun q=>
  (quo .i64 number 2048).bind fun q2=>
  (ZY (#v[0,0,0,0,0,0,0,0,0,0,0,0,0,0,0,0,0,0,0,0,0,0,0,0,0,0,0,0,0,0,0,0,0,0,0,0,0,0,0,0,0,0,0,0,0,0,0,0,0,0,0,0,0,0,0,0,0,0,0,0,0,0,0,0]:Vector Int 64) 1).bind fun x=>
  (ZY (ZaB (#v[0,0,0,0,0,0,0,0,0,0,0,0,0,0,0,0,0,0,0,0,0,0,0,0,0,0,0,0,0,0,0,0,0,0,0,0,0,0,0,0,0,0,0,0,0,0,0,0,0,0,0,0,0,0,0,0,0,0,0,0,0,0,0,0]:Vector Int 64) 1 (u16 q)) 2).bind fun x2=>
  ((loop (t2 (ZfG data)) ((ZaB (ZaB (#v[0,0,0,0,0,0,0,0,0,0,0,0,0,0,0,0,0,0,0,0,0,0,0,0,0,0,0,0,0,0,0,0,0,0,0,0,0,0,0,0,0,0,0,0,0,0,0,0,0,0,0,0,0,0,0,0,0,0,0,0,0,0,0,0]:Vector Int 64) 1 (u16 q)) 2 (u16 q2)),0)):Option (((Vector Int 64)×Int) ⊕ ((Vector Int 64)))).bind (Sum.elim (fun q'=>some q') (t1 fun(f:Vector Int 64)=>
  (Zec f).bind fun y=>
  some (y,0)))
def Ze3(x:Int)(y:Int):Option (Int×Int):=
  (shr .u64 x 32).bind fun q=>
  (shr .u64 y 32).bind fun q2=>
  (shr .u64 (u64 ((QD .u64 x 4294967295)*(QD .u64 y 4294967295))) 32).bind fun q3=>
  (shr .u64 (u64 ((u64 (q*(QD .u64 y 4294967295)))+q3)) 32).bind fun q4=>
  (shr .u64 (u64 ((QD .u64 (u64 ((u64 (q*(QD .u64 y 4294967295)))+q3)) 4294967295)+(u64 ((QD .u64 x 4294967295)*q2)))) 32).bind fun q5=>
  some ((u64 ((u64 ((u64 (q*q2))+q4))+q5)),(u64 (x*y)))
def Zhc(x:Int)(y:Int):Option (Int×Int):=
  (Ze3 x y).bind fun y2=>
  some (y2.1,y2.2)
def XQ(newslice2:List Int)(n:Int):Option (((List Int)×Int) ⊕ ((List Int))):=
  if(decide (n<(newslice2.length:Int)))=true then
  (slq newslice2 n (newslice2.length:Int)).bind fun u=>
  (slq newslice2 0 n).bind fun u2=>
  some (.inl ((cpy newslice2 n.toNat (Int.toNat ((newslice2.length:Int)-n)) (Int.toNat 0) (Int.toNat (n-0))),(i64 (n+((min (Int.toNat (n-0)) (Int.toNat ((newslice2.length:Int)-n)):Nat):Int)))))
  else
  some (.inr newslice2)
def XI(x:List Int)(count:Int):Option (List Int):=
  if(decide (count<0))=true then
  none
  else
  (Zhc (u64 (x.length:Int)) (u64 count)).bind fun y=>
  if((decide (0<y.1)) || (decide (9223372036854775807<y.2)))=true then
  none
  else
  (mks (i64 y.2) 0).bind fun l=>
  ((loop (t2 (XQ)) ((ZjU l x),((min x.length l.length:Nat):Int))):Option (((List Int)))).bind (t1 fun(newslice:List Int)=>
  some newslice)
def Zbr(sectors:Int)(slots:Int)(Sectors2:List (List Int))(i:Int):Option (((List (List Int))×Int) ⊕ ((List (List Int)))):=
  if(decide (i<sectors))=true then
  (((XB slots).bind fun y4=>
  (XI ([255]:List Int) y4).bind fun y5=>
  (apz 24 Sectors2 [y5]).bind fun l3=>
  some l3):Option (((List (List Int))))).bind (t1 fun(Sectors3:List (List Int))=>
  some (.inl (Sectors3,(i64 (i+1)))))
  else
  some (.inr Sectors2)
def Zby(sectors:Int)(slots:Int)(limit:Int):Option (api_Memory×Int):=
  (QE sectors 2 64).bind fun y=>
  (gd ((!y)==false) false (QE slots 1 64)).bind fun y2=>
  (gd (((!y) || (!y2))==false) false (QE limit 1 1000000)).bind fun y3=>
  if(((!y) || (!y2)) || (!y3))=true then
  some ((api_Memory.mk 0 0 [] [] []),9)
  else
  (((mkz 8 sectors 0).bind fun l=>
  (mkz 1 sectors false).bind fun l2=>
  some (l,l2)):Option (((List Int)×(List Bool)))).bind (t2 fun(Wear:List Int) (Bad:List Bool)=>
  ((loop (t2 (Zbr sectors slots)) ([],0)):Option (((List (List Int))))).bind (t1 fun(Sectors:List (List Int))=>
  some ((api_Memory.mk slots limit Sectors Wear Bad),0)))
def Xe(r_:ring_Recorder)(power:Int):Option Int:=
  if r_.stopped=true then
  some 15
  else
  if r_.frozen=true then
  some 11
  else
  (QE power 0 1000000000).bind fun y=>
  if(!y)=true then
  some 9
  else
  some 0
def JC(w:Int):Option Int:=
  some (i64 (QD .u16 w 2047))
def Js(f:Vector Int 64):Option Int:=
  (ZY f 1).bind fun x=>
  (JC x).bind fun y=>
  (ZY f 2).bind fun x2=>
  (JC x2).bind fun y2=>
  (shl .i64 y2 11).bind fun q=>
  some (bor .i64 y q)
def gv_frame_syncs:Vector Int 4:= #v[583,1464,2631,3512]
def ZaN(x:Int):Option Int:=
  (shr .u16 x 8).bind fun q=>
  (Zos [0,1,1,2,1,2,2,3,1,2,2,3,2,3,3,4,1,2,2,3,2,3,3,4,2,3,3,4,3,4,4,5,1,2,2,3,2,3,3,4,2,3,3,4,3,4,4,5,2,3,3,4,3,4,4,5,3,4,4,5,4,5,5,6,1,2,2,3,2,3,3,4,2,3,3,4,3,4,4,5,2,3,3,4,3,4,4,5,3,4,4,5,4,5,5,6,2,3,3,4,3,4,4,5,3,4,4,5,4,5,5,6,3,4,4,5,4,5,5,6,4,5,5,6,5,6,6,7,1,2,2,3,2,3,3,4,2,3,3,4,3,4,4,5,2,3,3,4,3,4,4,5,3,4,4,5,4,5,5,6,2,3,3,4,3,4,4,5,3,4,4,5,4,5,5,6,3,4,4,5,4,5,5,6,4,5,5,6,5,6,6,7,2,3,3,4,3,4,4,5,3,4,4,5,4,5,5,6,3,4,4,5,4,5,5,6,4,5,5,6,5,6,6,7,3,4,4,5,4,5,5,6,4,5,5,6,5,6,6,7,4,5,5,6,5,6,6,7,5,6,6,7,6,7,7,8] q).bind fun b=>
  (Zos [0,1,1,2,1,2,2,3,1,2,2,3,2,3,3,4,1,2,2,3,2,3,3,4,2,3,3,4,3,4,4,5,1,2,2,3,2,3,3,4,2,3,3,4,3,4,4,5,2,3,3,4,3,4,4,5,3,4,4,5,4,5,5,6,1,2,2,3,2,3,3,4,2,3,3,4,3,4,4,5,2,3,3,4,3,4,4,5,3,4,4,5,4,5,5,6,2,3,3,4,3,4,4,5,3,4,4,5,4,5,5,6,3,4,4,5,4,5,5,6,4,5,5,6,5,6,6,7,1,2,2,3,2,3,3,4,2,3,3,4,3,4,4,5,2,3,3,4,3,4,4,5,3,4,4,5,4,5,5,6,2,3,3,4,3,4,4,5,3,4,4,5,4,5,5,6,3,4,4,5,4,5,5,6,4,5,5,6,5,6,6,7,2,3,3,4,3,4,4,5,3,4,4,5,4,5,5,6,3,4,4,5,4,5,5,6,4,5,5,6,5,6,6,7,3,4,4,5,4,5,5,6,4,5,5,6,5,6,6,7,4,5,5,6,5,6,6,7,5,6,6,7,6,7,7,8] (QD .u16 x 255)).bind fun b2=>
  some (i64 (u8 (b+b2)))
def ZbW(w:Int):Option Bool:=
  (gd ((decide (w≤4095))==true) 0 (ZaN w)).bind fun y=>
  (gd ((decide (w≤4095))==true) 0 (rem y 2)).bind fun q=>
  some ((decide (w≤4095))&&(decide (q=1)))
def JY(f:Vector Int 64)(n2:Int)(i:Int):Option ((Int×Int) ⊕ (Int)):=
  if(decide (i<60))=true then
  (ZY f (i64 (i+1))).bind fun x=>
  (JC x).bind fun y=>
  some (.inl ((Zbv .i64 n2 y),(i64 (i+1))))
  else
  some (.inr n2)
def ZbG(f:Vector Int 64):Option Int:=
  ((loop (t2 (JY f)) (0,0)):Option ((Int))).bind (t1 fun(n:Int)=>
  some n)
def XF(f:Vector Int 64)(i:Int)(n4:Int)(k:Int):Option ((Int×Int) ⊕ (Int)):=
  if(decide (0≤k))=true then
  (shl .i64 n4 1).bind fun q=>
  (ZY f i).bind fun x=>
  (shr .u16 x k).bind fun q2=>
  if(!((!decide ((QD .i64 n4 2097152)=0))==(decide ((QD .u16 q2 1)=1))))=true then
  some (.inl ((Zbv .i64 (QD .i64 q 4194303) 2097167),(i64 (k-1))))
  else
  some (.inl ((QD .i64 q 4194303),(i64 (k-1))))
  else
  some (.inr n4)
def Ja(f:Vector Int 64)(n2:Int)(i:Int):Option ((Int×Int) ⊕ (Int)):=
  if(decide (i<62))=true then
  ((loop (t2 (XF f i)) (n2,11)):Option ((Int))).bind (t1 fun(n3:Int)=>
  some (.inl (n3,(i64 (i+1)))))
  else
  some (.inr n2)
def Zav(f:Vector Int 64):Option Int:=
  ((loop (t2 (Ja f)) (0,0)):Option ((Int))).bind (t1 fun(n:Int)=>
  some n)
def J3(f:Vector Int 64)(out2:List api_Flaw)(i:Int):Option (((List api_Flaw)×Int) ⊕ ((List api_Flaw))):=
  if(decide (i<64))=true then
  (ZY f i).bind fun x=>
  if(decide (4095<x))=true then
  (app out2 ([(api_Flaw.mk i 5)]:List api_Flaw)).bind fun l=>
  some (.inl (l,(i64 (i+1))))
  else
  some (.inl (out2,(i64 (i+1))))
  else
  some (.inr out2)
def JR(f:Vector Int 64)(out5:List api_Flaw)(i2:Int):Option (((List api_Flaw)×Int) ⊕ ((List api_Flaw))):=
  if(decide (i2<64))=true then
  (ZY f i2).bind fun x4=>
  (ZbW x4).bind fun y2=>
  if(!y2)=true then
  (app out5 ([(api_Flaw.mk i2 2)]:List api_Flaw)).bind fun l3=>
  some (.inl (l3,(i64 (i2+1))))
  else
  some (.inl (out5,(i64 (i2+1))))
  else
  some (.inr out5)
def ZaP(f:Vector Int 64):Option (List api_Flaw):=
  ((loop (t2 (J3 f)) ([],0)):Option (((List api_Flaw)))).bind (t1 fun(out:List api_Flaw)=>
  if(decide (0<(out.length:Int)))=true then
  some out
  else
  (((ZY f 0).bind fun x2=>
  (Js f).bind fun y=>
  (rem y 4).bind fun q=>
  (ZY gv_frame_syncs q).bind fun x3=>
  if(!decide (x2=x3))=true then
  (app out ([(api_Flaw.mk 0 1)]:List api_Flaw)).bind fun l2=>
  some l2
  else
  some out):Option (((List api_Flaw)))).bind (t1 fun(out3:List api_Flaw)=>
  ((loop (t2 (JR f)) (out3,1)):Option (((List api_Flaw)))).bind (t1 fun(out4:List api_Flaw)=>
  (((ZY f 61).bind fun x5=>
  (JC x5).bind fun y3=>
  (ZbG f).bind fun y4=>
  if(!decide (y3=y4))=true then
  (app out4 ([(api_Flaw.mk 61 3)]:List api_Flaw)).bind fun l4=>
  some l4
  else
  some out4):Option (((List api_Flaw)))).bind (t1 fun(out6:List api_Flaw)=>
  (ZY f 62).bind fun x6=>
  (JC x6).bind fun y5=>
  (shl .i64 y5 11).bind fun q2=>
  (ZY f 63).bind fun x7=>
  (JC x7).bind fun y6=>
  (Zav f).bind fun y7=>
  if(!decide ((bor .i64 q2 y6)=y7))=true then
  (app out6 ([(api_Flaw.mk 62 4)]:List api_Flaw)).bind fun l5=>
  some l5
  else
  some out6))))
def JJ(f:Vector Int 64):Option (Int×Bool):=
  (ZY f 1).bind fun x=>
  (ZbW x).bind fun y=>
  (gd ((!y)==false) 0 (ZY f 2)).bind fun x2=>
  (gd ((!y)==false) false (ZbW x2)).bind fun y2=>
  if((!y) || (!y2))=true then
  some (0,false)
  else
  (Js f).bind fun y3=>
  some (y3,true)
def ring_targets_L1(number:Int)(memories:Int)(copies:Int)(out2:List Int)(i:Int):Option (((List Int)×Int) ⊕ ((List Int))):=
  if(decide (i<copies))=true then
  (rem (i64 (number+i)) memories).bind fun q=>
  (apz 8 out2 ([q]:List Int)).bind fun l=>
  some (.inl (l,(i64 (i+1))))
  else
  some (.inr out2)
def Zak(number:Int)(memories:Int)(copies:Int):Option (List Int):=
  ((loop (t2 (ring_targets_L1 number memories copies)) ([],0)):Option (((List Int)))).bind (t1 fun(out:List Int)=>
  some out)
def QX(b:ring_bank)(k:Int):Option Bool:=
  (idx b.spots k).bind fun x=>
  (gd ((decide (x.sector<0))==false) (ring_spot.mk 0 0) (idx b.spots k)).bind fun x2=>
  (gd ((decide (x.sector<0))==false) (api_Memory.mk 0 0 [] [] []) (idx b.memories k)).bind fun x3=>
  some ((decide (x.sector<0)) || (decide (x2.slot=x3.Slots)))
def XT(b:ring_bank)(k:Int)(x:api_Memory)(i:Int):Option ((Int) ⊕ (Int) ⊕ (Unit)):=
  if(decide (i<(x.Sectors.length:Int)))=true then
  (idx b.spots k).bind fun x2=>
  (rem (i64 ((i64 (x2.sector+1))+i)) (x.Sectors.length:Int)).bind fun q=>
  (idx x.Bad q).bind fun x3=>
  (gd ((!x3)==true) 0 (idx x.Wear q)).bind fun x4=>
  if((!x3)&&(decide (x4<x.Limit)))=true then
  some (.inr (.inl q))
  else
  some (.inl (i64 (i+1)))
  else
  some (.inr (.inr ()))
def Xt(b:ring_bank)(k:Int):Option Int:=
  (idx b.memories k).bind fun x=>
  ((loop (t1 (XT b k x)) 0):Option ((Int) ⊕ (Unit))).bind (Sum.elim (fun q'=>some q') (t0 (some (-1))))
def Q4(sector:Int)(x:api_Memory)(most2:Int)(i:Int):Option ((Int×Int) ⊕ (Int)):=
  if(decide (i<(x.Sectors.length:Int)))=true then
  (idx x.Sectors i).bind fun x2=>
  (ZaM x2).bind fun y=>
  if(y.2.2&&(!decide (i=sector)))=true then
  some (.inl ((max most2 y.1),(i64 (i+1))))
  else
  some (.inl (most2,(i64 (i+1))))
  else
  some (.inr most2)
def QR(b:ring_bank)(k:Int)(sector:Int):Option Int:=
  (((idx b.memories k).bind fun x=>
  loop (t2 (Q4 sector x)) (0,0)):Option ((Int))).bind (t1 fun(most:Int)=>
  some (i64 (most+1)))
def X9(b:ring_bank)(l:List Int)(i:Int):Option ((Int) ⊕ (Int) ⊕ (Unit)):=
  if(decide (i<(l.length:Int)))=true then
  (idx l i).bind fun x=>
  (QX b x).bind fun y=>
  (gd (y==true) 0 (Xt b x)).bind fun y2=>
  if(y&&(decide (y2<0)))=true then
  some (.inr (.inl 4))
  else
  some (.inl (i64 (i+1)))
  else
  some (.inr (.inr ()))
def X8(b:ring_bank)(l:List Int)(i2:Int):Option ((Int) ⊕ (Int) ⊕ (Unit)):=
  if(decide (i2<(l.length:Int)))=true then
  (idx l i2).bind fun x2=>
  (QX b x2).bind fun y3=>
  (gd (y3==true) 0 (Xt b x2)).bind fun y4=>
  (gd (y3==true) 0 (QR b x2 y4)).bind fun y5=>
  if(y3&&(decide (1073741824<y5)))=true then
  some (.inr (.inl 3))
  else
  some (.inl (i64 (i2+1)))
  else
  some (.inr (.inr ()))
def JD(b:ring_bank)(l:List Int):Option Int:=
  ((loop (t1 (X9 b l)) 0):Option ((Int) ⊕ (Unit))).bind (Sum.elim (fun q'=>some q') (t0 (((loop (t1 (X8 b l)) 0):Option ((Int) ⊕ (Unit))).bind (Sum.elim (fun q'=>some q') (t0 (some 0))))))
def Zau(f:Vector Int 64)(i:Int):Option ((Int) ⊕ (Bool) ⊕ (Unit)):=
  if(decide (i<64))=true then
  (ZY f i).bind fun x=>
  if(decide (4095<x))=true then
  some (.inr (.inl true))
  else
  some (.inl (i64 (i+1)))
  else
  some (.inr (.inr ()))
def Zcx(f:Vector Int 64):Option Bool:=
  ((loop (t1 (Zau f)) 0):Option ((Bool) ⊕ (Unit))).bind (Sum.elim (fun q'=>some q') (t0 (some false)))
def JI(p:Vector Int 96)(i:Int)(w:Int):Option (Vector Int 96):=
  (quo .i64 i 2).bind fun q=>
  (rem i 2).bind fun q2=>
  if(decide (q2=0))=true then
  (shr .u16 w 4).bind fun q3=>
  (ZY p (i64 ((i64 (q*3))+1))).bind fun x=>
  (ZY p (i64 (q*3))).bind fun x2=>
  (shl .u16 (QD .u16 w 15) 4).bind fun q4=>
  (ZY (ZaB p (i64 (q*3)) (u8 q3)) (i64 ((i64 (q*3))+1))).bind fun x3=>
  some (ZaB (ZaB p (i64 (q*3)) (u8 q3)) (i64 ((i64 (q*3))+1)) (bor .u8 (u8 q4) (QD .u8 x 15)))
  else
  (ZY p (i64 ((i64 (q*3))+1))).bind fun x4=>
  (shr .u16 w 8).bind fun q5=>
  (ZY p (i64 ((i64 (q*3))+1))).bind fun x5=>
  (ZY (ZaB p (i64 ((i64 (q*3))+1)) (bor .u8 (QD .u8 x4 240) (u8 q5))) (i64 ((i64 (q*3))+2))).bind fun x6=>
  some (ZaB (ZaB p (i64 ((i64 (q*3))+1)) (bor .u8 (QD .u8 x4 240) (u8 q5))) (i64 ((i64 (q*3))+2)) (u8 w))
def Zay(f:Vector Int 64)(o:Vector Int 96)(i:Int):Option (((Vector Int 96)×Int) ⊕ ((Vector Int 96))):=
  if(decide (i<64))=true then
  (ZY f i).bind fun x=>
  (JI o i x).bind fun y=>
  some (.inl (y,(i64 (i+1))))
  else
  some (.inr o)
def ZdR(p:Vector Int 96)(f:Vector Int 64):Option (Vector Int 96):=
  loop (t2 (Zay f)) (p,0)
def Zaz(f:Vector Int 64):Option ((List Int)×Int):=
  (Zcx f).bind fun y=>
  if y=true then
  some ([],9)
  else
  (ZdR (Vector.replicate 96 0) f).bind fun y2=>
  (slc y2.toList 0 (96:Int)).bind fun l=>
  some (l,0)
def QH(q:Int)(o2:List Int)(i:Int):Option (((List Int)×Int) ⊕ ((List Int))):=
  if(decide (i<((Int.toNat (q-0):Nat):Int)))=true then
  (ck (decide ((0:Int)≤i)&&decide (i<((Int.toNat (q-0):Nat):Int)))).bind fun u2=>
  (idx o2 (0+i)).bind fun x2=>
  some (.inl ((o2.set (0+i).toNat 255),(i64 (i+1))))
  else
  some (.inr o2)
def QG(s:List Int)(o4:List Int)(i2:Int):Option (((List Int)×Int) ⊕ ((List Int))):=
  if(decide (i2<(s.length:Int)))=true then
  (idx o4 i2).bind fun x3=>
  some (.inl ((o4.set i2.toNat 255),(i64 (i2+1))))
  else
  some (.inr o4)
def Xm(s:List Int)(power:Int):Option (Int×Bool×(List Int)):=
  if(decide (power=0))=true then
  (quo .i64 (s.length:Int) 2).bind fun q=>
  (slp s 0 q).bind fun u=>
  ((loop (t2 (QH q)) (s,0)):Option (((List Int)))).bind (t1 fun(o:List Int)=>
  some ((max (i64 (power-1)) 0),(decide (0<power)),o))
  else
  ((loop (t2 (QG s)) (s,0)):Option (((List Int)))).bind (t1 fun(o3:List Int)=>
  some ((max (i64 (power-1)) 0),(decide (0<power)),o3))
def QZ(at_:Int)(data:List Int)(o2:List Int)(power3:Int)(i:Int):Option (((List Int)×Int×Int) ⊕ (Int×Bool×(List Int)) ⊕ ((List Int)×Int)):=
  if(decide (i<(data.length:Int)))=true then
  (idx data i).bind fun x=>
  if(decide (power3=0))=true then
  (idx o2 (i64 (at_+i))).bind fun x2=>
  (idx o2 (i64 (at_+i))).bind fun x3=>
  some (.inr (.inl (0,false,(o2.set (i64 (at_+i)).toNat (QD .u8 x2 (bor .u8 x 15))))))
  else
  (idx o2 (i64 (at_+i))).bind fun x4=>
  (idx o2 (i64 (at_+i))).bind fun x5=>
  some (.inl ((o2.set (i64 (at_+i)).toNat (QD .u8 x4 x)),(i64 (power3-1)),(i64 (i+1))))
  else
  some (.inr (.inr (o2,power3)))
def QM(s:List Int)(at_:Int)(data:List Int)(power:Int):Option (Int×Bool×(List Int)):=
  ((loop (t3 (QZ at_ data)) (s,power,0)):Option ((Int×Bool×(List Int)) ⊕ ((List Int)×Int))).bind (Sum.elim (fun q'=>some q') (t2 fun(o:List Int) (power2:Int)=>
  some (power2,true,o)))
def XS(b:ring_Recorder)(k:Int)(power:Int):Option (Int×Bool×ring_Recorder):=
  (idx b.bank.memories k).bind fun x=>
  (Xt b.bank k).bind fun y=>
  (QR b.bank k y).bind fun y2=>
  (idx x.Wear y).bind fun x2=>
  (idx x.Wear y).bind fun x3=>
  (idx x.Sectors y).bind fun x8=>
  (Xm x8 power).bind fun y3=>
  if(!y3.2.1)=true then
  some (y3.1,false,(ring_Recorder.mk (ring_bank.mk ((b.bank.memories.set k.toNat (api_Memory.mk x.Slots x.Limit x.Sectors (x.Wear.set y.toNat (i64 (x2+1))) x.Bad)).set k.toNat (api_Memory.mk x.Slots x.Limit (x.Sectors.set y.toNat y3.2.2) (x.Wear.set y.toNat (i64 (x2+1))) x.Bad)) b.bank.spots) b.copies b.frozen b.stopped b.last b.some_))
  else
  (((idx ((b.bank.memories.set k.toNat (api_Memory.mk x.Slots x.Limit x.Sectors (x.Wear.set y.toNat (i64 (x2+1))) x.Bad)).set k.toNat (api_Memory.mk x.Slots x.Limit (x.Sectors.set y.toNat y3.2.2) (x.Wear.set y.toNat (i64 (x2+1))) x.Bad)) k).bind fun x14=>
  (idx x14.Sectors y).bind fun x15=>
  (idx x14.Sectors y).bind fun x16=>
  (ZaU y2).bind fun y4=>
  (QM x15 0 y4 y3.1).bind fun y5=>
  if y5.2.1=true then
  (idx b.bank.spots k).bind fun x22=>
  some ((((b.bank.memories.set k.toNat (api_Memory.mk x.Slots x.Limit x.Sectors (x.Wear.set y.toNat (i64 (x2+1))) x.Bad)).set k.toNat (api_Memory.mk x.Slots x.Limit (x.Sectors.set y.toNat y3.2.2) (x.Wear.set y.toNat (i64 (x2+1))) x.Bad)).set k.toNat (api_Memory.mk x14.Slots x14.Limit (x14.Sectors.set y.toNat y5.2.2) x14.Wear x14.Bad)),(b.bank.spots.set k.toNat (ring_spot.mk y 0)),y5.1,y5.2.1)
  else
  some ((((b.bank.memories.set k.toNat (api_Memory.mk x.Slots x.Limit x.Sectors (x.Wear.set y.toNat (i64 (x2+1))) x.Bad)).set k.toNat (api_Memory.mk x.Slots x.Limit (x.Sectors.set y.toNat y3.2.2) (x.Wear.set y.toNat (i64 (x2+1))) x.Bad)).set k.toNat (api_Memory.mk x14.Slots x14.Limit (x14.Sectors.set y.toNat y5.2.2) x14.Wear x14.Bad)),b.bank.spots,y5.1,y5.2.1)):Option (((List api_Memory)×(List ring_spot)×Int×Bool))).bind (t4 fun(memories:List api_Memory) (spots:List ring_spot) (power2:Int) (all:Bool)=>
  some (power2,all,(ring_Recorder.mk (ring_bank.mk memories spots) b.copies b.frozen b.stopped b.last b.some_)))
def Jz(b:ring_Recorder)(k:Int)(data:List Int)(power:Int):Option (Int×Bool×ring_Recorder):=
  (((QX b.bank k).bind fun y=>
  if y=true then
  (XS b k power).bind fun y2=>
  if(!y2.2.1)=true then
  some (.inl (y2.1,false,y2.2.2))
  else
  some (.inr (y2.2.2.bank.memories,y2.2.2.bank.spots,y2.2.2.copies,y2.2.2.frozen,y2.2.2.stopped,y2.2.2.last,y2.2.2.some_,y2.1))
  else
  some (.inr (b.bank.memories,b.bank.spots,b.copies,b.frozen,b.stopped,b.last,b.some_,power))):Option ((Int×Bool×ring_Recorder) ⊕ ((List api_Memory)×(List ring_spot)×Int×Bool×Bool×Int×Bool×Int))).bind (Sum.elim (fun q'=>some q') (t8 fun(memories:List api_Memory) (spots:List ring_spot) (copies:Int) (frozen:Bool) (stopped:Bool) (last:Int) (some_:Bool) (power2:Int)=>
  (idx spots k).bind fun x=>
  (idx memories k).bind fun x2=>
  (idx x2.Sectors x.sector).bind fun x3=>
  (idx memories k).bind fun x4=>
  (idx x2.Sectors x.sector).bind fun x5=>
  (apz 1 data ([0]:List Int)).bind fun l=>
  (QM x3 (i64 (16+(i64 (x.slot*97)))) l power2).bind fun y3=>
  some (y3.1,y3.2.1,(ring_Recorder.mk (ring_bank.mk (memories.set k.toNat (api_Memory.mk x2.Slots x2.Limit (x2.Sectors.set x.sector.toNat y3.2.2) x2.Wear x2.Bad)) (spots.set k.toNat (ring_spot.mk x.sector (i64 (x.slot+1))))) copies frozen stopped last some_))))
def Qw(y4:(List Int))(y6:(List Int)×Int)(memories2:List api_Memory)(spots2:List ring_spot)(copies2:Int)(frozen2:Bool)(stopped2:Bool)(last2:Int)(some_2:Bool)(power3:Int)(i:Int):Option (((List api_Memory)×(List ring_spot)×Int×Bool×Bool×Int×Bool×Int×Int) ⊕ (Int×Bool×Int×ring_Recorder) ⊕ ((List api_Memory)×(List ring_spot)×Int×Bool×Bool×Int×Bool×Int)):=
  if(decide (i<(y4.length:Int)))=true then
  (idx y4 i).bind fun x=>
  (slc y6.1 0 (y6.1.length:Int)).bind fun l=>
  (Jz (ring_Recorder.mk (ring_bank.mk memories2 spots2) copies2 frozen2 stopped2 last2 some_2) x l power3).bind fun y7=>
  if(!y7.2.1)=true then
  some (.inr (.inl (y7.1,false,0,(ring_Recorder.mk y7.2.2.bank y7.2.2.copies y7.2.2.frozen true y7.2.2.last y7.2.2.some_))))
  else
  some (.inl (y7.2.2.bank.memories,y7.2.2.bank.spots,y7.2.2.copies,y7.2.2.frozen,y7.2.2.stopped,y7.2.2.last,y7.2.2.some_,y7.1,(i64 (i+1))))
  else
  some (.inr (.inr (memories2,spots2,copies2,frozen2,stopped2,last2,some_2,power3)))
def QB(r_:ring_Recorder)(f:Vector Int 64)(power:Int):Option (Int×Bool×Int×ring_Recorder):=
  (Xe r_ power).bind fun y=>
  if(!decide (y=0))=true then
  some (0,false,y,r_)
  else
  (ZaP f).bind fun y2=>
  if(decide (0<(y2.length:Int)))=true then
  some (0,false,2,r_)
  else
  (JJ f).bind fun y3=>
  (Zak y3.1 (r_.bank.memories.length:Int) r_.copies).bind fun y4=>
  (JD r_.bank y4).bind fun y5=>
  if(!decide (y5=0))=true then
  some (0,false,y5,r_)
  else
  (Zaz f).bind fun y6=>
  ((loop (t9 (Qw y4 y6)) (r_.bank.memories,r_.bank.spots,r_.copies,r_.frozen,r_.stopped,r_.last,r_.some_,power,0)):Option ((Int×Bool×Int×ring_Recorder) ⊕ ((List api_Memory)×(List ring_spot)×Int×Bool×Bool×Int×Bool×Int))).bind (Sum.elim (fun q'=>some q') (t8 fun(memories:List api_Memory) (spots:List ring_spot) (copies:Int) (frozen:Bool) (stopped:Bool) (last:Int) (some_:Bool) (power2:Int)=>
  some (power2,true,0,(ring_Recorder.mk (ring_bank.mk memories spots) copies frozen stopped y3.1 true))))
def Z6(r_:ring_Recorder):Option (List api_Memory):=
  (Ji r_.bank.memories).bind fun y=>
  some y
def Zdo(p:Vector Int 96)(i:Int):Option Int:=
  (quo .i64 i 2).bind fun q=>
  (rem i 2).bind fun q2=>
  if(decide (q2=0))=true then
  (ZY p (i64 (q*3))).bind fun x=>
  (shl .u16 (u16 x) 4).bind fun q3=>
  (ZY p (i64 ((i64 (q*3))+1))).bind fun x2=>
  (shr .u16 (u16 x2) 4).bind fun q4=>
  some (bor .u16 q3 q4)
  else
  (ZY p (i64 ((i64 (q*3))+1))).bind fun x3=>
  (shl .u16 (QD .u16 (u16 x3) 15) 8).bind fun q5=>
  (ZY p (i64 ((i64 (q*3))+2))).bind fun x4=>
  some (bor .u16 q5 (u16 x4))
def Zd8(p:Vector Int 96)(f2:Vector Int 64)(i:Int):Option (((Vector Int 64)×Int) ⊕ ((Vector Int 64))):=
  if(decide (i<64))=true then
  (Zdo p i).bind fun y=>
  (ZY f2 i).bind fun x=>
  some (.inl ((ZaB f2 i y),(i64 (i+1))))
  else
  some (.inr f2)
def Zfa(p:Vector Int 96):Option (Vector Int 64):=
  ((loop (t2 (Zd8 p)) ((Vector.replicate 64 0),0)):Option (((Vector Int 64)))).bind (t1 fun(f:Vector Int 64)=>
  some f)
def Za8(b:List Int):Option ((Vector Int 64)×Int):=
  if(decide ((b.length:Int)<96))=true then
  some ((#v[0,0,0,0,0,0,0,0,0,0,0,0,0,0,0,0,0,0,0,0,0,0,0,0,0,0,0,0,0,0,0,0,0,0,0,0,0,0,0,0,0,0,0,0,0,0,0,0,0,0,0,0,0,0,0,0,0,0,0,0,0,0,0,0]:Vector Int 64),3)
  else
  (slc b 0 96).bind fun l=>
  (tov 96 l).bind fun v=>
  (Zfa v).bind fun y=>
  some (y,0)
def Zcv(i:Int)(x:api_Memory)(x2:Int)(y3:Int×Bool×Bool)(out6:List api_Kept)(i3:Int):Option (((List api_Kept)×Int) ⊕ ((List api_Kept))):=
  if(decide (i3<x.Slots))=true then
  (idx x.Sectors x2).bind fun x4=>
  (ZaQ x4 i3).bind fun y4=>
  (Zap y4).bind fun y5=>
  if(decide (y5=1))=true then
  (slc y4.toList 0 (97:Int)).bind fun l2=>
  (Za8 l2).bind fun y6=>
  (apz 160 out6 ([(api_Kept.mk i x2 y3.1 i3 y6.1)]:List api_Kept)).bind fun l3=>
  some (.inl (l3,(i64 (i3+1))))
  else
  some (.inl (out6,(i64 (i3+1))))
  else
  some (.inr out6)
def Zcs(i:Int)(x:api_Memory)(y2:(List Int))(out4:List api_Kept)(i2:Int):Option (((List api_Kept)×Int) ⊕ ((List api_Kept))):=
  if(decide (i2<(y2.length:Int)))=true then
  (((idx y2 i2).bind fun x2=>
  (idx x.Sectors x2).bind fun x3=>
  (ZaM x3).bind fun y3=>
  loop (t2 (Zcv i x x2 y3)) (out4,0)):Option (((List api_Kept)))).bind (t1 fun(out5:List api_Kept)=>
  some (.inl (out5,(i64 (i2+1)))))
  else
  some (.inr out4)
def Zcq(l:List api_Memory)(out2:List api_Kept)(i:Int):Option (((List api_Kept)×Int) ⊕ ((List api_Kept))):=
  if(decide (i<(l.length:Int)))=true then
  (((idx l i).bind fun x=>
  (XU x).bind fun y2=>
  loop (t2 (Zcs i x y2)) (out2,0)):Option (((List api_Kept)))).bind (t1 fun(out3:List api_Kept)=>
  some (.inl (out3,(i64 (i+1)))))
  else
  some (.inr out2)
def ZcR(l:List api_Memory):Option ((List api_Kept)×Int):=
  (JO l).bind fun y=>
  if(!decide (y=0))=true then
  some ([],y)
  else
  ((loop (t2 (Zcq l)) ([],0)):Option (((List api_Kept)))).bind (t1 fun(out:List api_Kept)=>
  some (out,0))
def Zc7(y:(List api_Kept)×Int)(best2:List (Int×api_Kept))(numbers2:List Int)(i:Int):Option (((List (Int×api_Kept))×(List Int)×Int) ⊕ ((List (Int×api_Kept))×(List Int))):=
  if(decide (i<(y.1.length:Int)))=true then
  (idx y.1 i).bind fun x=>
  (ZaP x.Frame).bind fun y2=>
  if(decide (0<(y2.length:Int)))=true then
  some (.inl (best2,numbers2,(i64 (i+1))))
  else
  (JJ x.Frame).bind fun y3=>
  (some (mget kqI best2 y3.1)).bind fun o=>
  ((if(!o.isSome)=true then
  (apz 8 numbers2 ([y3.1]:List Int)).bind fun l2=>
  some l2
  else
  some numbers2):Option (((List Int)))).bind (t1 fun(numbers3:List Int)=>
  if((!o.isSome) || (decide (((o.getD (api_Kept.mk 0 0 0 0 (Vector.replicate 64 0))).Sequence)<x.Sequence)))=true then
  some (.inl ((ZmR kqI best2 y3.1 x),numbers3,(i64 (i+1))))
  else
  some (.inl (best2,numbers3,(i64 (i+1)))))
  else
  some (.inr (best2,numbers2))
def ZcX(best:List (Int×api_Kept))(y4:List Int)(out2:List (Vector Int 64))(i2:Int):Option (((List (Vector Int 64))×Int) ⊕ ((List (Vector Int 64)))):=
  if(decide (i2<(y4.length:Int)))=true then
  (idx y4 i2).bind fun x2=>
  (some ((mget kqI best x2).getD (api_Kept.mk 0 0 0 0 (Vector.replicate 64 0)))).bind fun o2=>
  (apz 128 out2 ([o2.Frame]:List (Vector Int 64))).bind fun l3=>
  some (.inl (l3,(i64 (i2+1))))
  else
  some (.inr out2)
def Zeh(l:List api_Memory):Option ((List (Vector Int 64))×Int):=
  (ZcR l).bind fun y=>
  if(!decide (y.2=0))=true then
  some ([],y.2)
  else
  ((loop (t3 (Zc7 y)) (([]:List (Int×api_Kept)),[],0)):Option (((List (Int×api_Kept))×(List Int)))).bind (t2 fun(best:List (Int×api_Kept)) (numbers:List Int)=>
  (ZjC numbers).bind fun y4=>
  ((loop (t2 (ZcX best y4)) ([],0)):Option (((List (Vector Int 64))))).bind (t1 fun(out:List (Vector Int 64))=>
  some (out,0)))
def Zbc:Option Bool:=
  (mkz 8 58 0).bind fun l=>
  (Zhw 4 l).bind fun y=>
  (Zby 2 1 3).bind fun y2=>
  if(!decide (y2.2=0))=true then
  some false
  else
  (Jy ([y2.1]:List api_Memory) 1).bind (Sum.elim (fun y3=>
  if(!decide (y3=0))=true then
  some false
  else
  none) (fun y3=>
  if(!decide (y3.2=0))=true then
  some false
  else
  (QB y3.1 y.1 109).bind fun y4=>
  (Z6 y4.2.2.2).bind fun y5=>
  (Zeh y5).bind fun y6=>
  (gd ((((((decide (y4.1=1))&&y4.2.1)&&(decide (y4.2.2.1=0)))&&(decide (y6.2=0)))&&(decide ((y6.1.length:Int)=1)))==true) (Vector.replicate 64 0) (idx y6.1 0)).bind fun x=>
  some ((((((decide (y4.1=1))&&y4.2.1)&&(decide (y4.2.2.1=0)))&&(decide (y6.2=0)))&&(decide ((y6.1.length:Int)=1)))&&(decide (x=y.1)))))
def Jw(r_:ring_Recorder)(memories2:List api_Memory)(power3:Int)(i:Int):Option (((List api_Memory)×Int×Int) ⊕ (Int×Bool×Int×ring_Recorder) ⊕ ((List api_Memory)×Int)):=
  if(decide (i<(r_.bank.spots.length:Int)))=true then
  (idx r_.bank.spots i).bind fun x=>
  if(decide (x.sector<0))=true then
  some (.inl (memories2,power3,(i64 (i+1))))
  else
  (idx memories2 i).bind fun x2=>
  (idx x2.Sectors x.sector).bind fun x3=>
  (idx memories2 i).bind fun x4=>
  (idx x2.Sectors x.sector).bind fun x5=>
  (QM x3 10 ([0]:List Int) power3).bind fun y2=>
  if(!y2.2.1)=true then
  some (.inr (.inl (y2.1,false,0,(ring_Recorder.mk (ring_bank.mk (memories2.set i.toNat (api_Memory.mk x2.Slots x2.Limit (x2.Sectors.set x.sector.toNat y2.2.2) x2.Wear x2.Bad)) r_.bank.spots) r_.copies true true r_.last r_.some_))))
  else
  some (.inl ((memories2.set i.toNat (api_Memory.mk x2.Slots x2.Limit (x2.Sectors.set x.sector.toNat y2.2.2) x2.Wear x2.Bad)),y2.1,(i64 (i+1))))
  else
  some (.inr (.inr (memories2,power3)))
def XK(r_:ring_Recorder)(power:Int):Option (Int×Bool×Int×ring_Recorder):=
  (Xe r_ power).bind fun y=>
  if(!decide (y=0))=true then
  some (0,false,y,r_)
  else
  ((loop (t3 (Jw r_)) (r_.bank.memories,power,0)):Option ((Int×Bool×Int×ring_Recorder) ⊕ ((List api_Memory)×Int))).bind (Sum.elim (fun q'=>some q') (t2 fun(memories:List api_Memory) (power2:Int)=>
  some (power2,true,0,(ring_Recorder.mk (ring_bank.mk memories r_.bank.spots) r_.copies true r_.stopped r_.last r_.some_))))
def ZfI(at_:Int)(data:List Int)(power3:Int)(out2:List Int)(i:Int):Option ((Int×(List Int)×Int) ⊕ ((List Int)×Int×Bool) ⊕ (Int×(List Int))):=
  if(decide (i<(data.length:Int)))=true then
  (idx data i).bind fun x=>
  if(decide (power3=0))=true then
  (idx out2 (i64 (at_+i))).bind fun x2=>
  (idx out2 (i64 (at_+i))).bind fun x3=>
  some (.inr (.inl ((out2.set (i64 (at_+i)).toNat (QD .u8 x2 (bor .u8 x 15))),0,false)))
  else
  (idx out2 (i64 (at_+i))).bind fun x4=>
  (idx out2 (i64 (at_+i))).bind fun x5=>
  some (.inl ((i64 (power3-1)),(out2.set (i64 (at_+i)).toNat (QD .u8 x4 x)),(i64 (i+1))))
  else
  some (.inr (.inr (power3,out2)))
def ZhB(s:List Int)(at_:Int)(data:List Int)(power:Int):Option ((List Int)×Int×Bool):=
  (apz 1 ([]:List Int) s).bind fun l=>
  ((loop (t3 (ZfI at_ data)) (power,l,0)):Option (((List Int)×Int×Bool) ⊕ (Int×(List Int)))).bind (Sum.elim (fun q'=>some q') (t2 fun(power2:Int) (out:List Int)=>
  some (out,power2,true)))
def Qc(r_:ref3_Recorder)(k:Int)(sector:Int)(at_:Int)(data:List Int):Option (Bool×ref3_Recorder):=
  (idx r_.list k).bind fun x=>
  (idx x.Sectors sector).bind fun x2=>
  (idx r_.list k).bind fun x3=>
  (idx x.Sectors sector).bind fun x4=>
  (ZhB x2 at_ data r_.power).bind fun y=>
  (idx r_.list k).bind fun x5=>
  (idx x5.Sectors sector).bind fun x6=>
  some (y.2.2,(ref3_Recorder.mk (r_.list.set k.toNat (api_Memory.mk x5.Slots x5.Limit (x5.Sectors.set sector.toNat y.1) x5.Wear x5.Bad)) r_.copies r_.stands r_.frozen r_.stopped r_.last r_.some_ y.2.1))
def Jt(r_:ref3_Recorder)(list2:List api_Memory)(copies2:Int)(frozen2:Bool)(stopped2:Bool)(last2:Int)(some_2:Bool)(power3:Int)(i:Int):Option (((List api_Memory)×Int×Bool×Bool×Int×Bool×Int×Int) ⊕ (Int×Bool×Int×ref3_Recorder) ⊕ ((List api_Memory)×Int×Bool×Bool×Int×Bool×Int)):=
  if(decide (i<(r_.stands.length:Int)))=true then
  (idx r_.stands i).bind fun x=>
  if((decide (0≤x.sector))==true)=true then
  (Qc (ref3_Recorder.mk list2 copies2 r_.stands frozen2 stopped2 last2 some_2 power3) i x.sector 10 ([0]:List Int)).bind fun y2=>
  if(true&&(!y2.1))=true then
  some (.inr (.inl (y2.2.power,false,0,(ref3_Recorder.mk y2.2.list y2.2.copies r_.stands y2.2.frozen true y2.2.last y2.2.some_ y2.2.power))))
  else
  some (.inl (y2.2.list,y2.2.copies,y2.2.frozen,y2.2.stopped,y2.2.last,y2.2.some_,y2.2.power,(i64 (i+1))))
  else
  (gd (false==true) () (none:Option Unit)).bind fun u=>
  if(false&&false)=true then
  some (.inr (.inl (power3,false,0,(ref3_Recorder.mk list2 copies2 r_.stands frozen2 true last2 some_2 power3))))
  else
  some (.inl (list2,copies2,frozen2,stopped2,last2,some_2,power3,(i64 (i+1))))
  else
  some (.inr (.inr (list2,copies2,frozen2,stopped2,last2,some_2,power3)))
def XD(r_:ref3_Recorder)(power:Int):Option (Int×Bool×Int×ref3_Recorder):=
  if r_.stopped=true then
  some (0,false,15,r_)
  else
  if r_.frozen=true then
  some (0,false,11,r_)
  else
  (Z8 power 0 1000000000).bind fun y=>
  if y=true then
  some (0,false,9,r_)
  else
  ((loop (t8 (Jt r_)) (r_.list,r_.copies,true,r_.stopped,r_.last,r_.some_,power,0)):Option ((Int×Bool×Int×ref3_Recorder) ⊕ ((List api_Memory)×Int×Bool×Bool×Int×Bool×Int))).bind (Sum.elim (fun q'=>some q') (t7 fun(list:List api_Memory) (copies:Int) (frozen:Bool) (stopped:Bool) (last:Int) (some_:Bool) (power2:Int)=>
  some (power2,true,0,(ref3_Recorder.mk list copies r_.stands frozen stopped last some_ power2))))
def Zcm(f:Vector Int 64)(out2:List api_Flaw)(i:Int):Option (((List api_Flaw)×Int) ⊕ ((List api_Flaw))):=
  if(decide (i<64))=true then
  (ZY f i).bind fun x=>
  if(decide (4095<x))=true then
  (app out2 ([(api_Flaw.mk i 5)]:List api_Flaw)).bind fun l=>
  some (.inl (l,(i64 (i+1))))
  else
  some (.inl (out2,(i64 (i+1))))
  else
  some (.inr out2)
def Zch(f:Vector Int 64)(out5:List api_Flaw)(i2:Int):Option (((List api_Flaw)×Int) ⊕ ((List api_Flaw))):=
  if(decide (i2<64))=true then
  (ZY f i2).bind fun x3=>
  (Zdm (i64 x3)).bind fun y3=>
  if(!y3)=true then
  (app out5 ([(api_Flaw.mk i2 2)]:List api_Flaw)).bind fun l3=>
  some (.inl (l3,(i64 (i2+1))))
  else
  some (.inl (out5,(i64 (i2+1))))
  else
  some (.inr out5)
def Zfo(f:Vector Int 64):Option (List api_Flaw):=
  ((loop (t2 (Zcm f)) ([],0)):Option (((List api_Flaw)))).bind (t1 fun(out:List api_Flaw)=>
  if(decide (0<(out.length:Int)))=true then
  some out
  else
  (((ZY f 0).bind fun x2=>
  (Je f).bind fun y=>
  (ZaV y).bind fun y2=>
  if(!decide ((i64 x2)=y2))=true then
  (app out ([(api_Flaw.mk 0 1)]:List api_Flaw)).bind fun l2=>
  some l2
  else
  some out):Option (((List api_Flaw)))).bind (t1 fun(out3:List api_Flaw)=>
  ((loop (t2 (Zch f)) (out3,1)):Option (((List api_Flaw)))).bind (t1 fun(out4:List api_Flaw)=>
  (((ZY f 61).bind fun x4=>
  (rem (i64 x4) 2048).bind fun q=>
  (Zel f).bind fun y4=>
  if(!decide (q=y4))=true then
  (app out4 ([(api_Flaw.mk 61 3)]:List api_Flaw)).bind fun l4=>
  some l4
  else
  some out4):Option (((List api_Flaw)))).bind (t1 fun(out6:List api_Flaw)=>
  (ZY f 62).bind fun x5=>
  (rem (i64 x5) 2048).bind fun q2=>
  (ZY f 63).bind fun x6=>
  (rem (i64 x6) 2048).bind fun q3=>
  (Zbx f).bind fun y5=>
  if(!decide ((i64 ((i64 (q2*2048))+q3))=y5))=true then
  (app out6 ([(api_Flaw.mk 62 4)]:List api_Flaw)).bind fun l5=>
  some l5
  else
  some out6))))
def ZdP(f:Vector Int 64):Option Bool:=
  (Zfo f).bind fun y=>
  some (decide ((y.length:Int)=0))
def ZdZ(w:Int):Option Bool:=
  (gd ((decide (w≤4095))==true) false (Zdm (i64 w))).bind fun y=>
  some ((decide (w≤4095))&&y)
def Zer(f:Vector Int 64):Option (Int×Bool):=
  (ZY f 1).bind fun x=>
  (ZdZ x).bind fun y=>
  (gd ((!y)==false) 0 (ZY f 2)).bind fun x2=>
  (gd ((!y)==false) false (ZdZ x2)).bind fun y2=>
  if((!y) || (!y2))=true then
  some (0,false)
  else
  (Je f).bind fun y3=>
  some (y3,true)
def Zcp(number:Int)(memories:Int)(copies:Int)(out2:List Int)(i:Int):Option (((List Int)×Int) ⊕ ((List Int))):=
  if(decide (i<copies))=true then
  (rem (i64 (number+i)) memories).bind fun q=>
  (apz 8 out2 ([q]:List Int)).bind fun l=>
  some (.inl (l,(i64 (i+1))))
  else
  some (.inr out2)
def Zdu(number:Int)(memories:Int)(copies:Int):Option ((List Int)×Int):=
  (Z8 number 0 4194303).bind fun y=>
  (gd (y==false) false (Z8 memories 1 8)).bind fun y2=>
  (gd ((y || y2)==false) false (Z8 copies 1 memories)).bind fun y3=>
  if((y || y2) || y3)=true then
  some ([],9)
  else
  ((loop (t2 (Zcp number memories copies)) ([],0)):Option (((List Int)))).bind (t1 fun(out:List Int)=>
  some (out,0))
def Q0(r_:ref3_Recorder)(k:Int):Option Bool:=
  (idx r_.stands k).bind fun x=>
  (gd ((decide (x.sector<0))==false) (ref3_stand.mk 0 0) (idx r_.stands k)).bind fun x2=>
  (gd ((decide (x.sector<0))==false) (api_Memory.mk 0 0 [] [] []) (idx r_.list k)).bind fun x3=>
  some ((decide (x.sector<0)) || (decide (x2.slot=x3.Slots)))
def J9(x:api_Memory)(x2:ref3_stand)(j:Int):Option ((Int) ⊕ (Int) ⊕ (Unit)):=
  if(decide (j≤(x.Sectors.length:Int)))=true then
  (rem (i64 (x2.sector+j)) (x.Sectors.length:Int)).bind fun q=>
  (idx x.Bad q).bind fun x3=>
  (gd ((!x3)==true) 0 (idx x.Wear q)).bind fun x4=>
  if((!x3)&&(decide (x4<x.Limit)))=true then
  some (.inr (.inl q))
  else
  some (.inl (i64 (j+1)))
  else
  some (.inr (.inr ()))
def Xd(r_:ref3_Recorder)(k:Int):Option Int:=
  (idx r_.list k).bind fun x=>
  (idx r_.stands k).bind fun x2=>
  ((loop (t1 (J9 x x2)) 1):Option ((Int) ⊕ (Unit))).bind (Sum.elim (fun q'=>some q') (t0 (some (-1))))
def Xo(sector:Int)(x:api_Memory)(best2:Int)(i:Int):Option ((Int×Int) ⊕ (Int)):=
  if(decide (i<(x.Sectors.length:Int)))=true then
  (idx x.Sectors i).bind fun x2=>
  (ZbZ x2).bind fun y=>
  if(y.2.2&&(!decide (i=sector)))=true then
  some (.inl ((max best2 y.1),(i64 (i+1))))
  else
  some (.inl (best2,(i64 (i+1))))
  else
  some (.inr best2)
def QT(r_:ref3_Recorder)(k:Int)(sector:Int):Option Int:=
  (((idx r_.list k).bind fun x=>
  loop (t2 (Xo sector x)) (0,0)):Option ((Int))).bind (t1 fun(best:Int)=>
  some (i64 (best+1)))
def ZcZ(l:List Int)(out2:List Int)(i:Int):Option (((List Int)×Int) ⊕ ((List Int))):=
  if(decide (i<(l.length:Int)))=true then
  (idx out2 i).bind fun x=>
  some (.inl ((out2.set i.toNat 255),(i64 (i+1))))
  else
  some (.inr out2)
def Zem(n:Int):Option (List Int):=
  (mkz 1 n 0).bind fun l=>
  ((loop (t2 (ZcZ l)) (l,0)):Option (((List Int)))).bind (t1 fun(out:List Int)=>
  some out)
def Zef(s:List Int)(power:Int):Option ((List Int)×Int×Bool):=
  ((if(decide (power=0))=true then
  (quo .i64 (s.length:Int) 2).bind fun q=>
  some q
  else
  some (s.length:Int)):Option ((Int))).bind (t1 fun(n:Int)=>
  (slc s n (s.length:Int)).bind fun l=>
  (Zem n).bind fun y=>
  (apz 1 y l).bind fun l2=>
  if(decide (power=0))=true then
  some (l2,0,false)
  else
  some (l2,(i64 (power-1)),true))
def Zdi(f:Vector Int 64)(i:Int):Option ((Int) ⊕ (Bool) ⊕ (Unit)):=
  if(decide (i<64))=true then
  (ZY f i).bind fun x=>
  if(decide (4095<x))=true then
  some (.inr (.inl true))
  else
  some (.inl (i64 (i+1)))
  else
  some (.inr (.inr ()))
def Zgc(f:Vector Int 64):Option Bool:=
  ((loop (t1 (Zdi f)) 0):Option ((Bool) ⊕ (Unit))).bind (Sum.elim (fun q'=>some q') (t0 (some false)))
def ZeU(f:Vector Int 64)(n:Int):Option Int:=
  (quo .i64 n 3).bind fun q=>
  (ZY f q).bind fun x=>
  (rem n 3).bind fun q2=>
  (shr .i64 (i64 x) (i64 (8-(i64 (q2*4))))).bind fun q3=>
  some (QD .i64 q3 15)
def Zcl(f:Vector Int 64)(l:List Int)(out2:List Int)(i:Int):Option (((List Int)×Int) ⊕ ((List Int))):=
  if(decide (i<(l.length:Int)))=true then
  (ZeU f (i64 (2*i))).bind fun y=>
  (ZeU f (i64 ((i64 (2*i))+1))).bind fun y2=>
  (idx out2 i).bind fun x=>
  some (.inl ((out2.set i.toNat (u8 (i64 ((i64 (16*y))+y2)))),(i64 (i+1))))
  else
  some (.inr out2)
def Zfq(f:Vector Int 64):Option (List Int):=
  (mks 96 0).bind fun l=>
  ((loop (t2 (Zcl f l)) (l,0)):Option (((List Int)))).bind (t1 fun(out:List Int)=>
  some out)
def ZbX(f:Vector Int 64):Option ((List Int)×Int):=
  (Zgc f).bind fun y=>
  if y=true then
  some ([],9)
  else
  (Zfq f).bind fun y2=>
  some (y2,0)
def X7(r_:ref3_Recorder)(k:Int)(f:Vector Int 64):Option (Bool×ref3_Recorder):=
  (((Q0 r_ k).bind fun y=>
  if y=true then
  (Xd r_ k).bind fun y2=>
  (QT r_ k y2).bind fun y3=>
  (idx r_.list k).bind fun x=>
  (idx x.Wear y2).bind fun x2=>
  (idx x.Wear y2).bind fun x3=>
  (idx (r_.list.set k.toNat (api_Memory.mk x.Slots x.Limit x.Sectors (x.Wear.set y2.toNat (i64 (x2+1))) x.Bad)) k).bind fun x6=>
  (idx x6.Sectors y2).bind fun x7=>
  (idx (r_.list.set k.toNat (api_Memory.mk x.Slots x.Limit x.Sectors (x.Wear.set y2.toNat (i64 (x2+1))) x.Bad)) k).bind fun x8=>
  (idx x6.Sectors y2).bind fun x9=>
  (Zef x7 r_.power).bind fun y4=>
  (idx (r_.list.set k.toNat (api_Memory.mk x.Slots x.Limit x.Sectors (x.Wear.set y2.toNat (i64 (x2+1))) x.Bad)) k).bind fun x10=>
  (idx x10.Sectors y2).bind fun x11=>
  (((gd ((!y4.2.2)==false) [] (ZcL y3)).bind fun y5=>
  if((!y4.2.2)==false)=true then
  (Qc (ref3_Recorder.mk ((r_.list.set k.toNat (api_Memory.mk x.Slots x.Limit x.Sectors (x.Wear.set y2.toNat (i64 (x2+1))) x.Bad)).set k.toNat (api_Memory.mk x10.Slots x10.Limit (x10.Sectors.set y2.toNat y4.1) x10.Wear x10.Bad)) r_.copies r_.stands r_.frozen r_.stopped r_.last r_.some_ y4.2.1) k y2 0 y5).bind fun y6=>
  if(false || (!y6.1))=true then
  some (.inl (false,(ref3_Recorder.mk y6.2.list y6.2.copies r_.stands y6.2.frozen y6.2.stopped y6.2.last y6.2.some_ y6.2.power)))
  else
  some (.inr (y6.2.list,y6.2.copies,y6.2.frozen,y6.2.stopped,y6.2.last,y6.2.some_,y6.2.power))
  else
  (gd (true==false) () (none:Option Unit)).bind fun u=>
  if(true || false)=true then
  some (.inl (false,(ref3_Recorder.mk ((r_.list.set k.toNat (api_Memory.mk x.Slots x.Limit x.Sectors (x.Wear.set y2.toNat (i64 (x2+1))) x.Bad)).set k.toNat (api_Memory.mk x10.Slots x10.Limit (x10.Sectors.set y2.toNat y4.1) x10.Wear x10.Bad)) r_.copies r_.stands r_.frozen r_.stopped r_.last r_.some_ y4.2.1)))
  else
  some (.inr (((r_.list.set k.toNat (api_Memory.mk x.Slots x.Limit x.Sectors (x.Wear.set y2.toNat (i64 (x2+1))) x.Bad)).set k.toNat (api_Memory.mk x10.Slots x10.Limit (x10.Sectors.set y2.toNat y4.1) x10.Wear x10.Bad)),r_.copies,r_.frozen,r_.stopped,r_.last,r_.some_,y4.2.1))):Option ((Bool×ref3_Recorder) ⊕ ((List api_Memory)×Int×Bool×Bool×Int×Bool×Int))).bind (Sum.elim (fun q'=>some (.inl q')) (t7 fun(list2:List api_Memory) (copies2:Int) (frozen2:Bool) (stopped2:Bool) (last2:Int) (some_2:Bool) (power2:Int)=>
  (idx r_.stands k).bind fun x15=>
  some (.inr (list2,copies2,(r_.stands.set k.toNat (ref3_stand.mk y2 0)),frozen2,stopped2,last2,some_2,power2))))
  else
  some (.inr (r_.list,r_.copies,r_.stands,r_.frozen,r_.stopped,r_.last,r_.some_,r_.power))):Option ((Bool×ref3_Recorder) ⊕ ((List api_Memory)×Int×(List ref3_stand)×Bool×Bool×Int×Bool×Int))).bind (Sum.elim (fun q'=>some q') (t8 fun(list:List api_Memory) (copies:Int) (stands:List ref3_stand) (frozen:Bool) (stopped:Bool) (last:Int) (some_:Bool) (power:Int)=>
  (idx stands k).bind fun x16=>
  (ZbX f).bind fun y7=>
  (((idx stands k).bind fun x17=>
  (Qc (ref3_Recorder.mk list copies stands frozen stopped last some_ power) k x17.sector (i64 (16+(i64 (x16.slot*97)))) y7.1).bind fun y8=>
  (gd ((!y8.1)==false) (ref3_stand.mk 0 0) (idx stands k)).bind fun x18=>
  if((!y8.1)==false)=true then
  (Qc (ref3_Recorder.mk y8.2.list y8.2.copies stands y8.2.frozen y8.2.stopped y8.2.last y8.2.some_ y8.2.power) k x18.sector (i64 ((i64 (16+(i64 (x16.slot*97))))+96)) ([0]:List Int)).bind fun y9=>
  if(false || (!y9.1))=true then
  some (.inl (false,(ref3_Recorder.mk y9.2.list y9.2.copies stands y9.2.frozen y9.2.stopped y9.2.last y9.2.some_ y9.2.power)))
  else
  some (.inr (y9.2.list,y9.2.copies,y9.2.frozen,y9.2.stopped,y9.2.last,y9.2.some_,y9.2.power))
  else
  (gd (true==false) () (none:Option Unit)).bind fun u2=>
  if(true || false)=true then
  some (.inl (false,(ref3_Recorder.mk y8.2.list y8.2.copies stands y8.2.frozen y8.2.stopped y8.2.last y8.2.some_ y8.2.power)))
  else
  some (.inr (y8.2.list,y8.2.copies,y8.2.frozen,y8.2.stopped,y8.2.last,y8.2.some_,y8.2.power))):Option ((Bool×ref3_Recorder) ⊕ ((List api_Memory)×Int×Bool×Bool×Int×Bool×Int))).bind (Sum.elim (fun q'=>some q') (t7 fun(list3:List api_Memory) (copies3:Int) (frozen3:Bool) (stopped3:Bool) (last3:Int) (some_3:Bool) (power3:Int)=>
  (idx stands k).bind fun x19=>
  (idx stands k).bind fun x20=>
  some (true,(ref3_Recorder.mk list3 copies3 (stands.set k.toNat (ref3_stand.mk x20.sector (i64 (x19.slot+1)))) frozen3 stopped3 last3 some_3 power3))))))
def XE(r_:ref3_Recorder)(y4:(List Int)×Int)(i:Int):Option ((Int) ⊕ (Int×Bool×Int×ref3_Recorder) ⊕ (Unit)):=
  if(decide (i<(y4.1.length:Int)))=true then
  (idx y4.1 i).bind fun x=>
  (Q0 r_ x).bind fun y5=>
  (gd (y5==true) 0 (Xd r_ x)).bind fun y6=>
  if(y5&&(decide (y6<0)))=true then
  some (.inr (.inl (0,false,4,r_)))
  else
  some (.inl (i64 (i+1)))
  else
  some (.inr (.inr ()))
def XJ(r_:ref3_Recorder)(y4:(List Int)×Int)(i2:Int):Option ((Int) ⊕ (Int×Bool×Int×ref3_Recorder) ⊕ (Unit)):=
  if(decide (i2<(y4.1.length:Int)))=true then
  (idx y4.1 i2).bind fun x2=>
  (Q0 r_ x2).bind fun y7=>
  (gd (y7==true) 0 (Xd r_ x2)).bind fun y8=>
  (gd (y7==true) 0 (QT r_ x2 y8)).bind fun y9=>
  if(y7&&(decide (1073741824<y9)))=true then
  some (.inr (.inl (0,false,3,r_)))
  else
  some (.inl (i64 (i2+1)))
  else
  some (.inr (.inr ()))
def Q9(f:Vector Int 64)(y4:(List Int)×Int)(list2:List api_Memory)(copies2:Int)(stands2:List ref3_stand)(frozen2:Bool)(stopped2:Bool)(last2:Int)(some_2:Bool)(power3:Int)(i3:Int):Option (((List api_Memory)×Int×(List ref3_stand)×Bool×Bool×Int×Bool×Int×Int) ⊕ (Int×Bool×Int×ref3_Recorder) ⊕ ((List api_Memory)×Int×(List ref3_stand)×Bool×Bool×Int×Bool×Int)):=
  if(decide (i3<(y4.1.length:Int)))=true then
  (idx y4.1 i3).bind fun x3=>
  (X7 (ref3_Recorder.mk list2 copies2 stands2 frozen2 stopped2 last2 some_2 power3) x3 f).bind fun y10=>
  if(!y10.1)=true then
  some (.inr (.inl (y10.2.power,false,0,(ref3_Recorder.mk y10.2.list y10.2.copies y10.2.stands y10.2.frozen true y10.2.last y10.2.some_ y10.2.power))))
  else
  some (.inl (y10.2.list,y10.2.copies,y10.2.stands,y10.2.frozen,y10.2.stopped,y10.2.last,y10.2.some_,y10.2.power,(i64 (i3+1))))
  else
  some (.inr (.inr (list2,copies2,stands2,frozen2,stopped2,last2,some_2,power3)))
def XH(r_:ref3_Recorder)(f:Vector Int 64)(power:Int):Option (Int×Bool×Int×ref3_Recorder):=
  if r_.stopped=true then
  some (0,false,15,r_)
  else
  if r_.frozen=true then
  some (0,false,11,r_)
  else
  (Z8 power 0 1000000000).bind fun y=>
  if y=true then
  some (0,false,9,r_)
  else
  (ZdP f).bind fun y2=>
  if(!y2)=true then
  some (0,false,2,r_)
  else
  (Zer f).bind fun y3=>
  (Zdu y3.1 (r_.list.length:Int) r_.copies).bind fun y4=>
  ((loop (t1 (XE r_ y4)) 0):Option ((Int×Bool×Int×ref3_Recorder) ⊕ (Unit))).bind (Sum.elim (fun q'=>some q') (t0 (((loop (t1 (XJ r_ y4)) 0):Option ((Int×Bool×Int×ref3_Recorder) ⊕ (Unit))).bind (Sum.elim (fun q'=>some q') (t0 (((loop (t9 (Q9 f y4)) (r_.list,r_.copies,r_.stands,r_.frozen,r_.stopped,r_.last,r_.some_,power,0)):Option ((Int×Bool×Int×ref3_Recorder) ⊕ ((List api_Memory)×Int×(List ref3_stand)×Bool×Bool×Int×Bool×Int))).bind (Sum.elim (fun q'=>some q') (t8 fun(list:List api_Memory) (copies:Int) (stands:List ref3_stand) (frozen:Bool) (stopped:Bool) (last:Int) (some_:Bool) (power2:Int)=>
  some (power2,true,0,(ref3_Recorder.mk list copies stands frozen stopped y3.1 true power2))))))))))
def ZaZ(r_:ring_Recorder):Option (Int×Bool):=
  some (r_.last,r_.some_)
def ZaY(r_:ref3_Recorder):Option (Int×Bool):=
  some (r_.last,r_.some_)
def Xn(r_:ref3_Recorder)(out2:List api_Memory)(i:Int):Option (((List api_Memory)×Int) ⊕ ((List api_Memory))):=
  if(decide (i<(r_.list.length:Int)))=true then
  (idx r_.list i).bind fun x=>
  (ZeY x).bind fun y=>
  (apz 88 out2 [y]).bind fun l=>
  some (.inl (l,(i64 (i+1))))
  else
  some (.inr out2)
def Xk(r_:ref3_Recorder):Option (List api_Memory):=
  ((loop (t2 (Xn r_)) ([],0)):Option (((List api_Memory)))).bind (t1 fun(out:List api_Memory)=>
  some out)
def Zy(s1:List api_Memory)(s2:List api_Memory)(eq:api_Memory→api_Memory→Option Bool)(i:Int):Option ((Int) ⊕ (Bool) ⊕ (Unit)):=
  if(decide (i<(s1.length:Int)))=true then
  (idx s1 i).bind fun x=>
  (idx s2 i).bind fun x2=>
  (eq x x2).bind fun y=>
  if(!y)=true then
  some (.inr (.inl false))
  else
  some (.inl (i64 (i+1)))
  else
  some (.inr (.inr ()))
def ZD(s1:List api_Memory)(s2:List api_Memory)(eq:api_Memory→api_Memory→Option Bool):Option Bool:=
  if(!decide ((s1.length:Int)=(s2.length:Int)))=true then
  some false
  else
  ((loop (t1 (Zy s1 s2 eq)) 0):Option ((Bool) ⊕ (Unit))).bind (Sum.elim (fun q'=>some q') (t0 (some true)))
def Qz(s1:List (List Int))(s2:List (List Int))(eq:(List Int)→(List Int)→Option Bool)(i:Int):Option ((Int) ⊕ (Bool) ⊕ (Unit)):=
  if(decide (i<(s1.length:Int)))=true then
  (idx s1 i).bind fun x=>
  (idx s2 i).bind fun x2=>
  (eq x x2).bind fun y=>
  if(!y)=true then
  some (.inr (.inl false))
  else
  some (.inl (i64 (i+1)))
  else
  some (.inr (.inr ()))
def Qm(s1:List (List Int))(s2:List (List Int))(eq:(List Int)→(List Int)→Option Bool):Option Bool:=
  if(!decide ((s1.length:Int)=(s2.length:Int)))=true then
  some false
  else
  ((loop (t1 (Qz s1 s2 eq)) 0):Option ((Bool) ⊕ (Unit))).bind (Sum.elim (fun q'=>some q') (t0 (some true)))
def Zea(a:List Int)(b:List Int):Option Bool:=
  some (decide ((ZaE a)=(ZaE b)))
def Jx(s1:List Int)(s2:List Int)(i:Int):Option ((Int) ⊕ (Bool) ⊕ (Unit)):=
  if(decide (i<(s1.length:Int)))=true then
  (idx s1 i).bind fun x=>
  (idx s2 i).bind fun x2=>
  if(!decide (x=x2))=true then
  some (.inr (.inl false))
  else
  some (.inl (i64 (i+1)))
  else
  some (.inr (.inr ()))
def Jp(s1:List Int)(s2:List Int):Option Bool:=
  if(!decide ((s1.length:Int)=(s2.length:Int)))=true then
  some false
  else
  ((loop (t1 (Jx s1 s2)) 0):Option ((Bool) ⊕ (Unit))).bind (Sum.elim (fun q'=>some q') (t0 (some true)))
def X6(s1:List Bool)(s2:List Bool)(i:Int):Option ((Int) ⊕ (Bool) ⊕ (Unit)):=
  if(decide (i<(s1.length:Int)))=true then
  (idx s1 i).bind fun x=>
  (idx s2 i).bind fun x2=>
  if(!(x==x2))=true then
  some (.inr (.inl false))
  else
  some (.inl (i64 (i+1)))
  else
  some (.inr (.inr ()))
def XW(s1:List Bool)(s2:List Bool):Option Bool:=
  if(!decide ((s1.length:Int)=(s2.length:Int)))=true then
  some false
  else
  ((loop (t1 (X6 s1 s2)) 0):Option ((Bool) ⊕ (Unit))).bind (Sum.elim (fun q'=>some q') (t0 (some true)))
def JG(a:api_Memory)(b:api_Memory):Option Bool:=
  (gd (((decide (a.Slots=b.Slots))&&(decide (a.Limit=b.Limit)))==true) false (Qm a.Sectors b.Sectors (fun z0 z1=>Zea z0 z1))).bind fun y=>
  (gd ((((decide (a.Slots=b.Slots))&&(decide (a.Limit=b.Limit)))&&y)==true) false (Jp a.Wear b.Wear)).bind fun y2=>
  (gd (((((decide (a.Slots=b.Slots))&&(decide (a.Limit=b.Limit)))&&y)&&y2)==true) false (XW a.Bad b.Bad)).bind fun y3=>
  some (((((decide (a.Slots=b.Slots))&&(decide (a.Limit=b.Limit)))&&y)&&y2)&&y3)
def ZZ(deeds:List law3_Deed)(memories3:List api_Memory)(spots3:List ring_spot)(copies6:Int)(frozen5:Bool)(stopped5:Bool)(last5:Int)(some_5:Bool)(list3:List api_Memory)(copies7:Int)(stands3:List ref3_stand)(frozen6:Bool)(stopped6:Bool)(last6:Int)(some_6:Bool)(power3:Int)(i2:Int):Option (((List api_Memory)×(List ring_spot)×Int×Bool×Bool×Int×Bool×(List api_Memory)×Int×(List ref3_stand)×Bool×Bool×Int×Bool×Int×Int) ⊕ (Bool) ⊕ ((List api_Memory)×(List ring_spot)×Int×Bool×Bool×Int×Bool×(List api_Memory)×Int×(List ref3_stand)×Bool×Bool×Int×Bool×Int)):=
  if(decide (i2<(deeds.length:Int)))=true then
  (idx deeds i2).bind fun x=>
  ((if x.Freeze=true then
  (XK (ring_Recorder.mk (ring_bank.mk memories3 spots3) copies6 frozen5 stopped5 last5 some_5) x.Power).bind fun y8=>
  (XD (ref3_Recorder.mk list3 copies7 stands3 frozen6 stopped6 last6 some_6 power3) x.Power).bind fun y9=>
  some (y8.2.2.2.bank.memories,y8.2.2.2.bank.spots,y8.2.2.2.copies,y8.2.2.2.frozen,y8.2.2.2.stopped,y8.2.2.2.last,y8.2.2.2.some_,y9.2.2.2.list,y9.2.2.2.copies,y9.2.2.2.stands,y9.2.2.2.frozen,y9.2.2.2.stopped,y9.2.2.2.last,y9.2.2.2.some_,y9.2.2.2.power,y8.1,y8.2.1,y8.2.2.1,y9.1,y9.2.1,y9.2.2.1)
  else
  (QB (ring_Recorder.mk (ring_bank.mk memories3 spots3) copies6 frozen5 stopped5 last5 some_5) x.Frame x.Power).bind fun y10=>
  (XH (ref3_Recorder.mk list3 copies7 stands3 frozen6 stopped6 last6 some_6 power3) x.Frame x.Power).bind fun y11=>
  some (y10.2.2.2.bank.memories,y10.2.2.2.bank.spots,y10.2.2.2.copies,y10.2.2.2.frozen,y10.2.2.2.stopped,y10.2.2.2.last,y10.2.2.2.some_,y11.2.2.2.list,y11.2.2.2.copies,y11.2.2.2.stands,y11.2.2.2.frozen,y11.2.2.2.stopped,y11.2.2.2.last,y11.2.2.2.some_,y11.2.2.2.power,y10.1,y10.2.1,y10.2.2.1,y11.1,y11.2.1,y11.2.2.1)):Option (((List api_Memory)×(List ring_spot)×Int×Bool×Bool×Int×Bool×(List api_Memory)×Int×(List ref3_stand)×Bool×Bool×Int×Bool×Int×Int×Bool×Int×Int×Bool×Int))).bind (t21 fun(memories4:List api_Memory) (spots4:List ring_spot) (copies8:Int) (frozen7:Bool) (stopped7:Bool) (last7:Int) (some_7:Bool) (list4:List api_Memory) (copies9:Int) (stands4:List ref3_stand) (frozen8:Bool) (stopped8:Bool) (last8:Int) (some_8:Bool) (power4:Int) (left:Int) (ok:Bool) (e:Int) (rest:Int) (is:Bool) (f:Int)=>
  (ZaZ (ring_Recorder.mk (ring_bank.mk memories4 spots4) copies8 frozen7 stopped7 last7 some_7)).bind fun y12=>
  (ZaY (ref3_Recorder.mk list4 copies9 stands4 frozen8 stopped8 last8 some_8 power4)).bind fun y13=>
  if(((((!decide (left=rest)) || (!(ok==is))) || (!decide (e=f))) || (!decide (y12.1=y13.1))) || (!(y12.2==y13.2)))=true then
  some (.inr (.inl false))
  else
  some (.inl (memories4,spots4,copies8,frozen7,stopped7,last7,some_7,list4,copies9,stands4,frozen8,stopped8,last8,some_8,power4,(i64 (i2+1)))))
  else
  some (.inr (.inr (memories3,spots3,copies6,frozen5,stopped5,last5,some_5,list3,copies7,stands3,frozen6,stopped6,last6,some_6,power3)))
def Z7(copies:Int)(deeds:List law3_Deed)(memories:List api_Memory)(spots:List ring_spot)(copies2:Int)(frozen:Bool)(stopped:Bool)(last:Int)(some_:Bool)(list:List api_Memory)(copies3:Int)(stands:List ref3_stand)(frozen2:Bool)(stopped2:Bool)(last2:Int)(some_2:Bool)(power:Int)(i:Int):Option (((List api_Memory)×(List ring_spot)×Int×Bool×Bool×Int×Bool×(List api_Memory)×Int×(List ref3_stand)×Bool×Bool×Int×Bool×Int×Int) ⊕ (Bool) ⊕ (Unit)):=
  if(decide (i<2))=true then
  ((loop (t16 (ZZ deeds)) (memories,spots,copies2,frozen,stopped,last,some_,list,copies3,stands,frozen2,stopped2,last2,some_2,power,0)):Option ((Bool) ⊕ ((List api_Memory)×(List ring_spot)×Int×Bool×Bool×Int×Bool×(List api_Memory)×Int×(List ref3_stand)×Bool×Bool×Int×Bool×Int))).bind (Sum.elim (fun q'=>some (.inr (.inl q'))) (t15 fun(memories2:List api_Memory) (spots2:List ring_spot) (copies4:Int) (frozen3:Bool) (stopped3:Bool) (last3:Int) (some_3:Bool) (list2:List api_Memory) (copies5:Int) (stands2:List ref3_stand) (frozen4:Bool) (stopped4:Bool) (last4:Int) (some_4:Bool) (power2:Int)=>
  (Z6 (ring_Recorder.mk (ring_bank.mk memories2 spots2) copies4 frozen3 stopped3 last3 some_3)).bind fun y14=>
  (Xk (ref3_Recorder.mk list2 copies5 stands2 frozen4 stopped4 last4 some_4 power2)).bind fun y15=>
  (ZD y14 y15 (fun z0 z1=>JG z0 z1)).bind fun y16=>
  if(!y16)=true then
  some (.inr (.inl false))
  else
  (Jy y14 copies).bind (Sum.elim (fun y17=>
  (JV y15 copies).bind (Sum.elim (fun y18=>
  if((!decide (y17=0)) || (!decide (y18=0)))=true then
  some (.inr (.inl false))
  else
  none) (fun y18=>
  if((!decide (y17=0)) || (!decide (y18.2=0)))=true then
  some (.inr (.inl false))
  else
  none))) (fun y17=>
  (JV y15 copies).bind (Sum.elim (fun y19=>
  if((!decide (y17.2=0)) || (!decide (y19=0)))=true then
  some (.inr (.inl false))
  else
  none) (fun y19=>
  if((!decide (y17.2=0)) || (!decide (y19.2=0)))=true then
  some (.inr (.inl false))
  else
  some (.inl (y17.1.bank.memories,y17.1.bank.spots,y17.1.copies,y17.1.frozen,y17.1.stopped,y17.1.last,y17.1.some_,y19.1.list,y19.1.copies,y19.1.stands,y19.1.frozen,y19.1.stopped,y19.1.last,y19.1.some_,y19.1.power,(i64 (i+1))))))))))
  else
  some (.inr (.inr ()))
def Xx(l:List api_Memory)(copies:Int)(deeds:List law3_Deed):Option Bool:=
  (Jy l copies).bind (Sum.elim (fun y=>
  (JV l copies).bind (Sum.elim (fun y2=>
  if((!decide (y=y2)) || (!decide (y=0)))=true then
  (gd ((decide (y=y2))==true) false Zbc).bind fun y3=>
  some ((decide (y=y2))&&y3)
  else
  none) (fun y2=>
  if((!decide (y=y2.2)) || (!decide (y=0)))=true then
  (gd ((decide (y=y2.2))==true) false Zbc).bind fun y4=>
  some ((decide (y=y2.2))&&y4)
  else
  none))) (fun y=>
  (JV l copies).bind (Sum.elim (fun y5=>
  if((!decide (y.2=y5)) || (!decide (y.2=0)))=true then
  (gd ((decide (y.2=y5))==true) false Zbc).bind fun y6=>
  some ((decide (y.2=y5))&&y6)
  else
  none) (fun y5=>
  if((!decide (y.2=y5.2)) || (!decide (y.2=0)))=true then
  (gd ((decide (y.2=y5.2))==true) false Zbc).bind fun y7=>
  some ((decide (y.2=y5.2))&&y7)
  else
  ((loop (t16 (Z7 copies deeds)) (y.1.bank.memories,y.1.bank.spots,y.1.copies,y.1.frozen,y.1.stopped,y.1.last,y.1.some_,y5.1.list,y5.1.copies,y5.1.stands,y5.1.frozen,y5.1.stopped,y5.1.last,y5.1.some_,y5.1.power,0)):Option ((Bool) ⊕ (Unit))).bind (Sum.elim (fun q'=>some q') (t0 ((Zbc).bind fun y20=>
  some y20)))))))
end
end Go.Vx
