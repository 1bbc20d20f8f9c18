/- A text of the proof: a verified executor of the program form, or the contracts of the functions that the law reaches. -/
import Derived.Test.YtjjknklgafdeiaaGreatDoorShLib
set_option linter.all false
namespace Go.Vx
open Go Go.RowKit
set_option linter.unusedVariables false
structure api_Memory where
  Slots:Int
  Limit:Int
  Sectors:List (List Int)
  Wear:List Int
  Bad:List Bool
structure api_Kept where
  Memory:Int
  Sector:Int
  Sequence:Int
  Slot:Int
  Frame:Vector Int 64
structure api_Piece where
  Bytes:List Int
  Half:Bool
structure api_Rest where
  Number:Int
  Frame:Vector Int 64
  States:Vector Int 64
  Sound:Bool
  Copies:Int
  Conflict:Bool
structure api_Found where
  At:Int
  Frame:Vector Int 64
structure salvage_finder where
  h_:List Int
  certain:List api_Found
  numbers:List Int
  at_:Unit
structure api_Flaw where
  Word:Int
  Kind:Int
structure ring_spot where
  sector:Int
  slot:Int
structure ring_bank where
  memories:List api_Memory
  spots:List ring_spot
structure ring_Recorder where
  bank:ring_bank
  copies:Int
  frozen:Bool
  stopped:Bool
  last:Int
  some_:Bool
noncomputable def Zaa(x:Int):Option Int:=
  (shr .u16 x 8).bind fun q=>
  (Znp [0,1,1,2,1,2,2,3,1,2,2,3,2,3,3,4,1,2,2,3,2,3,3,4,2,3,3,4,3,4,4,5,1,2,2,3,2,3,3,4,2,3,3,4,3,4,4,5,2,3,3,4,3,4,4,5,3,4,4,5,4,5,5,6,1,2,2,3,2,3,3,4,2,3,3,4,3,4,4,5,2,3,3,4,3,4,4,5,3,4,4,5,4,5,5,6,2,3,3,4,3,4,4,5,3,4,4,5,4,5,5,6,3,4,4,5,4,5,5,6,4,5,5,6,5,6,6,7,1,2,2,3,2,3,3,4,2,3,3,4,3,4,4,5,2,3,3,4,3,4,4,5,3,4,4,5,4,5,5,6,2,3,3,4,3,4,4,5,3,4,4,5,4,5,5,6,3,4,4,5,4,5,5,6,4,5,5,6,5,6,6,7,2,3,3,4,3,4,4,5,3,4,4,5,4,5,5,6,3,4,4,5,4,5,5,6,4,5,5,6,5,6,6,7,3,4,4,5,4,5,5,6,4,5,5,6,5,6,6,7,4,5,5,6,5,6,6,7,5,6,6,7,6,7,7,8] q).bind fun b=>
  (Znp [0,1,1,2,1,2,2,3,1,2,2,3,2,3,3,4,1,2,2,3,2,3,3,4,2,3,3,4,3,4,4,5,1,2,2,3,2,3,3,4,2,3,3,4,3,4,4,5,2,3,3,4,3,4,4,5,3,4,4,5,4,5,5,6,1,2,2,3,2,3,3,4,2,3,3,4,3,4,4,5,2,3,3,4,3,4,4,5,3,4,4,5,4,5,5,6,2,3,3,4,3,4,4,5,3,4,4,5,4,5,5,6,3,4,4,5,4,5,5,6,4,5,5,6,5,6,6,7,1,2,2,3,2,3,3,4,2,3,3,4,3,4,4,5,2,3,3,4,3,4,4,5,3,4,4,5,4,5,5,6,2,3,3,4,3,4,4,5,3,4,4,5,4,5,5,6,3,4,4,5,4,5,5,6,4,5,5,6,5,6,6,7,2,3,3,4,3,4,4,5,3,4,4,5,4,5,5,6,3,4,4,5,4,5,5,6,4,5,5,6,5,6,6,7,3,4,4,5,4,5,5,6,4,5,5,6,5,6,6,7,4,5,5,6,5,6,6,7,5,6,6,7,6,7,7,8] (XF .u16 x 255)).bind fun b2=>
  some (i64 (u8 (b+b2)))
noncomputable def J5(w:Int):Option Bool:=
  (gd ((decide (w≤4095))==true) 0 (Zaa w)).bind fun y=>
  (gd ((decide (w≤4095))==true) 0 (rem y 2)).bind fun q=>
  some ((decide (w≤4095))&&(decide (q=1)))
noncomputable def Xa(data:Int):Option Int:=
  (J5 (u16 data)).bind fun y=>
  if(!y)=true then
  some (bor .u16 (u16 data) 2048)
  else
  some (u16 data)
noncomputable def Xl(w:Int):Option Int:=
  some (i64 (XF .u16 w 2047))
noncomputable def Xe(f:Vector Int 64):Option Int:=
  (ZA f 1).bind fun x=>
  (Xl x).bind fun y=>
  (ZA f 2).bind fun x2=>
  (Xl x2).bind fun y2=>
  (shl .i64 y2 11).bind fun q=>
  some (bor .i64 y q)
def gv_frame_syncs:Vector Int 4:= #v[583,1464,2631,3512]
noncomputable def JE(f:Vector Int 64)(n2:Int)(i:Int):Option ((Int×Int) ⊕ (Int)):=
  if(decide (i<60))=true then
  (ZA f (i64 (i+1))).bind fun x=>
  (Xl x).bind fun y=>
  some (.inl ((Zaq .i64 n2 y),(i64 (i+1))))
  else
  some (.inr n2)
noncomputable def Jl(f:Vector Int 64):Option Int:=
  ((loop (t2 (JE f)) (0,0)):Option ((Int))).bind (t1 fun(n:Int)=>
  some n)
noncomputable def Xu(f:Vector Int 64)(i:Int)(n4:Int)(k:Int):Option ((Int×Int) ⊕ (Int)):=
  if(decide (0≤k))=true then
  (shl .i64 n4 1).bind fun q=>
  (ZA f i).bind fun x=>
  (shr .u16 x k).bind fun q2=>
  if(!((!decide ((XF .i64 n4 2097152)=0))==(decide ((XF .u16 q2 1)=1))))=true then
  some (.inl ((Zaq .i64 (XF .i64 q 4194303) 2097167),(i64 (k-1))))
  else
  some (.inl ((XF .i64 q 4194303),(i64 (k-1))))
  else
  some (.inr n4)
noncomputable def XR(f:Vector Int 64)(n2:Int)(i:Int):Option ((Int×Int) ⊕ (Int)):=
  if(decide (i<62))=true then
  ((loop (t2 (Xu f i)) (n2,11)):Option ((Int))).bind (t1 fun(n3:Int)=>
  some (.inl (n3,(i64 (i+1)))))
  else
  some (.inr n2)
noncomputable def Xw(f:Vector Int 64):Option Int:=
  ((loop (t2 (XR f)) (0,0)):Option ((Int))).bind (t1 fun(n:Int)=>
  some n)
noncomputable def Zck(f:Vector Int 64):Option (Vector Int 64):=
  (Xe f).bind fun y=>
  (rem y 4).bind fun q=>
  (ZA gv_frame_syncs q).bind fun x=>
  (ZA f 0).bind fun x2=>
  (Jl (Qr f 0 x)).bind fun y2=>
  (Xa y2).bind fun y3=>
  (ZA (Qr f 0 x) 61).bind fun x3=>
  (Xw (Qr (Qr f 0 x) 61 y3)).bind fun y4=>
  (shr .i64 y4 11).bind fun q2=>
  (Xa q2).bind fun y5=>
  (Xa (XF .i64 y4 2047)).bind fun y6=>
  (ZA (Qr (Qr f 0 x) 61 y3) 62).bind fun x4=>
  (ZA (Qr (Qr (Qr f 0 x) 61 y3) 62 y5) 63).bind fun x5=>
  some (Qr (Qr (Qr (Qr f 0 x) 61 y3) 62 y5) 63 y6)
noncomputable def Zdr(data:List Int)(f2:Vector Int 64)(i:Int):Option (((Vector Int 64)×Int) ⊕ ((Vector Int 64)×Int) ⊕ ((Vector Int 64))):=
  if(decide (i<(data.length:Int)))=true then
  (idx data i).bind fun x3=>
  if((decide (x3<0)) || (decide (2047<x3)))=true then
  some (.inr (.inl ((#v[0,0,0,0,0,0,0,0,0,0,0,0,0,0,0,0,0,0,0,0,0,0,0,0,0,0,0,0,0,0,0,0,0,0,0,0,0,0,0,0,0,0,0,0,0,0,0,0,0,0,0,0,0,0,0,0,0,0,0,0,0,0,0,0]:Vector Int 64),9)))
  else
  (Xa x3).bind fun y3=>
  (ZA f2 (i64 (3+i))).bind fun x4=>
  some (.inl ((Qr f2 (i64 (3+i)) y3),(i64 (i+1))))
  else
  some (.inr (.inr f2))
noncomputable def Zew(number:Int)(data:List Int):Option ((Vector Int 64)×Int):=
  if((decide (number<0)) || (decide (4194304≤number)))=true then
  some ((#v[0,0,0,0,0,0,0,0,0,0,0,0,0,0,0,0,0,0,0,0,0,0,0,0,0,0,0,0,0,0,0,0,0,0,0,0,0,0,0,0,0,0,0,0,0,0,0,0,0,0,0,0,0,0,0,0,0,0,0,0,0,0,0,0]:Vector Int 64),9)
  else
  if(!decide ((data.length:Int)=58))=true then
  some ((#v[0,0,0,0,0,0,0,0,0,0,0,0,0,0,0,0,0,0,0,0,0,0,0,0,0,0,0,0,0,0,0,0,0,0,0,0,0,0,0,0,0,0,0,0,0,0,0,0,0,0,0,0,0,0,0,0,0,0,0,0,0,0,0,0]:Vector Int 64),3)
  else
  (Xa (XF .i64 number 2047)).bind fun y=>
  (shr .i64 number 11).bind fun q=>
  (Xa q).bind fun y2=>
  (ZA (Vector.replicate 64 (0:Int)) 1).bind fun x=>
  (ZA (Qr (Vector.replicate 64 0) 1 y) 2).bind fun x2=>
  ((loop (t2 (Zdr data)) ((Qr (Qr (Vector.replicate 64 0) 1 y) 2 y2),0)):Option (((Vector Int 64)×Int) ⊕ ((Vector Int 64)))).bind (Sum.elim (fun q'=>some q') (t1 fun(f:Vector Int 64)=>
  (Zck f).bind fun y4=>
  some (y4,0)))
noncomputable def ZdF:Option Bool:=
  (mks 58 0).bind fun l=>
  (idx l 0).bind fun x=>
  (Zew 2050 (l.set (Int.toNat 0) 5)).bind fun y=>
  (gd ((decide (y.2=0))==true) 0 (ZA y.1 0)).bind fun x2=>
  (gd (((decide (y.2=0))&&(decide (x2=2631)))==true) 0 (ZA y.1 1)).bind fun x3=>
  (gd ((((decide (y.2=0))&&(decide (x2=2631)))&&(decide (x3=2)))==true) 0 (ZA y.1 2)).bind fun x4=>
  (gd (((((decide (y.2=0))&&(decide (x2=2631)))&&(decide (x3=2)))&&(decide (x4=1)))==true) 0 (ZA y.1 3)).bind fun x5=>
  some (((((decide (y.2=0))&&(decide (x2=2631)))&&(decide (x3=2)))&&(decide (x4=1)))&&(decide (x5=2053)))
noncomputable def Xb(n:Int)(low:Int)(high:Int):Option Bool:=
  some ((decide (low≤n))&&(decide (n≤high)))
noncomputable def Jq(slots:Int):Option Int:=
  some (i64 (16+(i64 (slots*97))))
noncomputable def QH(m:api_Memory)(i:Int):Option ((Int) ⊕ (Int) ⊕ (Unit)):=
  if(decide (i<(m.Sectors.length:Int)))=true then
  (idx m.Sectors i).bind fun x=>
  (Jq m.Slots).bind fun y4=>
  if(!decide ((x.length:Int)=y4))=true then
  some (.inr (.inl 3))
  else
  (idx m.Wear i).bind fun x2=>
  (Xb x2 0 m.Limit).bind fun y5=>
  if(!y5)=true then
  some (.inr (.inl 9))
  else
  some (.inl (i64 (i+1)))
  else
  some (.inr (.inr ()))
noncomputable def Q5(m:api_Memory):Option Int:=
  (Xb m.Slots 1 64).bind fun y=>
  (gd ((!y)==false) false (Xb m.Limit 1 1000000)).bind fun y2=>
  (gd (((!y) || (!y2))==false) false (Xb (m.Sectors.length:Int) 2 64)).bind fun y3=>
  if(((!y) || (!y2)) || (!y3))=true then
  some 9
  else
  if((!decide ((m.Wear.length:Int)=(m.Sectors.length:Int))) || (!decide ((m.Bad.length:Int)=(m.Sectors.length:Int))))=true then
  some 2
  else
  ((loop (t1 (QH m)) 0):Option ((Int) ⊕ (Unit))).bind (Sum.elim (fun q'=>some q') (t0 (some 0)))
noncomputable def ring_checkAll_L1(l:List api_Memory)(i:Int):Option ((Int) ⊕ (Int) ⊕ (Unit)):=
  if(decide (i<(l.length:Int)))=true then
  (idx l i).bind fun x=>
  (Q5 x).bind fun y2=>
  if(!decide (y2=0))=true then
  some (.inr (.inl y2))
  else
  some (.inl (i64 (i+1)))
  else
  some (.inr (.inr ()))
noncomputable def Jn(l:List api_Memory):Option Int:=
  (Xb (l.length:Int) 1 8).bind fun y=>
  if(!y)=true then
  some 3
  else
  ((loop (t1 (ring_checkAll_L1 l)) 0):Option ((Int) ⊕ (Unit))).bind (Sum.elim (fun q'=>some q') (t0 (some 0)))
noncomputable def JA(sequence:Int)(out2:List Int)(shift:Int):Option (((List Int)×Int) ⊕ ((List Int))):=
  if(decide (0≤shift))=true then
  (shr .i64 sequence shift).bind fun q=>
  (apz 1 out2 ([(u8 q)]:List Int)).bind fun l=>
  some (.inl (l,(i64 (shift-8))))
  else
  some (.inr out2)
noncomputable def Jt(out:List Int)(out4:List Int)(i:Int):Option (((List Int)×Int) ⊕ ((List Int))):=
  if(decide (i<((Int.toNat (6-2):Nat):Int)))=true then
  (ck (decide ((0:Int)≤i)&&decide (i<((Int.toNat (6-2):Nat):Int)))).bind fun u2=>
  (idx out (2+i)).bind fun x2=>
  (apz 1 out4 ([(Zaq .u8 255 x2)]:List Int)).bind fun l2=>
  some (.inl (l2,(i64 (i+1))))
  else
  some (.inr out4)
noncomputable def Zc0(sequence:Int):Option (List Int):=
  ((loop (t2 (JA sequence)) (([79,66]:List Int),24)):Option (((List Int)))).bind (t1 fun(out:List Int)=>
  (((slp out 2 6).bind fun u=>
  loop (t2 (Jt out)) (out,0)):Option (((List Int)))).bind (t1 fun(out3:List Int)=>
  some out3))
noncomputable def XH(s1:List Int)(s2:List Int)(i:Int):Option ((Int) ⊕ (Bool) ⊕ (Unit)):=
  if(decide (i<(s1.length:Int)))=true then
  (idx s1 i).bind fun x=>
  (idx s2 i).bind fun x2=>
  if(!decide (x=x2))=true then
  some (.inr (.inl false))
  else
  some (.inl (i64 (i+1)))
  else
  some (.inr (.inr ()))
noncomputable def XC(s1:List Int)(s2:List Int):Option Bool:=
  if(!decide ((s1.length:Int)=(s2.length:Int)))=true then
  some false
  else
  ((loop (t1 (XH s1 s2)) 0):Option ((Bool) ⊕ (Unit))).bind (Sum.elim (fun q'=>some q') (t0 (some true)))
noncomputable def ZcO(s:List Int):Option (Int×Bool×Bool):=
  if(decide ((s.length:Int)<16))=true then
  some (0,false,false)
  else
  (slc s 0 16).bind fun l=>
  (tov 16 l).bind fun v=>
  (ZA v 2).bind fun x=>
  (shl .i64 (i64 x) 24).bind fun q=>
  (ZA v 3).bind fun x2=>
  (shl .i64 (i64 x2) 16).bind fun q2=>
  (ZA v 4).bind fun x3=>
  (shl .i64 (i64 x3) 8).bind fun q3=>
  (ZA v 5).bind fun x4=>
  (Xb (bor .i64 (bor .i64 (bor .i64 q q2) q3) (i64 x4)) 1 1073741824).bind fun y=>
  (gd ((!y)==false) [] (slc v.toList 0 10)).bind fun l2=>
  (gd ((!y)==false) [] (Zc0 (bor .i64 (bor .i64 (bor .i64 q q2) q3) (i64 x4)))).bind fun y2=>
  (gd ((!y)==false) false (XC l2 y2)).bind fun y3=>
  if((!y) || (!y3))=true then
  some (0,false,false)
  else
  (ZA v 10).bind fun x5=>
  some ((bor .i64 (bor .i64 (bor .i64 q q2) q3) (i64 x4)),(!decide (x5=255)),true)
noncomputable def ZT(a:Int)(cmp:Int→Int→Option Int)(o3:List Int)(j:Int):Option (((List Int)×Int) ⊕ ((List Int))):=
  (gd ((decide (a<j))==true) 0 (idx o3 j)).bind fun x=>
  (gd ((decide (a<j))==true) 0 (idx o3 (i64 (j-1)))).bind fun x2=>
  (gd ((decide (a<j))==true) 0 (cmp x x2)).bind fun y=>
  if((decide (a<j))&&(decide (y<0)))=true then
  (idx o3 (i64 (j-1))).bind fun x3=>
  (idx o3 j).bind fun x4=>
  (idx o3 j).bind fun x5=>
  (idx (o3.set j.toNat x3) (i64 (j-1))).bind fun x6=>
  some (.inl (((o3.set j.toNat x3).set (i64 (j-1)).toNat x4),(i64 (j-1))))
  else
  some (.inr o3)
noncomputable def ZM(a:Int)(b:Int)(cmp:Int→Int→Option Int)(o:List Int)(i:Int):Option (((List Int)×Int) ⊕ ((List Int))):=
  if(decide (i<b))=true then
  ((loop (t2 (ZT a cmp)) (o,i)):Option (((List Int)))).bind (t1 fun(o2:List Int)=>
  some (.inl (o2,(i64 (i+1)))))
  else
  some (.inr o)
noncomputable def ZQ(data:List Int)(a:Int)(b:Int)(cmp:Int→Int→Option Int):Option (List Int):=
  loop (t2 (ZM a b cmp)) (data,(i64 (a+1)))
noncomputable def Qi(a:Int)(b:Int)(n:Int)(o:List Int)(i:Int):Option (((List Int)×Int) ⊕ ((List Int))):=
  if(decide (i<n))=true then
  (idx o (i64 (b+i))).bind fun x=>
  (idx o (i64 (a+i))).bind fun x2=>
  (idx o (i64 (a+i))).bind fun x3=>
  (idx (o.set (i64 (a+i)).toNat x) (i64 (b+i))).bind fun x4=>
  some (.inl (((o.set (i64 (a+i)).toNat x).set (i64 (b+i)).toNat x2),(i64 (i+1))))
  else
  some (.inr o)
noncomputable def ZZ(data:List Int)(a:Int)(b:Int)(n:Int)(cmp:Int→Int→Option Int):Option (List Int):=
  loop (t2 (Qi a b n)) (data,0)
noncomputable def Qo(m:Int)(cmp:Int→Int→Option Int)(o2:List Int)(i2:Int)(j:Int):Option (((List Int)×Int×Int) ⊕ ((List Int)×Int)):=
  if(!decide (i2=j))=true then
  if(decide (j<i2))=true then
  (ZZ o2 (i64 (m-i2)) m j cmp).bind fun y=>
  some (.inl (y,(i64 (i2-j)),j))
  else
  (ZZ o2 (i64 (m-i2)) (i64 ((i64 (m+j))-i2)) i2 cmp).bind fun y2=>
  some (.inl (y2,i2,(i64 (j-i2))))
  else
  some (.inr (o2,i2))
noncomputable def Qq(data:List Int)(a:Int)(m:Int)(b:Int)(cmp:Int→Int→Option Int):Option (List Int):=
  ((loop (t3 (Qo m cmp)) (data,(i64 (m-a)),(i64 (b-m)))):Option (((List Int)×Int))).bind (t2 fun(o:List Int) (i:Int)=>
  (ZZ o (i64 (m-i)) m i cmp).bind fun y3=>
  some y3)
noncomputable def Qx(data:List Int)(a:Int)(cmp:Int→Int→Option Int)(i2:Int)(j:Int):Option ((Int×Int) ⊕ (Int)):=
  if(decide (i2<j))=true then
  (shr .u64 (u64 (i64 (i2+j))) 1).bind fun q=>
  (idx data (i64 q)).bind fun x=>
  (idx data a).bind fun x2=>
  (cmp x x2).bind fun y=>
  if(decide (y<0))=true then
  some (.inl ((i64 ((i64 q)+1)),j))
  else
  some (.inl (i2,(i64 q)))
  else
  some (.inr i2)
noncomputable def Z0(i:Int)(o2:List Int)(k:Int):Option (((List Int)×Int) ⊕ ((List Int))):=
  if(decide (k<(i64 (i-1))))=true then
  (idx o2 (i64 (k+1))).bind fun x3=>
  (idx o2 k).bind fun x4=>
  (idx o2 k).bind fun x5=>
  (idx (o2.set k.toNat x3) (i64 (k+1))).bind fun x6=>
  some (.inl (((o2.set k.toNat x3).set (i64 (k+1)).toNat x4),(i64 (k+1))))
  else
  some (.inr o2)
noncomputable def Qv(data:List Int)(m:Int)(cmp:Int→Int→Option Int)(i4:Int)(j2:Int):Option ((Int×Int) ⊕ (Int)):=
  if(decide (i4<j2))=true then
  (shr .u64 (u64 (i64 (i4+j2))) 1).bind fun q2=>
  (idx data m).bind fun x7=>
  (idx data (i64 q2)).bind fun x8=>
  (cmp x7 x8).bind fun y2=>
  if(!(decide (y2<0)))=true then
  some (.inl ((i64 ((i64 q2)+1)),j2))
  else
  some (.inl (i4,(i64 q2)))
  else
  some (.inr i4)
noncomputable def Z3(i3:Int)(o4:List Int)(k2:Int):Option (((List Int)×Int) ⊕ ((List Int))):=
  if(decide (i3<k2))=true then
  (idx o4 (i64 (k2-1))).bind fun x9=>
  (idx o4 k2).bind fun x10=>
  (idx o4 k2).bind fun x11=>
  (idx (o4.set k2.toNat x9) (i64 (k2-1))).bind fun x12=>
  some (.inl (((o4.set k2.toNat x9).set (i64 (k2-1)).toNat x10),(i64 (k2-1))))
  else
  some (.inr o4)
noncomputable def QM(data:List Int)(m:Int)(cmp:Int→Int→Option Int)(q3:Int)(start3:Int)(r_2:Int):Option ((Int×Int) ⊕ (Int)):=
  if(decide (start3<r_2))=true then
  (shr .u64 (u64 (i64 (start3+r_2))) 1).bind fun q4=>
  (idx data (i64 ((i64 ((i64 ((i64 q3)+m))-1))-(i64 q4)))).bind fun x13=>
  (idx data (i64 q4)).bind fun x14=>
  (cmp x13 x14).bind fun y3=>
  if(!(decide (y3<0)))=true then
  some (.inl ((i64 ((i64 q4)+1)),r_2))
  else
  some (.inl (start3,(i64 q4)))
  else
  some (.inr start3)
noncomputable def Qm(rec_:List Int→Int→Int→Int→(Int→Int→Option Int)→Option (List Int))(data:List Int)(a:Int)(m:Int)(b:Int)(cmp:Int→Int→Option Int):Option (List Int):=
  if(decide ((i64 (m-a))=1))=true then
  ((loop (t2 (Qx data a cmp)) (m,b)):Option ((Int))).bind (t1 fun(i:Int)=>
  ((loop (t2 (Z0 i)) (data,a)):Option (((List Int)))).bind (t1 fun(o:List Int)=>
  some o))
  else
  if(decide ((i64 (b-m))=1))=true then
  ((loop (t2 (Qv data m cmp)) (a,m)):Option ((Int))).bind (t1 fun(i3:Int)=>
  ((loop (t2 (Z3 i3)) (data,m)):Option (((List Int)))).bind (t1 fun(o3:List Int)=>
  some o3))
  else
  (shr .u64 (u64 (i64 (a+b))) 1).bind fun q3=>
  ((if(decide ((i64 q3)<m))=true then
  some ((i64 ((i64 ((i64 q3)+m))-b)),(i64 q3))
  else
  some (a,m)):Option ((Int×Int))).bind (t2 fun(start:Int) (r_:Int)=>
  ((loop (t2 (QM data m cmp q3)) (start,r_)):Option ((Int))).bind (t1 fun(start2:Int)=>
  ((if((decide (start2<m))&&(decide (m<(i64 ((i64 ((i64 q3)+m))-start2)))))=true then
  (Qq data start2 m (i64 ((i64 ((i64 q3)+m))-start2)) cmp).bind fun y4=>
  some y4
  else
  some data):Option (((List Int)))).bind (t1 fun(o5:List Int)=>
  ((if((decide (a<start2))&&(decide (start2<(i64 q3))))=true then
  (rec_ o5 a start2 (i64 q3) cmp).bind fun y5=>
  some y5
  else
  some o5):Option (((List Int)))).bind (t1 fun(o6:List Int)=>
  if((decide ((i64 q3)<(i64 ((i64 ((i64 q3)+m))-start2))))&&(decide ((i64 ((i64 ((i64 q3)+m))-start2))<b)))=true then
  (rec_ o6 (i64 q3) (i64 ((i64 ((i64 q3)+m))-start2)) b cmp).bind fun y6=>
  some y6
  else
  some o6))))
noncomputable def Z6(n_:Nat):List Int→Int→Int→Int→(Int→Int→Option Int)→Option (List Int):=
  Nat.rec (motive:=fun _=>List Int→Int→Int→Int→(Int→Int→Option Int)→Option (List Int)) (fun _ _ _ _ _=>none) (fun _ ih=>Qm ih) n_
noncomputable def Qg(n:Int)(cmp:Int→Int→Option Int)(o2:List Int)(a2:Int)(b:Int):Option (((List Int)×Int×Int) ⊕ ((List Int)×Int)):=
  if(decide (b≤n))=true then
  (ZQ o2 a2 b cmp).bind fun y=>
  some (.inl (y,b,(i64 (b+20))))
  else
  some (.inr (o2,a2))
noncomputable def Z9(n:Int)(cmp:Int→Int→Option Int)(blockSize:Int)(o5:List Int)(a4:Int)(b2:Int):Option (((List Int)×Int×Int) ⊕ ((List Int)×Int)):=
  if(decide (b2≤n))=true then
  (Z6 100 o5 a4 (i64 (a4+blockSize)) b2 cmp).bind fun y3=>
  some (.inl (y3,b2,(i64 (b2+(i64 (2*blockSize))))))
  else
  some (.inr (o5,a4))
noncomputable def Qa(n:Int)(cmp:Int→Int→Option Int)(o3:List Int)(blockSize:Int):Option (((List Int)×Int) ⊕ ((List Int))):=
  if(decide (blockSize<n))=true then
  ((loop (t3 (Z9 n cmp blockSize)) (o3,0,(i64 (2*blockSize)))):Option (((List Int)×Int))).bind (t2 fun(o4:List Int) (a3:Int)=>
  if(decide ((i64 (a3+blockSize))<n))=true then
  (Z6 100 o4 a3 (i64 (a3+blockSize)) n cmp).bind fun y4=>
  some (.inl (y4,(i64 (blockSize*2))))
  else
  some (.inl (o4,(i64 (blockSize*2)))))
  else
  some (.inr o3)
noncomputable def QU(data:List Int)(n:Int)(cmp:Int→Int→Option Int):Option (List Int):=
  ((loop (t3 (Qg n cmp)) (data,0,20)):Option (((List Int)×Int))).bind (t2 fun(o:List Int) (a:Int)=>
  (ZQ o a n cmp).bind fun y2=>
  loop (t2 (Qa n cmp)) (y2,20))
noncomputable def Qj(x:List Int)(cmp:Int→Int→Option Int):Option (List Int):=
  (QU x (x.length:Int) cmp).bind fun y=>
  some y
noncomputable def J7(i:Int)(c0:api_Memory):Option Int:=
  (idx c0.Sectors i).bind fun x=>
  (ZcO x).bind fun y=>
  some y.1
noncomputable def Zad(a:Int)(b:Int)(k:api_Memory):Option Int:=
  (J7 a k).bind fun y=>
  (J7 b k).bind fun y2=>
  some (i64 (y-y2))
noncomputable def Zau(m:api_Memory)(out2:List Int)(i:Int):Option (((List Int)×Int) ⊕ ((List Int))):=
  if(decide (i<(m.Sectors.length:Int)))=true then
  (idx m.Sectors i).bind fun x=>
  (ZcO x).bind fun y=>
  (gd (y.2.2==true) false (idx m.Bad i)).bind fun x2=>
  if(y.2.2&&(!x2))=true then
  (apz 8 out2 ([i]:List Int)).bind fun l=>
  some (.inl (l,(i64 (i+1))))
  else
  some (.inl (out2,(i64 (i+1))))
  else
  some (.inr out2)
noncomputable def JT(m:api_Memory):Option (List Int):=
  ((loop (t2 (Zau m)) ([],0)):Option (((List Int)))).bind (t1 fun(out:List Int)=>
  (Qj out (fun z0 z1=>Zad z0 z1 m)).bind fun y2=>
  some y2)
noncomputable def Zdf(s:List Int)(i:Int):Option (Vector Int 97):=
  (slc s (i64 (16+(i64 (i*97)))) (i64 ((i64 (16+(i64 (i*97))))+97))).bind fun l=>
  (tov 97 l).bind fun v=>
  some v
noncomputable def QL(s:List Int)(f:Int→Option Bool)(i:Int):Option ((Int) ⊕ (Int) ⊕ (Unit)):=
  if(decide (i<(s.length:Int)))=true then
  (idx s i).bind fun x=>
  (f x).bind fun y=>
  if y=true then
  some (.inr (.inl i))
  else
  some (.inl (i64 (i+1)))
  else
  some (.inr (.inr ()))
noncomputable def Xz(s:List Int)(f:Int→Option Bool):Option Int:=
  ((loop (t1 (QL s f)) 0):Option ((Int) ⊕ (Unit))).bind (Sum.elim (fun q'=>some q') (t0 (some (-1))))
noncomputable def QO(s:List Int)(f:Int→Option Bool):Option Bool:=
  (Xz s f).bind fun y=>
  some (decide (0≤y))
noncomputable def Zab(b:Int):Option Bool:=
  some (!decide (b=255))
noncomputable def Zcz(p:Vector Int 97):Option Int:=
  (ZA p 96).bind fun x=>
  if(decide (x=0))=true then
  some 1
  else
  (slc p.toList 0 (97:Int)).bind fun l=>
  (QO l (fun z0=>Zab z0)).bind fun y=>
  if y=true then
  some 2
  else
  some 0
noncomputable def Zcw(p:Vector Int 96)(i:Int):Option Int:=
  (quo .i64 i 2).bind fun q=>
  (rem i 2).bind fun q2=>
  if(decide (q2=0))=true then
  (ZA p (i64 (q*3))).bind fun x=>
  (shl .u16 (u16 x) 4).bind fun q3=>
  (ZA p (i64 ((i64 (q*3))+1))).bind fun x2=>
  (shr .u16 (u16 x2) 4).bind fun q4=>
  some (bor .u16 q3 q4)
  else
  (ZA p (i64 ((i64 (q*3))+1))).bind fun x3=>
  (shl .u16 (XF .u16 (u16 x3) 15) 8).bind fun q5=>
  (ZA p (i64 ((i64 (q*3))+2))).bind fun x4=>
  some (bor .u16 q5 (u16 x4))
noncomputable def Zbs(p:Vector Int 96)(f2:Vector Int 64)(i:Int):Option (((Vector Int 64)×Int) ⊕ ((Vector Int 64))):=
  if(decide (i<64))=true then
  (Zcw p i).bind fun y=>
  (ZA f2 i).bind fun x=>
  some (.inl ((Qr f2 i y),(i64 (i+1))))
  else
  some (.inr f2)
noncomputable def ZdM(p:Vector Int 96):Option (Vector Int 64):=
  ((loop (t2 (Zbs p)) ((Vector.replicate 64 0),0)):Option (((Vector Int 64)))).bind (t1 fun(f:Vector Int 64)=>
  some f)
noncomputable def Zay(b:List Int):Option ((Vector Int 64)×Int):=
  if(decide ((b.length:Int)<96))=true then
  some ((#v[0,0,0,0,0,0,0,0,0,0,0,0,0,0,0,0,0,0,0,0,0,0,0,0,0,0,0,0,0,0,0,0,0,0,0,0,0,0,0,0,0,0,0,0,0,0,0,0,0,0,0,0,0,0,0,0,0,0,0,0,0,0,0,0]:Vector Int 64),3)
  else
  (slc b 0 96).bind fun l=>
  (tov 96 l).bind fun v=>
  (ZdM v).bind fun y=>
  some (y,0)
noncomputable def Zax(i:Int)(x:api_Memory)(x2:Int)(y3:Int×Bool×Bool)(out6:List api_Kept)(i3:Int):Option (((List api_Kept)×Int) ⊕ ((List api_Kept))):=
  if(decide (i3<x.Slots))=true then
  (idx x.Sectors x2).bind fun x4=>
  (Zdf x4 i3).bind fun y4=>
  (Zcz y4).bind fun y5=>
  if(decide (y5=1))=true then
  (slc y4.toList 0 (97:Int)).bind fun l2=>
  (Zay l2).bind fun y6=>
  (apz 160 out6 ([(api_Kept.mk i x2 y3.1 i3 y6.1)]:List api_Kept)).bind fun l3=>
  some (.inl (l3,(i64 (i3+1))))
  else
  some (.inl (out6,(i64 (i3+1))))
  else
  some (.inr out6)
noncomputable def Zaz(i:Int)(x:api_Memory)(y2:(List Int))(out4:List api_Kept)(i2:Int):Option (((List api_Kept)×Int) ⊕ ((List api_Kept))):=
  if(decide (i2<(y2.length:Int)))=true then
  (((idx y2 i2).bind fun x2=>
  (idx x.Sectors x2).bind fun x3=>
  (ZcO x3).bind fun y3=>
  loop (t2 (Zax i x x2 y3)) (out4,0)):Option (((List api_Kept)))).bind (t1 fun(out5:List api_Kept)=>
  some (.inl (out5,(i64 (i2+1)))))
  else
  some (.inr out4)
noncomputable def Zat(l:List api_Memory)(out2:List api_Kept)(i:Int):Option (((List api_Kept)×Int) ⊕ ((List api_Kept))):=
  if(decide (i<(l.length:Int)))=true then
  (((idx l i).bind fun x=>
  (JT x).bind fun y2=>
  loop (t2 (Zaz i x y2)) (out2,0)):Option (((List api_Kept)))).bind (t1 fun(out3:List api_Kept)=>
  some (.inl (out3,(i64 (i+1)))))
  else
  some (.inr out2)
noncomputable def Zca(l:List api_Memory):Option ((List api_Kept)×Int):=
  (Jn l).bind fun y=>
  if(!decide (y=0))=true then
  some ([],y)
  else
  ((loop (t2 (Zat l)) ([],0)):Option (((List api_Kept)))).bind (t1 fun(out:List api_Kept)=>
  some (out,0))
noncomputable def Jy(l:List api_Memory):Option Int:=
  (Jn l).bind fun y=>
  some y
noncomputable def Zb3(b:List Int)(from_:Int)(to:Int):Option api_Piece:=
  if(decide (from_=to))=true then
  some (api_Piece.mk [] false)
  else
  (quo .i64 from_ 2).bind fun q=>
  (quo .i64 (i64 (to+1)) 2).bind fun q2=>
  (slc b q q2).bind fun l=>
  (app [] l).bind fun l2=>
  (rem from_ 2).bind fun q3=>
  ((if(decide (q3=1))=true then
  (idx l2 0).bind fun x=>
  (idx l2 0).bind fun x2=>
  some (l2.set (Int.toNat 0) (XF .u8 x 15))
  else
  some l2):Option (((List Int)))).bind (t1 fun(Bytes:List Int)=>
  (rem to 2).bind fun q4=>
  if(decide (q4=1))=true then
  (idx Bytes (i64 ((Bytes.length:Int)-1))).bind fun x3=>
  (idx Bytes (i64 ((Bytes.length:Int)-1))).bind fun x4=>
  some (api_Piece.mk (Bytes.set (i64 ((Bytes.length:Int)-1)).toNat (XF .u8 x3 240)) (decide (q3=1)))
  else
  some (api_Piece.mk Bytes (decide (q3=1))))
noncomputable def Jb(x:api_Memory)(all4:List Int)(i2:Int):Option (((List Int)×Int) ⊕ ((List Int))):=
  if(decide (i2<(x.Sectors.length:Int)))=true then
  (idx x.Sectors i2).bind fun x2=>
  (app all4 x2).bind fun l2=>
  some (.inl (l2,(i64 (i2+1))))
  else
  some (.inr all4)
noncomputable def Jd(l:List api_Memory)(all2:List Int)(i:Int):Option (((List Int)×Int) ⊕ ((List Int))):=
  if(decide (i<(l.length:Int)))=true then
  (((idx l i).bind fun x=>
  loop (t2 (Jb x)) (all2,0)):Option (((List Int)))).bind (t1 fun(all3:List Int)=>
  some (.inl (all3,(i64 (i+1)))))
  else
  some (.inr all2)
noncomputable def XD(cuts:List Int)(all:List Int)(i3:Int):Option ((Int) ⊕ ((List api_Piece)×Int) ⊕ (Unit)):=
  if(decide (i3<(cuts.length:Int)))=true then
  (idx cuts i3).bind fun x3=>
  if((decide (x3<0)) || (decide ((i64 (2*(all.length:Int)))<x3)))=true then
  some (.inr (.inl ([],9)))
  else
  (gd ((decide (0<i3))==true) 0 (idx cuts (i64 (i3-1)))).bind fun x4=>
  if((decide (0<i3))&&(decide (x3<x4)))=true then
  some (.inr (.inl ([],10)))
  else
  some (.inl (i64 (i3+1)))
  else
  some (.inr (.inr ()))
noncomputable def QA(cuts:List Int)(all5:List Int)(out2:List api_Piece)(from_:Int)(i4:Int):Option (((List Int)×(List api_Piece)×Int×Int) ⊕ ((List api_Piece)×Int) ⊕ ((List api_Piece))):=
  if(decide (i4<(i64 ((cuts.length:Int)+1))))=true then
  ((if(decide (i4<(cuts.length:Int)))=true then
  (idx cuts i4).bind fun x5=>
  some x5
  else
  some (i64 (2*(all5.length:Int)))):Option ((Int))).bind (t1 fun(to:Int)=>
  if(decide (from_<to))=true then
  (Zb3 all5 from_ to).bind fun y2=>
  if(decide (200000<(y2.Bytes.length:Int)))=true then
  some (.inr (.inl ([],3)))
  else
  (app out2 ([y2]:List api_Piece)).bind fun l3=>
  some (.inl (all5,l3,to,(i64 (i4+1))))
  else
  some (.inl (all5,out2,to,(i64 (i4+1)))))
  else
  some (.inr (.inr out2))
noncomputable def ZaT(l:List api_Memory)(cuts:List Int):Option ((List api_Piece)×Int):=
  (Jy l).bind fun y=>
  if(!decide (y=0))=true then
  some ([],y)
  else
  if(decide (199<(cuts.length:Int)))=true then
  some ([],3)
  else
  ((loop (t2 (Jd l)) ([],0)):Option (((List Int)))).bind (t1 fun(all:List Int)=>
  ((loop (t1 (XD cuts all)) 0):Option (((List api_Piece)×Int) ⊕ (Unit))).bind (Sum.elim (fun q'=>some q') (t0 (((loop (t4 (QA cuts)) (all,[],0,0)):Option (((List api_Piece)×Int) ⊕ ((List api_Piece)))).bind (Sum.elim (fun q'=>some q') (t1 fun(out:List api_Piece)=>
  some (out,0)))))))
noncomputable def Ju(p:api_Piece):Option Int:=
  if(decide (200000<(p.Bytes.length:Int)))=true then
  some 3
  else
  (gd ((p.Half==true)&&((decide ((p.Bytes.length:Int)=0))==false)) 0 (idx p.Bytes 0)).bind fun x=>
  (gd ((p.Half==true)&&((decide ((p.Bytes.length:Int)=0))==false)) 0 (shr .u8 x 4)).bind fun q=>
  if(p.Half&&((decide ((p.Bytes.length:Int)=0)) || (!decide (q=0))))=true then
  some 2
  else
  some 0
noncomputable def ZaF(p:api_Piece):Option Int:=
  if p.Half=true then
  some 1
  else
  some 0
noncomputable def ZaS(p:api_Piece):Option Int:=
  (ZaF p).bind fun y=>
  some (i64 ((i64 (2*(p.Bytes.length:Int)))-y))
noncomputable def Za1(b:List Int)(i:Int):Option Int:=
  (quo .i64 i 2).bind fun q=>
  (idx b q).bind fun x=>
  (rem i 2).bind fun q2=>
  (shr .u8 x (i64 (4-(i64 (4*q2))))).bind fun q3=>
  some (XF .u8 q3 15)
noncomputable def JR(p:api_Piece)(l:List Int)(out2:List Int)(i:Int):Option (((List Int)×Int) ⊕ ((List Int))):=
  if(decide (i<(l.length:Int)))=true then
  (ZaF p).bind fun y2=>
  (Za1 p.Bytes (i64 (i+y2))).bind fun y3=>
  (idx out2 i).bind fun x=>
  some (.inl ((out2.set i.toNat y3),(i64 (i+1))))
  else
  some (.inr out2)
noncomputable def Zac(p:api_Piece):Option (List Int):=
  (ZaS p).bind fun y=>
  (mks y 0).bind fun l=>
  ((loop (t2 (JR p l)) (l,0)):Option (((List Int)))).bind (t1 fun(out:List Int)=>
  some out)
noncomputable def X6(h_:List Int):Option Int:=
  (idx h_ 0).bind fun x=>
  (shl .u16 (u16 x) 8).bind fun q=>
  (idx h_ 1).bind fun x2=>
  (shl .u16 (u16 x2) 4).bind fun q2=>
  (idx h_ 2).bind fun x3=>
  some (bor .u16 (bor .u16 q q2) (u16 x3))
noncomputable def ZaR(number:Int):Option (Int×Int):=
  if((decide (number<0)) || (decide (4194304≤number)))=true then
  some (0,9)
  else
  (rem number 4).bind fun q=>
  (ZA gv_frame_syncs q).bind fun x=>
  some ((i64 x),0)
noncomputable def JN(w:Int)(i:Int):Option ((Int) ⊕ (Bool) ⊕ (Unit)):=
  if(decide (i<4))=true then
  (ZaR i).bind fun y=>
  if(decide ((u16 y.1)=w))=true then
  some (.inr (.inl true))
  else
  some (.inl (i64 (i+1)))
  else
  some (.inr (.inr ()))
noncomputable def ZaQ(w:Int):Option Bool:=
  ((loop (t1 (JN w)) 0):Option ((Bool) ⊕ (Unit))).bind (Sum.elim (fun q'=>some q') (t0 (some false)))
noncomputable def JG(w:Vector Int 192)(f2:Vector Int 64)(i:Int):Option (((Vector Int 64)×Int) ⊕ ((Vector Int 64))):=
  if(decide (i<64))=true then
  (slc w.toList (i64 (3*i)) (i64 ((i64 (3*i))+3))).bind fun l=>
  (X6 l).bind fun y=>
  (ZA f2 i).bind fun x=>
  some (.inl ((Qr f2 i y),(i64 (i+1))))
  else
  some (.inr f2)
noncomputable def ZaC(w:Vector Int 192):Option (Vector Int 64):=
  ((loop (t2 (JG w)) ((Vector.replicate 64 0),0)):Option (((Vector Int 64)))).bind (t1 fun(f:Vector Int 64)=>
  some f)
noncomputable def Zbz(f:Vector Int 64)(i:Int):Option ((Int) ⊕ (Bool) ⊕ (Unit)):=
  if(decide (i<64))=true then
  (ZA f i).bind fun x=>
  if(decide (4095<x))=true then
  some (.inr (.inl true))
  else
  some (.inl (i64 (i+1)))
  else
  some (.inr (.inr ()))
noncomputable def ZcM(f:Vector Int 64):Option Bool:=
  ((loop (t1 (Zbz f)) 0):Option ((Bool) ⊕ (Unit))).bind (Sum.elim (fun q'=>some q') (t0 (some false)))
noncomputable def ZaX(f:Vector Int 64)(i:Int):Option ((Int) ⊕ (Bool) ⊕ (Unit)):=
  if(decide (i<64))=true then
  (ZA f i).bind fun x4=>
  (J5 x4).bind fun y5=>
  if(!y5)=true then
  some (.inr (.inl false))
  else
  some (.inl (i64 (i+1)))
  else
  some (.inr (.inr ()))
noncomputable def Zb2(f:Vector Int 64):Option Bool:=
  (ZcM f).bind fun y=>
  (gd (y==false) 0 (ZA f 0)).bind fun x=>
  (gd (y==false) 0 (Xe f)).bind fun y2=>
  (gd (y==false) 0 (rem y2 4)).bind fun q=>
  (gd (y==false) 0 (ZA gv_frame_syncs q)).bind fun x2=>
  (gd ((y || (!decide (x=x2)))==false) 0 (ZA f 61)).bind fun x3=>
  (gd ((y || (!decide (x=x2)))==false) 0 (Xl x3)).bind fun y3=>
  (gd ((y || (!decide (x=x2)))==false) 0 (Jl f)).bind fun y4=>
  if((y || (!decide (x=x2))) || (!decide (y3=y4)))=true then
  some false
  else
  ((loop (t1 (ZaX f)) 1):Option ((Bool) ⊕ (Unit))).bind (Sum.elim (fun q'=>some q') (t0 ((ZA f 62).bind fun x5=>
  (Xl x5).bind fun y6=>
  (shl .i64 y6 11).bind fun q2=>
  (ZA f 63).bind fun x6=>
  (Xl x6).bind fun y7=>
  (Xw f).bind fun y8=>
  some (decide ((bor .i64 q2 y7)=y8)))))
noncomputable def Zb7(f:Vector Int 64):Option Bool:=
  (Zb2 f).bind fun y=>
  some y
noncomputable def Jx(h_:List Int)(o:List api_Found)(at_:Int):Option (((List api_Found)×Int) ⊕ (List api_Found)):=
  if(decide ((i64 (at_+192))≤(h_.length:Int)))=true then
  (((slc h_ at_ (i64 (at_+3))).bind fun l=>
  (X6 l).bind fun y=>
  (ZaQ y).bind fun y2=>
  if(!y2)=true then
  some (.inr o)
  else
  (slc h_ at_ (i64 (at_+192))).bind fun l2=>
  (tov 192 l2).bind fun v=>
  (ZaC v).bind fun y3=>
  (Zb7 y3).bind fun y4=>
  if(y4==true)=true then
  (app o [(api_Found.mk at_ y3)]).bind fun out2=>
  if(!true)=true then
  some (.inl out2)
  else
  some (.inr out2)
  else
  if false=true then
  none
  else
  some (.inr o)):Option ((List api_Found) ⊕ ((List api_Found)))).bind (Sum.elim (fun q'=>some (.inr q')) (t1 fun(o2:List api_Found)=>
  some (.inl (o2,(i64 (at_+1))))))
  else
  some (.inr o)
noncomputable def ZbI(h_:List Int)(out:List api_Found):Option (List api_Found):=
  loop (t2 (Jx h_)) (out,0)
noncomputable def ZcC(h_:List Int):Option (List api_Found):=
  ZbI h_ []
noncomputable def XP(y:List api_Found)(out2:List api_Found)(i:Int):Option (((List api_Found)×Int) ⊕ ((List api_Found))):=
  if(decide (i<(y.length:Int)))=true then
  (idx y i).bind fun x=>
  (gd ((decide (i=0))==false) (api_Found.mk 0 (Vector.replicate 64 0)) (idx y (i64 (i-1)))).bind fun x2=>
  (gd ((((decide (i=0)) || (decide (192≤(i64 (x.At-x2.At)))))==true)&&((decide (i=(i64 ((y.length:Int)-1))))==false)) (api_Found.mk 0 (Vector.replicate 64 0)) (idx y (i64 (i+1)))).bind fun x3=>
  if(((decide (i=0)) || (decide (192≤(i64 (x.At-x2.At)))))&&((decide (i=(i64 ((y.length:Int)-1)))) || (decide (192≤(i64 (x3.At-x.At))))))=true then
  (app out2 ([x]:List api_Found)).bind fun l=>
  some (.inl (l,(i64 (i+1))))
  else
  some (.inl (out2,(i64 (i+1))))
  else
  some (.inr out2)
noncomputable def Zav(h_:List Int):Option (List api_Found):=
  (ZcC h_).bind fun y=>
  ((loop (t2 (XP y)) ([],0)):Option (((List api_Found)))).bind (t1 fun(out:List api_Found)=>
  some out)
noncomputable def Zan(f:Vector Int 64):Option (Int×Bool):=
  (ZA f 1).bind fun x=>
  (J5 x).bind fun y=>
  (gd ((!y)==false) 0 (ZA f 2)).bind fun x2=>
  (gd ((!y)==false) false (J5 x2)).bind fun y2=>
  if((!y) || (!y2))=true then
  some (0,false)
  else
  (Xe f).bind fun y3=>
  some (y3,true)
noncomputable def X5(y:(List api_Found))(numbers2:List Int)(at__2:List (Int×Int))(i:Int):Option (((List Int)×(List (Int×Int))×Int) ⊕ ((List Int)×(List (Int×Int)))):=
  if(decide (i<(y.length:Int)))=true then
  (((idx y i).bind fun x=>
  (Zan x.Frame).bind fun y2=>
  (app numbers2 ([y2.1]:List Int)).bind fun l=>
  some (l,(Qc kqI at__2 x.At i))):Option (((List Int)×(List (Int×Int))))).bind (t2 fun(numbers3:List Int) (at__3:List (Int×Int))=>
  some (.inl (numbers3,at__3,(i64 (i+1)))))
  else
  some (.inr (numbers2,at__2))
noncomputable def JL(h_:List Int):Option salvage_finder:=
  (Zav h_).bind fun y=>
  ((loop (t3 (X5 y)) ([],([]:List (Int×Int)),0)):Option (((List Int)×(List (Int×Int))))).bind (t2 fun(numbers:List Int) (at__:List (Int×Int))=>
  some (salvage_finder.mk h_ y numbers ()))
noncomputable def JM(state:Int)(out2:Vector Int 64)(i:Int):Option (((Vector Int 64)×Int) ⊕ ((Vector Int 64))):=
  if(decide (i<64))=true then
  (ZA out2 i).bind fun x=>
  some (.inl ((Qr out2 i state),(i64 (i+1))))
  else
  some (.inr out2)
noncomputable def Jv(state:Int):Option (Vector Int 64):=
  ((loop (t2 (JM state)) ((Vector.replicate 64 0),0)):Option (((Vector Int 64)))).bind (t1 fun(out:Vector Int 64)=>
  some out)
noncomputable def ZS(x:List api_Found)(target:Int)(cmp:api_Found→Int→Option Int)(i2:Int)(j:Int):Option ((Int×Int) ⊕ (Int)):=
  if(decide (i2<j))=true then
  (shr .u64 (u64 (i64 (i2+j))) 1).bind fun q=>
  (idx x (i64 q)).bind fun x2=>
  (cmp x2 target).bind fun y=>
  if(decide (y<0))=true then
  some (.inl ((i64 ((i64 q)+1)),j))
  else
  some (.inl (i2,(i64 q)))
  else
  some (.inr i2)
noncomputable def Z4(x:List api_Found)(target:Int)(cmp:api_Found→Int→Option Int):Option (Int×Bool):=
  ((loop (t2 (ZS x target cmp)) (0,(x.length:Int))):Option ((Int))).bind (t1 fun(i:Int)=>
  (gd ((decide (i<(x.length:Int)))==true) (api_Found.mk 0 (Vector.replicate 64 0)) (idx x i)).bind fun x3=>
  (gd ((decide (i<(x.length:Int)))==true) 0 (cmp x3 target)).bind fun y2=>
  some (i,((decide (i<(x.length:Int)))&&(decide (y2=0)))))
noncomputable def QD(c_:api_Found)(at_:Int):Option Int:=
  some (i64 (c_.At-at_))
noncomputable def Q4(x:salvage_finder)(place:Int):Option Int:=
  (Z4 x.certain place (fun z0 z1=>QD z0 z1)).bind fun y=>
  (gd (((decide (y.1=(x.certain.length:Int)))==false)&&((decide (0<y.1))==true)) (api_Found.mk 0 (Vector.replicate 64 0)) (idx x.certain (i64 (y.1-1)))).bind fun x2=>
  (gd (((decide (y.1=(x.certain.length:Int)))==false)&&((decide (0<y.1))==true)) (api_Found.mk 0 (Vector.replicate 64 0)) (idx x.certain y.1)).bind fun x3=>
  if((decide (y.1=(x.certain.length:Int))) || ((decide (0<y.1))&&(decide ((i64 (place-x2.At))≤(i64 (x3.At-place))))))=true then
  some (i64 (y.1-1))
  else
  some y.1
noncomputable def Zbe(n:Int):Option Int:=
  some (max n (i64 (-n)))
noncomputable def Xf(x:salvage_finder)(i:Int)(x3:Int)(out4:List Int)(p:Int):Option (((List Int)×Int) ⊕ ((List Int))):=
  if((decide ((-192)<p))&&(decide (p<(x.h_.length:Int))))=true then
  (((Q4 x p).bind fun y=>
  if(!decide (y=i))=true then
  some (.inl out4)
  else
  (idx x.certain y).bind fun x4=>
  (Zbe (i64 (x4.At-p))).bind fun y2=>
  if(decide (192≤y2))=true then
  (app out4 ([p]:List Int)).bind fun l=>
  some (.inr l)
  else
  some (.inr out4)):Option (((List Int)) ⊕ ((List Int)))).bind (Sum.elim (fun q'=>some (.inr q')) (t1 fun(out5:List Int)=>
  some (.inl (out5,(i64 (p+x3))))))
  else
  some (.inr out4)
noncomputable def Xg(x:salvage_finder)(i:Int)(x2:api_Found)(out2:List Int)(i2:Int):Option (((List Int)×Int) ⊕ ((List Int))):=
  if(decide (i2<(([(-194),194]:List Int).length:Int)))=true then
  (((idx ([(-194),194]:List Int) i2).bind fun x3=>
  loop (t2 (Xf x i x3)) (out2,(i64 (x2.At+x3)))):Option (((List Int)))).bind (t1 fun(out3:List Int)=>
  some (.inl (out3,(i64 (i2+1)))))
  else
  some (.inr out2)
noncomputable def Xd(x:salvage_finder)(i:Int):Option (List Int):=
  (idx x.certain i).bind fun x2=>
  ((loop (t2 (Xg x i x2)) ([],0)):Option (((List Int)))).bind (t1 fun(out:List Int)=>
  some out)
noncomputable def Qh(h_:List Int)(at_:Int)(f2:Vector Int 64)(whole2:Vector Bool 64)(i:Int):Option (((Vector Int 64)×(Vector Bool 64)×Int) ⊕ ((Vector Int 64)×(Vector Bool 64))):=
  if(decide (i<64))=true then
  if((decide (0≤(i64 (at_+(i64 (3*i))))))&&(decide ((i64 ((i64 (at_+(i64 (3*i))))+3))≤(h_.length:Int))))=true then
  (slc h_ (i64 (at_+(i64 (3*i)))) (i64 ((i64 (at_+(i64 (3*i))))+3))).bind fun l=>
  (X6 l).bind fun y=>
  (ZA f2 i).bind fun x=>
  (ZA whole2 i).bind fun x2=>
  some (.inl ((Qr f2 i y),(Qr whole2 i true),(i64 (i+1))))
  else
  some (.inl (f2,whole2,(i64 (i+1))))
  else
  some (.inr (f2,whole2))
noncomputable def X7(h_:List Int)(at_:Int):Option ((Vector Int 64)×(Vector Bool 64)):=
  ((loop (t3 (Qh h_ at_)) ((Vector.replicate 64 0),(Vector.replicate 64 false),0)):Option (((Vector Int 64)×(Vector Bool 64)))).bind (t2 fun(f:Vector Int 64) (whole:Vector Bool 64)=>
  some (f,whole))
noncomputable def Zc7(f:Vector Int 64)(whole:Vector Bool 64):Option (Int×Bool):=
  (ZA whole 0).bind fun x=>
  (gd ((!x)==false) false (ZA whole 1)).bind fun x2=>
  (gd (((!x) || (!x2))==false) false (ZA whole 2)).bind fun x3=>
  if(((!x) || (!x2)) || (!x3))=true then
  some (0,false)
  else
  (Zan f).bind fun y=>
  (ZaR y.1).bind fun y2=>
  (gd (y.2==true) 0 (ZA f 0)).bind fun x4=>
  some (y.1,(y.2&&(decide (x4=(u16 y2.1)))))
noncomputable def Xr(x:salvage_finder)(i:Int)(place:Int)(best2:Int)(least:Int)(i2:Int):Option ((Int×Int×Int) ⊕ (Int)):=
  if(decide (i2<(x.certain.length:Int)))=true then
  (idx x.certain i2).bind fun x2=>
  (gd ((decide (i2=i))==false) (api_Found.mk 0 (Vector.replicate 64 0)) (idx x.certain i)).bind fun x3=>
  (gd ((decide (i2=i))==false) 0 (rem (i64 (x2.At-x3.At)) 194)).bind fun q=>
  if((decide (i2=i)) || (!decide (q=0)))=true then
  some (.inl (best2,least,(i64 (i2+1))))
  else
  (Zbe (i64 (x2.At-place))).bind fun y=>
  if((decide (best2<0)) || (decide (y<least)))=true then
  some (.inl (i2,y,(i64 (i2+1))))
  else
  some (.inl (best2,least,(i64 (i2+1))))
  else
  some (.inr best2)
noncomputable def Xs(x:salvage_finder)(i:Int)(place:Int):Option Int:=
  ((loop (t3 (Xr x i place)) ((-1),0,0)):Option ((Int))).bind (t1 fun(best:Int)=>
  some best)
noncomputable def ZcE(n:Int)(low:Int)(high:Int):Option Bool:=
  some ((decide (low≤n))&&(decide (n≤high)))
noncomputable def XI(x:salvage_finder)(i:Int)(place:Int)(f:Vector Int 64)(whole:Vector Bool 64):Option (Int×Bool):=
  (Zc7 f whole).bind fun y=>
  if y.2=true then
  some (y.1,true)
  else
  (Xs x i place).bind fun y2=>
  if(decide (y2<0))=true then
  some (0,false)
  else
  (idx x.certain i).bind fun x2=>
  (quo .i64 (i64 (place-x2.At)) 194).bind fun q=>
  (idx x.certain y2).bind fun x3=>
  (idx x.certain i).bind fun x4=>
  (quo .i64 (i64 (x3.At-x4.At)) 194).bind fun q2=>
  (idx x.numbers y2).bind fun x5=>
  (idx x.numbers i).bind fun x6=>
  (rem (i64 (x5-x6)) q2).bind fun q3=>
  (gd ((!decide (q3=0))==false) 0 (quo .i64 (i64 (x5-x6)) q2)).bind fun q4=>
  if((!decide (q3=0)) || (decide (q4≤0)))=true then
  some (0,false)
  else
  (idx x.numbers i).bind fun x7=>
  (quo .i64 (i64 (x5-x6)) q2).bind fun q5=>
  (ZcE (i64 (x7+(i64 (q*q5)))) 0 4194303).bind fun y3=>
  some ((i64 (x7+(i64 (q*q5)))),y3)
noncomputable def ZdH(w:Int):Option Bool:=
  (J5 w).bind fun y=>
  some y
noncomputable def Jz(w:Int)(i:Int)(number:Int):Option Bool:=
  if(decide (i=0))=true then
  (ZaR number).bind fun y=>
  some (decide (w=(u16 y.1)))
  else
  if(decide (i=1))=true then
  (ZdH w).bind fun y2=>
  some (y2&&(decide ((i64 (XF .u16 w 2047))=(XF .i64 number 2047))))
  else
  if(decide (i=2))=true then
  (ZdH w).bind fun y3=>
  (gd (y3==true) 0 (shr .i64 number 11)).bind fun q=>
  some (y3&&(decide ((i64 (XF .u16 w 2047))=q)))
  else
  (ZdH w).bind fun y4=>
  some y4
noncomputable def QF(s:List Int)(f:Int→Option Bool)(i:Int):Option ((Int) ⊕ (Int) ⊕ (Unit)):=
  if(decide (i<(s.length:Int)))=true then
  (idx s i).bind fun x=>
  (f x).bind fun y=>
  if y=true then
  some (.inr (.inl i))
  else
  some (.inl (i64 (i+1)))
  else
  some (.inr (.inr ()))
noncomputable def X0(s:List Int)(f:Int→Option Bool):Option Int:=
  ((loop (t1 (QF s f)) 0):Option ((Int) ⊕ (Unit))).bind (Sum.elim (fun q'=>some q') (t0 (some (-1))))
noncomputable def QE(s:List Int)(f:Int→Option Bool):Option Bool:=
  (X0 s f).bind fun y=>
  some (decide (0≤y))
noncomputable def ZcU(s:Int)(c0:Int):Option Bool:=
  some (!decide (s=c0))
noncomputable def Zai(r_:api_Rest)(state:Int):Option Bool:=
  (slc r_.States.toList 0 (64:Int)).bind fun l=>
  (QE l (fun z0=>ZcU z0 state)).bind fun y=>
  some (!y)
noncomputable def QT(y:(Vector Int 64)×(Vector Bool 64))(y2:Int×Bool)(r_2:api_Rest)(i2:Int):Option ((api_Rest×Int) ⊕ (api_Rest)):=
  if(decide (i2<64))=true then
  (ZA y.1 i2).bind fun x2=>
  (ZA y.2 i2).bind fun x3=>
  (gd (x3==true) false (Jz x2 i2 y2.1)).bind fun y3=>
  if(x3&&y3)=true then
  (ZA r_2.Frame i2).bind fun x4=>
  (ZA r_2.States i2).bind fun x5=>
  some (.inl ((api_Rest.mk r_2.Number (Qr r_2.Frame i2 x2) (Qr r_2.States i2 1) r_2.Sound r_2.Copies r_2.Conflict),(i64 (i2+1))))
  else
  some (.inl (r_2,(i64 (i2+1))))
  else
  some (.inr r_2)
noncomputable def QX(x:salvage_finder)(i:Int)(place:Int):Option (api_Rest×Bool):=
  (X7 x.h_ place).bind fun y=>
  (XI x i place y.1 y.2).bind fun y2=>
  if(!y2.2)=true then
  some ((api_Rest.mk 0 (Vector.replicate 64 0) (Vector.replicate 64 0) false 0 false),false)
  else
  ((loop (t2 (QT y y2)) ((api_Rest.mk y2.1 (Vector.replicate 64 0) (Vector.replicate 64 0) false 0 false),0)):Option ((api_Rest))).bind (t1 fun(r_:api_Rest)=>
  (Zai r_ 0).bind fun y4=>
  some (r_,(!y4)))
noncomputable def Qb(s:List api_Rest)(f:api_Rest→Option Bool)(i:Int):Option ((Int) ⊕ (Int) ⊕ (Unit)):=
  if(decide (i<(s.length:Int)))=true then
  (idx s i).bind fun x=>
  (f x).bind fun y=>
  if y=true then
  some (.inr (.inl i))
  else
  some (.inl (i64 (i+1)))
  else
  some (.inr (.inr ()))
noncomputable def QS(s:List api_Rest)(f:api_Rest→Option Bool):Option Int:=
  ((loop (t1 (Qb s f)) 0):Option ((Int) ⊕ (Unit))).bind (Sum.elim (fun q'=>some q') (t0 (some (-1))))
noncomputable def Ql(s:List api_Rest)(f:api_Rest→Option Bool):Option Bool:=
  (QS s f).bind fun y=>
  some (decide (0≤y))
noncomputable def ZbO(r_:api_Rest):Option Bool:=
  some r_.Conflict
noncomputable def XK(o2:api_Rest)(x:api_Rest)(States:Vector Int 64)(i2:Int):Option (((Vector Int 64)×Int) ⊕ (api_Rest)):=
  if(decide (i2<64))=true then
  (ZA x.States i2).bind fun x2=>
  (ZA States i2).bind fun x3=>
  (ZA States i2).bind fun x4=>
  some (.inl ((Qr States i2 (max x3 x2)),(i64 (i2+1))))
  else
  some (.inr (api_Rest.mk o2.Number x.Frame States true o2.Copies o2.Conflict))
noncomputable def JF(l:List api_Rest)(o2:api_Rest)(i:Int):Option ((api_Rest×Int) ⊕ (Bool×api_Rest) ⊕ (api_Rest)):=
  if(decide (i<(l.length:Int)))=true then
  (((idx l i).bind fun x=>
  if(!x.Sound)=true then
  some (.inr o2)
  else
  if(o2.Sound&&(!(decide (o2.Frame=x.Frame))))=true then
  some (.inl (false,o2))
  else
  ((some ()):Option ((Unit))).bind (t0 ((loop (t2 (XK o2 x)) (o2.States,0)).bind (fun q'=>some (.inr q'))))):Option ((Bool×api_Rest) ⊕ (api_Rest))).bind (Sum.elim (fun q'=>some (.inr (.inl q'))) (t1 fun(o3:api_Rest)=>
  some (.inl (o3,(i64 (i+1))))))
  else
  some (.inr (.inr o2))
noncomputable def Zap(out:api_Rest)(l:List api_Rest):Option (Bool×api_Rest):=
  ((loop (t2 (JF l)) (out,0)):Option ((Bool×api_Rest) ⊕ (api_Rest))).bind (Sum.elim (fun q'=>some q') (t1 fun(o:api_Rest)=>
  some (true,o)))
noncomputable def XN(l:List api_Rest)(i:Int)(o4:api_Rest)(differ2:Bool)(i2:Int):Option ((api_Rest×Bool×Int) ⊕ (api_Rest×Bool)):=
  if(decide (i2<(l.length:Int)))=true then
  (idx l i2).bind fun x=>
  (ZA x.States i).bind fun x2=>
  if(decide (x2=0))=true then
  some (.inl (o4,differ2,(i64 (i2+1))))
  else
  (gd (differ2==false) 0 (ZA o4.States i)).bind fun x3=>
  (gd ((differ2==false)&&((!decide (x3=0))==true)) 0 (ZA o4.Frame i)).bind fun x4=>
  (gd ((differ2==false)&&((!decide (x3=0))==true)) 0 (ZA x.Frame i)).bind fun x5=>
  (ZA o4.States i).bind fun x6=>
  (ZA x.Frame i).bind fun x7=>
  (ZA o4.Frame i).bind fun x8=>
  some (.inl ((api_Rest.mk o4.Number (Qr o4.Frame i x7) (Qr o4.States i 1) o4.Sound o4.Copies o4.Conflict),(differ2 || ((!decide (x3=0))&&(!decide (x4=x5)))),(i64 (i2+1))))
  else
  some (.inr (o4,differ2))
noncomputable def JB(l:List api_Rest)(o:api_Rest)(i:Int):Option ((api_Rest×Int) ⊕ (api_Rest)):=
  if(decide (i<64))=true then
  ((((loop (t3 (XN l i)) (o,false,0)):Option ((api_Rest×Bool))).bind (t2 fun(o3:api_Rest) (differ:Bool)=>
  if differ=true then
  (ZA o3.States i).bind fun x9=>
  (ZA o3.Frame i).bind fun x10=>
  some (api_Rest.mk o3.Number (Qr o3.Frame i 0) (Qr o3.States i 0) o3.Sound o3.Copies o3.Conflict)
  else
  some o3)):Option ((api_Rest))).bind (t1 fun(o2:api_Rest)=>
  some (.inl (o2,(i64 (i+1)))))
  else
  some (.inr o)
noncomputable def ZbH(out:api_Rest)(l:List api_Rest):Option api_Rest:=
  loop (t2 (JB l)) (out,0)
noncomputable def Zcb(s:Int)(c0:Int)(c1:Int):Option Bool:=
  some ((decide (s=c0)) || (decide (s=c1)))
noncomputable def Zcc(r_:api_Rest)(a:Int)(b:Int):Option Bool:=
  (slc r_.States.toList 0 (64:Int)).bind fun l=>
  (QE l (fun z0=>Zcb z0 a b)).bind fun y=>
  some y
noncomputable def Je(f:Vector Int 64)(number:Int):Option Bool:=
  (Zan f).bind fun y=>
  (Zb7 f).bind fun y2=>
  some (y2&&(decide (y.1=number)))
noncomputable def Js(l:List api_Rest)(Copies2:Int)(i:Int):Option ((Int×Int) ⊕ (Int)):=
  if(decide (i<(l.length:Int)))=true then
  (idx l i).bind fun x2=>
  some (.inl ((i64 (Copies2+x2.Copies)),(i64 (i+1))))
  else
  some (.inr Copies2)
noncomputable def JU(l:List api_Rest):Option api_Rest:=
  (idx l 0).bind fun x=>
  ((loop (t2 (Js l)) (0,0)):Option ((Int))).bind (t1 fun(Copies:Int)=>
  (Ql l (fun z0=>ZbO z0)).bind fun y=>
  (Zap (api_Rest.mk x.Number (Vector.replicate 64 0) (Vector.replicate 64 0) false Copies false) l).bind fun y2=>
  if(y || (!y2.1))=true then
  some (api_Rest.mk y2.2.Number (Vector.replicate 64 0) (Vector.replicate 64 0) false y2.2.Copies true)
  else
  ((if(!y2.2.Sound)=true then
  (ZbH y2.2 l).bind fun y3=>
  (Zcc y3 0 0).bind fun y4=>
  (gd ((!y4)==true) false (Je y3.Frame y3.Number)).bind fun y5=>
  if((!y4)&&y5)=true then
  (Jv 3).bind fun y6=>
  some (api_Rest.mk y3.Number y3.Frame y6 true 1 y3.Conflict)
  else
  some y3
  else
  some y2.2):Option ((api_Rest))).bind (t1 fun(out:api_Rest)=>
  (gd (out.Sound==true) false (Zai out 3)).bind fun y7=>
  if(out.Sound&&y7)=true then
  some (api_Rest.mk out.Number out.Frame out.States out.Sound (max out.Copies 1) out.Conflict)
  else
  some out))
noncomputable def XU(l:List api_Rest)(groups2:List (Int×(List api_Rest)))(numbers2:List Int)(i:Int):Option (((List (Int×(List api_Rest)))×(List Int)×Int) ⊕ ((List (Int×(List api_Rest)))×(List Int))):=
  if(decide (i<(l.length:Int)))=true then
  (((idx l i).bind fun x=>
  (((some (ZjI (Zb8 kqI groups2 x.Number))).bind (Sum.elim (fun z=>
  if true=true then
  (app numbers2 ([x.Number]:List Int)).bind fun l2=>
  some l2
  else
  none) (fun z=>
  (ck (decide (0<z.length))).bind fun u=>
  if false=true then
  none
  else
  some numbers2))):Option (((List Int)))).bind (t1 fun(numbers4:List Int)=>
  (some (ZjI (Zb8 kqI groups2 x.Number))).bind (Sum.elim (fun z2=>
  (app [] ([x]:List api_Rest)).bind fun l3=>
  some ((Qc kqI groups2 x.Number l3),numbers4)) (fun z2=>
  (app z2 ([x]:List api_Rest)).bind fun l4=>
  some ((Qc kqI groups2 x.Number l4),numbers4))))):Option (((List (Int×(List api_Rest)))×(List Int)))).bind (t2 fun(groups3:List (Int×(List api_Rest))) (numbers3:List Int)=>
  some (.inl (groups3,numbers3,(i64 (i+1)))))
  else
  some (.inr (groups2,numbers2))
noncomputable def XO(groups:List (Int×(List api_Rest)))(y:List Int)(out2:List api_Rest)(i2:Int):Option (((List api_Rest)×Int) ⊕ ((List api_Rest))):=
  if(decide (i2<(y.length:Int)))=true then
  (idx y i2).bind fun x2=>
  (some (ZjI (Zb8 kqI groups x2))).bind (Sum.elim (fun z3=>
  (JU []).bind fun y2=>
  (app out2 ([y2]:List api_Rest)).bind fun l5=>
  some (.inl (l5,(i64 (i2+1))))) (fun z3=>
  (JU z3).bind fun y3=>
  (app out2 ([y3]:List api_Rest)).bind fun l6=>
  some (.inl (l6,(i64 (i2+1))))))
  else
  some (.inr out2)
noncomputable def Xi(l:List api_Rest):Option (List api_Rest):=
  ((loop (t3 (XU l)) (([]:List (Int×(List api_Rest))),[],0)):Option (((List (Int×(List api_Rest)))×(List Int)))).bind (t2 fun(groups:List (Int×(List api_Rest))) (numbers:List Int)=>
  (Zh1 numbers).bind fun y=>
  ((loop (t2 (XO groups y)) ([],0)):Option (((List api_Rest)))).bind (t1 fun(out:List api_Rest)=>
  some out))
noncomputable def Jr(y:salvage_finder)(i:Int)(y3:(List Int))(l5:List api_Rest)(i2:Int):Option (((List api_Rest)×Int) ⊕ ((List api_Rest))):=
  if(decide (i2<(y3.length:Int)))=true then
  (idx y3 i2).bind fun x3=>
  (QX y i x3).bind fun y4=>
  if y4.2=true then
  (app l5 ([y4.1]:List api_Rest)).bind fun l6=>
  some (.inl (l6,(i64 (i2+1))))
  else
  some (.inl (l5,(i64 (i2+1))))
  else
  some (.inr l5)
noncomputable def Jp(y:salvage_finder)(l2:List api_Rest)(i:Int):Option (((List api_Rest)×Int) ⊕ ((List api_Rest))):=
  if(decide (i<(y.certain.length:Int)))=true then
  (((idx y.certain i).bind fun x=>
  (idx y.numbers i).bind fun x2=>
  (Jv 3).bind fun y2=>
  (app l2 ([(api_Rest.mk x2 x.Frame y2 true 1 false)]:List api_Rest)).bind fun l4=>
  (Xd y i).bind fun y3=>
  loop (t2 (Jr y i y3)) (l4,0)):Option (((List api_Rest)))).bind (t1 fun(l3:List api_Rest)=>
  some (.inl (l3,(i64 (i+1)))))
  else
  some (.inr l2)
noncomputable def XZ(h_:List Int):Option (List api_Rest):=
  (JL h_).bind fun y=>
  ((loop (t2 (Jp y)) ([],0)):Option (((List api_Rest)))).bind (t1 fun(l:List api_Rest)=>
  (Xi l).bind fun y5=>
  some y5)
noncomputable def XB(f:Vector Int 64)(i:Int):Option (Vector Int 64):=
  ((if(decide (i=0))=true then
  (Xe f).bind fun y=>
  (rem y 4).bind fun q=>
  (ZA gv_frame_syncs q).bind fun x=>
  (ZA f 0).bind fun x2=>
  some (Qr f 0 x)
  else
  if(decide (i=61))=true then
  (Jl f).bind fun y2=>
  (Xa y2).bind fun y3=>
  (ZA f i).bind fun x3=>
  some (Qr f i y3)
  else
  if(decide (i=62))=true then
  (Xw f).bind fun y4=>
  (shr .i64 y4 11).bind fun q2=>
  (Xa q2).bind fun y5=>
  (ZA f i).bind fun x4=>
  some (Qr f i y5)
  else
  if(decide (i=63))=true then
  (Xw f).bind fun y6=>
  (Xa (XF .i64 y6 2047)).bind fun y7=>
  (ZA f i).bind fun x5=>
  some (Qr f i y7)
  else
  (Jl f).bind fun y8=>
  (ZA f i).bind fun x6=>
  (Xl x6).bind fun y9=>
  (ZA f 61).bind fun x7=>
  (Xl x7).bind fun y10=>
  (Xa (Zaq .i64 (Zaq .i64 y8 y9) y10)).bind fun y11=>
  (ZA f i).bind fun x8=>
  some (Qr f i y11)):Option (((Vector Int 64)))).bind (t1 fun(f2:Vector Int 64)=>
  some f2)
noncomputable def Za3(f:Vector Int 64)(i:Int):Option ((Vector Int 64)×Bool):=
  if((decide (i<0)) || (decide (64≤i)))=true then
  some ((#v[0,0,0,0,0,0,0,0,0,0,0,0,0,0,0,0,0,0,0,0,0,0,0,0,0,0,0,0,0,0,0,0,0,0,0,0,0,0,0,0,0,0,0,0,0,0,0,0,0,0,0,0,0,0,0,0,0,0,0,0,0,0,0,0]:Vector Int 64),false)
  else
  (ZA f i).bind fun x=>
  (ZcM (Qr f i 0)).bind fun y=>
  if y=true then
  some ((#v[0,0,0,0,0,0,0,0,0,0,0,0,0,0,0,0,0,0,0,0,0,0,0,0,0,0,0,0,0,0,0,0,0,0,0,0,0,0,0,0,0,0,0,0,0,0,0,0,0,0,0,0,0,0,0,0,0,0,0,0,0,0,0,0]:Vector Int 64),false)
  else
  (XB (Qr f i 0) i).bind fun y2=>
  (Zb2 y2).bind fun y3=>
  if(!y3)=true then
  some ((#v[0,0,0,0,0,0,0,0,0,0,0,0,0,0,0,0,0,0,0,0,0,0,0,0,0,0,0,0,0,0,0,0,0,0,0,0,0,0,0,0,0,0,0,0,0,0,0,0,0,0,0,0,0,0,0,0,0,0,0,0,0,0,0,0]:Vector Int 64),false)
  else
  some (y2,true)
noncomputable def Ja(r_:api_Rest)(lost2:Int)(place2:Int)(i:Int):Option ((Int×Int×Int) ⊕ (Int×Int)):=
  if(decide (i<64))=true then
  (ZA r_.States i).bind fun x=>
  if(decide (x=0))=true then
  some (.inl ((i64 (lost2+1)),i,(i64 (i+1))))
  else
  some (.inl (lost2,place2,(i64 (i+1))))
  else
  some (.inr (lost2,place2))
noncomputable def Xy(r_:api_Rest):Option api_Rest:=
  if(r_.Sound || r_.Conflict)=true then
  some r_
  else
  ((loop (t3 (Ja r_)) (0,0,0)):Option ((Int×Int))).bind (t2 fun(lost:Int) (place:Int)=>
  if(!decide (lost=1))=true then
  some r_
  else
  (Za3 r_.Frame place).bind fun y=>
  (gd ((!y.2)==false) false (Je y.1 r_.Number)).bind fun y2=>
  if((!y.2) || (!y2))=true then
  some r_
  else
  (Jv 3).bind fun y3=>
  (ZA y3 place).bind fun x2=>
  some (api_Rest.mk r_.Number y.1 (Qr y3 place 2) true 0 r_.Conflict))
noncomputable def XM(l:List api_Piece)(i:Int):Option ((Int) ⊕ ((List api_Rest)×Int) ⊕ (Unit)):=
  if(decide (i<(l.length:Int)))=true then
  (idx l i).bind fun x=>
  (Ju x).bind fun y=>
  if(!decide (y=0))=true then
  some (.inr (.inl ([],y)))
  else
  some (.inl (i64 (i+1)))
  else
  some (.inr (.inr ()))
noncomputable def XQ(l:List api_Piece)(parts2:List api_Rest)(i2:Int):Option (((List api_Rest)×Int) ⊕ ((List api_Rest))):=
  if(decide (i2<(l.length:Int)))=true then
  (idx l i2).bind fun x2=>
  (Zac x2).bind fun y2=>
  (XZ y2).bind fun y3=>
  (app parts2 y3).bind fun l2=>
  some (.inl (l2,(i64 (i2+1))))
  else
  some (.inr parts2)
noncomputable def XL(y4:(List api_Rest))(out2:List api_Rest)(i3:Int):Option (((List api_Rest)×Int) ⊕ ((List api_Rest))):=
  if(decide (i3<(y4.length:Int)))=true then
  (idx out2 i3).bind fun x5=>
  (Xy x5).bind fun y5=>
  (idx out2 i3).bind fun x6=>
  some (.inl ((out2.set i3.toNat y5),(i64 (i3+1))))
  else
  some (.inr out2)
noncomputable def ZaB(l:List api_Piece):Option ((List api_Rest)×Int):=
  if(decide (200<(l.length:Int)))=true then
  some ([],3)
  else
  ((loop (t1 (XM l)) 0):Option (((List api_Rest)×Int) ⊕ (Unit))).bind (Sum.elim (fun q'=>some q') (t0 (((loop (t2 (XQ l)) ([],0)):Option (((List api_Rest)))).bind (t1 fun(parts:List api_Rest)=>
  (Xi parts).bind fun y4=>
  (gd ((decide (0<(y4.length:Int)))==true) (api_Rest.mk 0 (Vector.replicate 64 0) (Vector.replicate 64 0) false 0 false) (idx y4 (i64 ((y4.length:Int)-1)))).bind fun x3=>
  (gd ((decide (0<(y4.length:Int)))==true) (api_Rest.mk 0 (Vector.replicate 64 0) (Vector.replicate 64 0) false 0 false) (idx y4 0)).bind fun x4=>
  if((decide (0<(y4.length:Int)))&&(decide (100000<(i64 (x3.Number-x4.Number)))))=true then
  some ([],3)
  else
  ((loop (t2 (XL y4)) (y4,0)):Option (((List api_Rest)))).bind (t1 fun(out:List api_Rest)=>
  some (out,0))))))
noncomputable def JJ(p:api_Piece):Option Int:=
  if(decide (200000<(p.Bytes.length:Int)))=true then
  some 3
  else
  (gd ((p.Half==true)&&((decide ((p.Bytes.length:Int)=0))==false)) 0 (idx p.Bytes 0)).bind fun x=>
  if(p.Half&&((decide ((p.Bytes.length:Int)=0)) || (decide (15<x))))=true then
  some 2
  else
  some 0
noncomputable def Za5(p:api_Piece)(out2:List Int)(i:Int):Option (((List Int)×Int) ⊕ ((List Int))):=
  if(decide (i<(p.Bytes.length:Int)))=true then
  (idx p.Bytes i).bind fun x=>
  ((if((decide (0<i)) || (!p.Half))=true then
  (quo .u8 x 16).bind fun q=>
  (app out2 ([q]:List Int)).bind fun l=>
  some l
  else
  some out2):Option (((List Int)))).bind (t1 fun(out3:List Int)=>
  (rem x 16).bind fun q2=>
  (app out3 ([q2]:List Int)).bind fun l2=>
  some (.inl (l2,(i64 (i+1)))))
  else
  some (.inr out2)
noncomputable def Zaf(p:api_Piece):Option (List Int):=
  ((loop (t2 (Za5 p)) ([],0)):Option (((List Int)))).bind (t1 fun(out:List Int)=>
  some out)
noncomputable def XE(h_:List Int)(at_:Int)(f2:Vector Int 64)(whole2:Vector Bool 64)(i:Int):Option (((Vector Int 64)×(Vector Bool 64)×Int) ⊕ ((Vector Int 64)×(Vector Bool 64))):=
  if(decide (i<64))=true then
  if((decide ((i64 (at_+(i64 (3*i))))<0)) || (decide ((h_.length:Int)<(i64 ((i64 (at_+(i64 (3*i))))+3)))))=true then
  some (.inl (f2,whole2,(i64 (i+1))))
  else
  (ZA whole2 i).bind fun x=>
  (idx h_ (i64 (at_+(i64 (3*i))))).bind fun x2=>
  (idx h_ (i64 ((i64 (at_+(i64 (3*i))))+1))).bind fun x3=>
  (idx h_ (i64 ((i64 (at_+(i64 (3*i))))+2))).bind fun x4=>
  (ZA f2 i).bind fun x5=>
  some (.inl ((Qr f2 i (u16 ((u16 ((u16 ((u16 x2)*256))+(u16 ((u16 x3)*16))))+(u16 x4)))),(Qr whole2 i true),(i64 (i+1))))
  else
  some (.inr (f2,whole2))
noncomputable def Zam(h_:List Int)(at_:Int):Option ((Vector Int 64)×(Vector Bool 64)):=
  ((loop (t3 (XE h_ at_)) ((#v[0,0,0,0,0,0,0,0,0,0,0,0,0,0,0,0,0,0,0,0,0,0,0,0,0,0,0,0,0,0,0,0,0,0,0,0,0,0,0,0,0,0,0,0,0,0,0,0,0,0,0,0,0,0,0,0,0,0,0,0,0,0,0,0]:Vector Int 64),(#v[false,false,false,false,false,false,false,false,false,false,false,false,false,false,false,false,false,false,false,false,false,false,false,false,false,false,false,false,false,false,false,false,false,false,false,false,false,false,false,false,false,false,false,false,false,false,false,false,false,false,false,false,false,false,false,false,false,false,false,false,false,false,false,false]:Vector Bool 64),0)):Option (((Vector Int 64)×(Vector Bool 64)))).bind (t2 fun(f:Vector Int 64) (whole:Vector Bool 64)=>
  some (f,whole))
noncomputable def JX(f:Vector Int 64):Option Int:=
  (ZA f 1).bind fun x=>
  (rem (i64 x) 2048).bind fun q=>
  (ZA f 2).bind fun x2=>
  (rem (i64 x2) 2048).bind fun q2=>
  some (i64 (q+(i64 (q2*2048))))
noncomputable def ZaP(number:Int):Option Int:=
  (rem number 4).bind fun q=>
  (ZA (#v[583,1464,2631,3512]:Vector Int 4) q).bind fun x=>
  some x
noncomputable def Zeb(n2:Int)(ones2:Int):Option ((Int×Int) ⊕ (Int)):=
  if(decide (0<n2))=true then
  (rem n2 2).bind fun q=>
  (quo .i64 n2 2).bind fun q2=>
  some (.inl (q2,(i64 (ones2+q))))
  else
  some (.inr ones2)
noncomputable def Zci(n:Int):Option Bool:=
  ((loop (t2 (Zeb)) (n,0)):Option ((Int))).bind (t1 fun(ones:Int)=>
  (rem ones 2).bind fun q3=>
  some (decide (q3=1)))
noncomputable def Zc6(f:Vector Int 64)(x2:Int)(i:Int):Option ((Int×Int) ⊕ (Int)):=
  if(decide (i≤60))=true then
  (ZA f i).bind fun x3=>
  (rem (i64 x3) 2048).bind fun q=>
  some (.inl ((Zaq .i64 x2 q),(i64 (i+1))))
  else
  some (.inr x2)
noncomputable def ZdY(f:Vector Int 64):Option Int:=
  ((loop (t2 (Zc6 f)) (0,1)):Option ((Int))).bind (t1 fun(x:Int)=>
  some x)
noncomputable def Zbw(f:Vector Int 64)(rest2:Int)(i:Int):Option ((Int×Int) ⊕ (Int)):=
  if(decide (i<766))=true then
  ((if(decide (i<744))=true then
  (quo .i64 i 12).bind fun q=>
  (ZA f q).bind fun x=>
  (rem i 12).bind fun q2=>
  (shr .i64 (i64 x) (i64 (11-q2))).bind fun q3=>
  some (XF .i64 q3 1)
  else
  some 0):Option ((Int))).bind (t1 fun(bit:Int)=>
  if(decide (4194304≤(i64 ((i64 (rest2*2))+bit))))=true then
  some (.inl ((Zaq .i64 (i64 ((i64 (rest2*2))+bit)) 6291471),(i64 (i+1))))
  else
  some (.inl ((i64 ((i64 (rest2*2))+bit)),(i64 (i+1)))))
  else
  some (.inr rest2)
noncomputable def ZbY(f:Vector Int 64):Option Int:=
  ((loop (t2 (Zbw f)) (0,0)):Option ((Int))).bind (t1 fun(rest:Int)=>
  some rest)
noncomputable def Zbp(f:Vector Int 64)(out2:List api_Flaw)(i:Int):Option (((List api_Flaw)×Int) ⊕ ((List api_Flaw))):=
  if(decide (i<64))=true then
  (ZA f i).bind fun x=>
  if(decide (4095<x))=true then
  (app out2 ([(api_Flaw.mk i 5)]:List api_Flaw)).bind fun l=>
  some (.inl (l,(i64 (i+1))))
  else
  some (.inl (out2,(i64 (i+1))))
  else
  some (.inr out2)
noncomputable def Zbr(f:Vector Int 64)(out5:List api_Flaw)(i2:Int):Option (((List api_Flaw)×Int) ⊕ ((List api_Flaw))):=
  if(decide (i2<64))=true then
  (ZA f i2).bind fun x3=>
  (Zci (i64 x3)).bind fun y3=>
  if(!y3)=true then
  (app out5 ([(api_Flaw.mk i2 2)]:List api_Flaw)).bind fun l3=>
  some (.inl (l3,(i64 (i2+1))))
  else
  some (.inl (out5,(i64 (i2+1))))
  else
  some (.inr out5)
noncomputable def ZdP(f:Vector Int 64):Option (List api_Flaw):=
  ((loop (t2 (Zbp f)) ([],0)):Option (((List api_Flaw)))).bind (t1 fun(out:List api_Flaw)=>
  if(decide (0<(out.length:Int)))=true then
  some out
  else
  (((ZA f 0).bind fun x2=>
  (JX f).bind fun y=>
  (ZaP y).bind fun y2=>
  if(!decide ((i64 x2)=y2))=true then
  (app out ([(api_Flaw.mk 0 1)]:List api_Flaw)).bind fun l2=>
  some l2
  else
  some out):Option (((List api_Flaw)))).bind (t1 fun(out3:List api_Flaw)=>
  ((loop (t2 (Zbr f)) (out3,1)):Option (((List api_Flaw)))).bind (t1 fun(out4:List api_Flaw)=>
  (((ZA f 61).bind fun x4=>
  (rem (i64 x4) 2048).bind fun q=>
  (ZdY f).bind fun y4=>
  if(!decide (q=y4))=true then
  (app out4 ([(api_Flaw.mk 61 3)]:List api_Flaw)).bind fun l4=>
  some l4
  else
  some out4):Option (((List api_Flaw)))).bind (t1 fun(out6:List api_Flaw)=>
  (ZA f 62).bind fun x5=>
  (rem (i64 x5) 2048).bind fun q2=>
  (ZA f 63).bind fun x6=>
  (rem (i64 x6) 2048).bind fun q3=>
  (ZbY f).bind fun y5=>
  if(!decide ((i64 ((i64 (q2*2048))+q3))=y5))=true then
  (app out6 ([(api_Flaw.mk 62 4)]:List api_Flaw)).bind fun l5=>
  some l5
  else
  some out6))))
noncomputable def ZbV(f:Vector Int 64):Option Bool:=
  (ZdP f).bind fun y=>
  some (decide ((y.length:Int)=0))
noncomputable def ZcF(h_:List Int)(out2:List api_Found)(at_:Int):Option (((List api_Found)×Int) ⊕ ((List api_Found))):=
  if(decide ((i64 (at_+192))≤(h_.length:Int)))=true then
  (((idx h_ at_).bind fun x=>
  (idx h_ (i64 (at_+1))).bind fun x2=>
  (idx h_ (i64 (at_+2))).bind fun x3=>
  if((((!decide ((i64 ((i64 ((i64 ((i64 x)*256))+(i64 ((i64 x2)*16))))+(i64 x3)))=583))&&(!decide ((i64 ((i64 ((i64 ((i64 x)*256))+(i64 ((i64 x2)*16))))+(i64 x3)))=1464)))&&(!decide ((i64 ((i64 ((i64 ((i64 x)*256))+(i64 ((i64 x2)*16))))+(i64 x3)))=2631)))&&(!decide ((i64 ((i64 ((i64 ((i64 x)*256))+(i64 ((i64 x2)*16))))+(i64 x3)))=3512)))=true then
  some out2
  else
  (Zam h_ at_).bind fun y=>
  (ZbV y.1).bind fun y2=>
  if y2=true then
  (app out2 ([(api_Found.mk at_ y.1)]:List api_Found)).bind fun l=>
  some l
  else
  some out2):Option (((List api_Found)))).bind (t1 fun(out3:List api_Found)=>
  some (.inl (out3,(i64 (at_+1)))))
  else
  some (.inr out2)
noncomputable def ZdD(h_:List Int):Option (List api_Found):=
  ((loop (t2 (ZcF h_)) ([],0)):Option (((List api_Found)))).bind (t1 fun(out:List api_Found)=>
  some out)
noncomputable def ZeK(p:api_Piece):Option ((List api_Found)×Int):=
  (JJ p).bind fun y=>
  if(!decide (y=0))=true then
  some ([],y)
  else
  (Zaf p).bind fun y2=>
  (ZdD y2).bind fun y3=>
  some (y3,0)
noncomputable def Q2(a:Int)(b:Int):Option Int:=
  if(decide (a<b))=true then
  some (i64 (b-a))
  else
  some (i64 (a-b))
noncomputable def JK(l:List api_Found)(out2:List api_Found)(i:Int):Option (((List api_Found)×Int) ⊕ ((List api_Found))):=
  if(decide (i<(l.length:Int)))=true then
  (idx l i).bind fun x=>
  (gd ((decide (i=0))==false) (api_Found.mk 0 (Vector.replicate 64 0)) (idx l (i64 (i-1)))).bind fun x2=>
  (gd ((decide (i=0))==false) 0 (Q2 x2.At x.At)).bind fun y=>
  (gd ((((decide (i=0)) || (decide (192≤y)))==true)&&((decide ((i64 (i+1))=(l.length:Int)))==false)) (api_Found.mk 0 (Vector.replicate 64 0)) (idx l (i64 (i+1)))).bind fun x3=>
  (gd ((((decide (i=0)) || (decide (192≤y)))==true)&&((decide ((i64 (i+1))=(l.length:Int)))==false)) 0 (Q2 x3.At x.At)).bind fun y2=>
  if(((decide (i=0)) || (decide (192≤y)))&&((decide ((i64 (i+1))=(l.length:Int))) || (decide (192≤y2))))=true then
  (app out2 ([x]:List api_Found)).bind fun l2=>
  some (.inl (l2,(i64 (i+1))))
  else
  some (.inl (out2,(i64 (i+1))))
  else
  some (.inr out2)
noncomputable def Za8(l:List api_Found):Option (List api_Found):=
  ((loop (t2 (JK l)) ([],0)):Option (((List api_Found)))).bind (t1 fun(out:List api_Found)=>
  some out)
noncomputable def Zb9(p:api_Piece):Option ((List api_Found)×Int):=
  (ZeK p).bind fun y=>
  (Za8 y.1).bind fun y2=>
  some (y2,y.2)
noncomputable def JW(w:Int):Option Bool:=
  (gd ((decide (w≤4095))==true) false (Zci (i64 w))).bind fun y=>
  some ((decide (w≤4095))&&y)
noncomputable def Zag(f:Vector Int 64):Option (Int×Bool):=
  (ZA f 1).bind fun x=>
  (JW x).bind fun y=>
  (gd ((!y)==false) 0 (ZA f 2)).bind fun x2=>
  (gd ((!y)==false) false (JW x2)).bind fun y2=>
  if((!y) || (!y2))=true then
  some (0,false)
  else
  (JX f).bind fun y3=>
  some (y3,true)
noncomputable def Qw(x:api_Kept)(y5:(List api_Found)×Int)(whole4:Bool)(i3:Int):Option ((Bool×Int) ⊕ (Bool)):=
  if(decide (i3<(y5.1.length:Int)))=true then
  (idx y5.1 i3).bind fun x3=>
  some (.inl ((whole4 || (decide (x3.Frame=x.Frame))),(i64 (i3+1))))
  else
  some (.inr whole4)
noncomputable def Qu(y3:(List api_Piece)×Int)(x:api_Kept)(whole2:Bool)(i2:Int):Option ((Bool×Int) ⊕ (Bool) ⊕ (Bool)):=
  if(decide (i2<(y3.1.length:Int)))=true then
  (((idx y3.1 i2).bind fun x2=>
  (Zb9 x2).bind fun y5=>
  if(!decide (y5.2=0))=true then
  some (.inl false)
  else
  (loop (t2 (Qw x y5)) (whole2,0)).bind (fun q'=>some (.inr q'))):Option ((Bool) ⊕ (Bool))).bind (Sum.elim (fun q'=>some (.inr (.inl q'))) (t1 fun(whole3:Bool)=>
  some (.inl (whole3,(i64 (i2+1))))))
  else
  some (.inr (.inr whole2))
noncomputable def Qt(y4:(List api_Rest)×Int)(x:api_Kept)(y6:Int×Bool)(found2:Bool)(i4:Int):Option ((Bool×Int) ⊕ (Bool)):=
  if(decide (i4<(y4.1.length:Int)))=true then
  (idx y4.1 i4).bind fun x4=>
  some (.inl ((found2 || ((decide (x4.Number=y6.1))&&(x4.Conflict || (x4.Sound&&(decide (x4.Frame=x.Frame)))))),(i64 (i4+1))))
  else
  some (.inr found2)
noncomputable def QN(y2:(List api_Kept)×Int)(y3:(List api_Piece)×Int)(y4:(List api_Rest)×Int)(i:Int):Option ((Int) ⊕ (Bool) ⊕ (Unit)):=
  if(decide (i<(y2.1.length:Int)))=true then
  (idx y2.1 i).bind fun x=>
  ((loop (t2 (Qu y3 x)) (false,0)):Option ((Bool) ⊕ (Bool))).bind (Sum.elim (fun q'=>some (.inr (.inl q'))) (t1 fun(whole:Bool)=>
  if(!whole)=true then
  some (.inl (i64 (i+1)))
  else
  (Zag x.Frame).bind fun y6=>
  ((loop (t2 (Qt y4 x y6)) (false,0)):Option ((Bool))).bind (t1 fun(found:Bool)=>
  if(!found)=true then
  some (.inr (.inl false))
  else
  some (.inl (i64 (i+1))))))
  else
  some (.inr (.inr ()))
noncomputable def Xx(l:List api_Memory)(cuts:List Int):Option Bool:=
  (ZdF).bind fun y=>
  if(!y)=true then
  some false
  else
  (Zca l).bind fun y2=>
  if(!decide (y2.2=0))=true then
  some true
  else
  (ZaT l cuts).bind fun y3=>
  if(!decide (y3.2=0))=true then
  some true
  else
  (ZaB y3.1).bind fun y4=>
  if(!decide (y4.2=0))=true then
  some (decide (y4.2=3))
  else
  ((loop (t1 (QN y2 y3 y4)) 0):Option ((Bool) ⊕ (Unit))).bind (Sum.elim (fun q'=>some q') (t0 (some true)))
noncomputable def Jh(l:List api_Piece)(i:Int):Option ((Int) ⊕ (Int) ⊕ (Unit)):=
  if(decide (i<(l.length:Int)))=true then
  (idx l i).bind fun x=>
  (JJ x).bind fun y=>
  if(!decide (y=0))=true then
  some (.inr (.inl y))
  else
  some (.inl (i64 (i+1)))
  else
  some (.inr (.inr ()))
noncomputable def ZeB(l:List api_Piece):Option Int:=
  if(decide (200<(l.length:Int)))=true then
  some 3
  else
  ((loop (t1 (Jh l)) 0):Option ((Int) ⊕ (Unit))).bind (Sum.elim (fun q'=>some q') (t0 (some 0)))
noncomputable def JP(f:Vector Int 64):Option Int:=
  (Zag f).bind fun y=>
  some y.1
noncomputable def ZbL(l:List api_Found)(at_:Int)(best2:Int)(i:Int):Option ((Int×Int) ⊕ (Int)):=
  if(decide (i<(l.length:Int)))=true then
  (idx l i).bind fun x=>
  (gd ((decide (best2<0))==false) 0 (Q2 x.At at_)).bind fun y=>
  (gd ((decide (best2<0))==false) (api_Found.mk 0 (Vector.replicate 64 0)) (idx l best2)).bind fun x2=>
  (gd ((decide (best2<0))==false) 0 (Q2 x2.At at_)).bind fun y2=>
  if((decide (best2<0)) || (decide (y<y2)))=true then
  some (.inl (i,(i64 (i+1))))
  else
  some (.inl (best2,(i64 (i+1))))
  else
  some (.inr best2)
noncomputable def ZdB(l:List api_Found)(at_:Int):Option Int:=
  ((loop (t2 (ZbL l at_)) ((-1),0)):Option ((Int))).bind (t1 fun(best:Int)=>
  some best)
noncomputable def ZdI(number:Int):Option (Int×Int):=
  if((decide (number<0)) || (decide (4194304≤number)))=true then
  some (0,9)
  else
  (ZaP number).bind fun y=>
  some (y,0)
noncomputable def ZcD(f:Vector Int 64)(whole:Vector Bool 64):Option (Int×Bool):=
  (ZA whole 0).bind fun x=>
  (gd ((!x)==false) false (ZA whole 1)).bind fun x2=>
  (gd (((!x) || (!x2))==false) false (ZA whole 2)).bind fun x3=>
  if(((!x) || (!x2)) || (!x3))=true then
  some (0,false)
  else
  (Zag f).bind fun y=>
  if(!y.2)=true then
  some (0,false)
  else
  (ZdI y.1).bind fun y2=>
  (ZA f 0).bind fun x4=>
  some (y.1,(decide ((i64 x4)=y2.1)))
noncomputable def Ji(l:List api_Found)(c_:Int)(at_:Int)(best2:Int)(i:Int):Option ((Int×Int) ⊕ (Int)):=
  if(decide (i<(l.length:Int)))=true then
  (idx l i).bind fun x=>
  (gd ((decide (i=c_))==false) (api_Found.mk 0 (Vector.replicate 64 0)) (idx l c_)).bind fun x2=>
  (gd ((decide (i=c_))==false) 0 (rem (i64 (x.At-x2.At)) 194)).bind fun q=>
  if((decide (i=c_)) || (!decide (q=0)))=true then
  some (.inl (best2,(i64 (i+1))))
  else
  (gd ((decide (best2<0))==false) 0 (Q2 x.At at_)).bind fun y=>
  (gd ((decide (best2<0))==false) (api_Found.mk 0 (Vector.replicate 64 0)) (idx l best2)).bind fun x3=>
  (gd ((decide (best2<0))==false) 0 (Q2 x3.At at_)).bind fun y2=>
  if((decide (best2<0)) || (decide (y<y2)))=true then
  some (.inl (i,(i64 (i+1))))
  else
  some (.inl (best2,(i64 (i+1))))
  else
  some (.inr best2)
noncomputable def Zba(l:List api_Found)(c_:Int)(at_:Int):Option (Int×Bool):=
  ((loop (t2 (Ji l c_ at_)) ((-1),0)):Option ((Int))).bind (t1 fun(best:Int)=>
  if(decide (best<0))=true then
  some (0,false)
  else
  (idx l c_).bind fun x4=>
  (quo .i64 (i64 (at_-x4.At)) 194).bind fun q2=>
  (idx l best).bind fun x5=>
  (idx l c_).bind fun x6=>
  (quo .i64 (i64 (x5.At-x6.At)) 194).bind fun q3=>
  (idx l c_).bind fun x7=>
  (JP x7.Frame).bind fun y3=>
  (idx l best).bind fun x8=>
  (JP x8.Frame).bind fun y4=>
  (idx l c_).bind fun x9=>
  (JP x9.Frame).bind fun y5=>
  (gd (((decide ((i64 (y4-y5))=0)) || (!((decide (0<(i64 (y4-y5))))==(decide (0<q3)))))==false) 0 (rem (i64 (y4-y5)) q3)).bind fun q4=>
  if(((decide ((i64 (y4-y5))=0)) || (!((decide (0<(i64 (y4-y5))))==(decide (0<q3))))) || (!decide (q4=0)))=true then
  some (0,false)
  else
  (quo .i64 (i64 (y4-y5)) q3).bind fun q5=>
  some ((i64 (y3+(i64 (q2*q5)))),((decide (0≤(i64 (y3+(i64 (q2*q5))))))&&(decide ((i64 (y3+(i64 (q2*q5))))<4194304)))))
noncomputable def Zcn(f:Vector Int 64)(whole:Vector Bool 64)(n:Int)(y:Int×Int)(r_2:api_Rest)(i:Int):Option ((api_Rest×Int) ⊕ (api_Rest)):=
  if(decide (i<64))=true then
  (ZA whole i).bind fun x=>
  (gd (x==true) 0 (ZA f i)).bind fun x2=>
  (gd (x==true) false (JW x2)).bind fun y2=>
  ((if(decide (i=0))=true then
  (ZA whole i).bind fun x3=>
  (gd (x3==true) 0 (ZA f i)).bind fun x4=>
  some (x3&&(decide ((i64 x4)=y.1)))
  else
  if(decide (i=1))=true then
  (gd ((x&&y2)==true) 0 (ZA f i)).bind fun x5=>
  (gd ((x&&y2)==true) 0 (rem (i64 x5) 2048)).bind fun q=>
  (gd ((x&&y2)==true) 0 (rem n 2048)).bind fun q2=>
  some ((x&&y2)&&(decide (q=q2)))
  else
  if(decide (i=2))=true then
  (gd ((x&&y2)==true) 0 (ZA f i)).bind fun x6=>
  (gd ((x&&y2)==true) 0 (rem (i64 x6) 2048)).bind fun q3=>
  (gd ((x&&y2)==true) 0 (quo .i64 n 2048)).bind fun q4=>
  some ((x&&y2)&&(decide (q3=q4)))
  else
  some (x&&y2)):Option ((Bool))).bind (t1 fun(right:Bool)=>
  if right=true then
  (ZA f i).bind fun x7=>
  (ZA r_2.Frame i).bind fun x8=>
  (ZA r_2.States i).bind fun x9=>
  some (.inl ((api_Rest.mk r_2.Number (Qr r_2.Frame i x7) (Qr r_2.States i 1) r_2.Sound r_2.Copies r_2.Conflict),(i64 (i+1))))
  else
  some (.inl (r_2,(i64 (i+1)))))
  else
  some (.inr r_2)
noncomputable def Zb5(f:Vector Int 64)(whole:Vector Bool 64)(n:Int):Option api_Rest:=
  (ZdI n).bind fun y=>
  ((loop (t2 (Zcn f whole n y)) ((api_Rest.mk n (Vector.replicate 64 0) (Vector.replicate 64 0) false 0 false),0)):Option ((api_Rest))).bind (t1 fun(r_:api_Rest)=>
  some r_)
noncomputable def ZaZ(r_:api_Rest):Option Bool:=
  some (decide (r_.States=(#v[0,0,0,0,0,0,0,0,0,0,0,0,0,0,0,0,0,0,0,0,0,0,0,0,0,0,0,0,0,0,0,0,0,0,0,0,0,0,0,0,0,0,0,0,0,0,0,0,0,0,0,0,0,0,0,0,0,0,0,0,0,0,0,0]:Vector Int 64)))
noncomputable def ZbB(States2:Vector Int 64)(i2:Int):Option (((Vector Int 64)×Int) ⊕ ((Vector Int 64))):=
  if(decide (i2<64))=true then
  (ZA States2 i2).bind fun x2=>
  some (.inl ((Qr States2 i2 3),(i64 (i2+1))))
  else
  some (.inr States2)
noncomputable def ZcV(y2:(List api_Found))(out2:List api_Rest)(i:Int):Option (((List api_Rest)×Int) ⊕ ((List api_Rest))):=
  if(decide (i<(y2.length:Int)))=true then
  (idx y2 i).bind fun x=>
  (JP x.Frame).bind fun y3=>
  ((loop (t2 (ZbB)) ((Vector.replicate 64 0),0)):Option (((Vector Int 64)))).bind (t1 fun(States:Vector Int 64)=>
  (app out2 ([(api_Rest.mk y3 x.Frame States true 1 false)]:List api_Rest)).bind fun l=>
  some (.inl (l,(i64 (i+1)))))
  else
  some (.inr out2)
noncomputable def ZcX(h_:List Int)(y2:(List api_Found))(i3:Int)(out6:List api_Rest)(at_:Int):Option (((List api_Rest)×Int) ⊕ ((List api_Rest))):=
  if(decide (at_<(h_.length:Int)))=true then
  (((gd ((decide (at_<(-191)))==false) 0 (ZdB y2 at_)).bind fun y4=>
  (gd (((decide (at_<(-191))) || (!decide (y4=i3)))==false) 0 (ZdB y2 at_)).bind fun y5=>
  (gd (((decide (at_<(-191))) || (!decide (y4=i3)))==false) (api_Found.mk 0 (Vector.replicate 64 0)) (idx y2 y5)).bind fun x4=>
  (gd (((decide (at_<(-191))) || (!decide (y4=i3)))==false) 0 (Q2 x4.At at_)).bind fun y6=>
  if(((decide (at_<(-191))) || (!decide (y4=i3))) || (decide (y6<192)))=true then
  some out6
  else
  (Zam h_ at_).bind fun y7=>
  (ZcD y7.1 y7.2).bind fun y8=>
  ((if(!y8.2)=true then
  (Zba y2 i3 at_).bind fun y9=>
  some (y9.1,y9.2)
  else
  some (y8.1,y8.2)):Option ((Int×Bool))).bind (t2 fun(n:Int) (ok:Bool)=>
  (Zb5 y7.1 y7.2 n).bind fun y10=>
  (gd (ok==true) false (ZaZ y10)).bind fun y11=>
  if(ok&&(!y11))=true then
  (app out6 ([y10]:List api_Rest)).bind fun l2=>
  some l2
  else
  some out6)):Option (((List api_Rest)))).bind (t1 fun(out7:List api_Rest)=>
  some (.inl (out7,(i64 (at_+194)))))
  else
  some (.inr out6)
noncomputable def ZcZ(h_:List Int)(y2:(List api_Found))(out4:List api_Rest)(i3:Int):Option (((List api_Rest)×Int) ⊕ ((List api_Rest))):=
  if(decide (i3<(y2.length:Int)))=true then
  (((idx y2 i3).bind fun x3=>
  (quo .i64 x3.At 194).bind fun q=>
  loop (t2 (ZcX h_ y2 i3)) (out4,(i64 ((i64 (x3.At-(i64 (q*194))))-194)))):Option (((List api_Rest)))).bind (t1 fun(out5:List api_Rest)=>
  some (.inl (out5,(i64 (i3+1)))))
  else
  some (.inr out4)
noncomputable def ZdU(h_:List Int):Option (List api_Rest):=
  (ZdD h_).bind fun y=>
  (Za8 y).bind fun y2=>
  ((loop (t2 (ZcV y2)) ([],0)):Option (((List api_Rest)))).bind (t1 fun(out:List api_Rest)=>
  ((loop (t2 (ZcZ h_ y2)) (out,0)):Option (((List api_Rest)))).bind (t1 fun(out3:List api_Rest)=>
  some out3))
noncomputable def Zar(r_:api_Rest)(i:Int):Option ((Int) ⊕ (Bool) ⊕ (Unit)):=
  if(decide (i<64))=true then
  (ZA r_.States i).bind fun x=>
  if(!decide (x=3))=true then
  some (.inr (.inl false))
  else
  some (.inl (i64 (i+1)))
  else
  some (.inr (.inr ()))
noncomputable def ZeS(r_:api_Rest):Option Bool:=
  ((loop (t1 (Zar r_)) 0):Option ((Bool) ⊕ (Unit))).bind (Sum.elim (fun q'=>some q') (t0 (some true)))
noncomputable def Zcp(l:List api_Rest)(i:Int)(w2:Int)(some_2:Bool)(i2:Int):Option ((Int×Bool×Int) ⊕ (Int×Bool) ⊕ (Int×Bool)):=
  if(decide (i2<(l.length:Int)))=true then
  (idx l i2).bind fun x=>
  (ZA x.States i).bind fun x2=>
  if(decide (x2=0))=true then
  some (.inl (w2,some_2,(i64 (i2+1))))
  else
  (gd (some_2==true) 0 (ZA x.Frame i)).bind fun x3=>
  if(some_2&&(!decide (w2=x3)))=true then
  some (.inr (.inl (0,false)))
  else
  (ZA x.Frame i).bind fun x4=>
  some (.inl (x4,true,(i64 (i2+1))))
  else
  some (.inr (.inr (w2,some_2)))
noncomputable def ZfP(l:List api_Rest)(i:Int):Option (Int×Bool):=
  ((loop (t3 (Zcp l i)) (0,false,0)):Option ((Int×Bool) ⊕ (Int×Bool))).bind (Sum.elim (fun q'=>some q') (t2 fun(w:Int) (some_:Bool)=>
  some (w,some_)))
noncomputable def ZaD(out2:api_Rest)(x2:api_Rest)(Conflict:Bool)(States:Vector Int 64)(i2:Int):Option (((Vector Int 64)×Int) ⊕ (api_Rest)):=
  if(decide (i2<64))=true then
  (ZA x2.States i2).bind fun x3=>
  (ZA States i2).bind fun x4=>
  (ZA States i2).bind fun x5=>
  some (.inl ((Qr States i2 (max x4 x3)),(i64 (i2+1))))
  else
  some (.inr (api_Rest.mk out2.Number x2.Frame States true (i64 (out2.Copies+x2.Copies)) Conflict))
noncomputable def ZbC(l:List api_Rest)(out2:api_Rest)(i:Int):Option ((api_Rest×Int) ⊕ (api_Rest)):=
  if(decide (i<(l.length:Int)))=true then
  (((idx l i).bind fun x2=>
  if(!x2.Sound)=true then
  some (api_Rest.mk out2.Number out2.Frame out2.States out2.Sound (i64 (out2.Copies+x2.Copies)) (out2.Conflict || x2.Conflict))
  else
  ((if(out2.Sound&&(!(decide (out2.Frame=x2.Frame))))=true then
  some true
  else
  some (out2.Conflict || x2.Conflict)):Option ((Bool))).bind (t1 fun(Conflict:Bool)=>
  ((some ()):Option ((Unit))).bind (t0 (loop (t2 (ZaD out2 x2 Conflict)) (out2.States,0))))):Option ((api_Rest))).bind (t1 fun(out3:api_Rest)=>
  some (.inl (out3,(i64 (i+1)))))
  else
  some (.inr out2)
noncomputable def Zbx(l:List api_Rest)(out5:api_Rest)(whole2:Bool)(i3:Int):Option ((api_Rest×Bool×Int) ⊕ (api_Rest×Bool)):=
  if(decide (i3<64))=true then
  (ZfP l i3).bind fun y2=>
  if y2.2=true then
  (ZA out5.Frame i3).bind fun x6=>
  (ZA out5.States i3).bind fun x7=>
  some (.inl ((api_Rest.mk out5.Number (Qr out5.Frame i3 y2.1) (Qr out5.States i3 1) out5.Sound out5.Copies out5.Conflict),(whole2&&y2.2),(i64 (i3+1))))
  else
  some (.inl (out5,(whole2&&y2.2),(i64 (i3+1))))
  else
  some (.inr (out5,whole2))
noncomputable def ZcY(States3:Vector Int 64)(i4:Int):Option (((Vector Int 64)×Int) ⊕ ((Vector Int 64))):=
  if(decide (i4<64))=true then
  (ZA States3 i4).bind fun x8=>
  some (.inl ((Qr States3 i4 3),(i64 (i4+1))))
  else
  some (.inr States3)
noncomputable def ZdQ(l:List api_Rest):Option api_Rest:=
  (idx l 0).bind fun x=>
  ((loop (t2 (ZbC l)) ((api_Rest.mk x.Number (Vector.replicate 64 0) (Vector.replicate 64 0) false 0 false),0)):Option ((api_Rest))).bind (t1 fun(out:api_Rest)=>
  if out.Conflict=true then
  some (api_Rest.mk out.Number (Vector.replicate 64 0) (Vector.replicate 64 0) false out.Copies true)
  else
  if out.Sound=true then
  (gd ((decide (out.Copies=0))==true) false (ZeS out)).bind fun y=>
  if((decide (out.Copies=0))&&y)=true then
  some (api_Rest.mk out.Number out.Frame out.States out.Sound 1 out.Conflict)
  else
  some out
  else
  ((loop (t3 (Zbx l)) (out,true,0)):Option ((api_Rest×Bool))).bind (t2 fun(out4:api_Rest) (whole:Bool)=>
  (gd (whole==true) false (ZbV out4.Frame)).bind fun y3=>
  (gd ((whole&&y3)==true) 0 (JP out4.Frame)).bind fun y4=>
  if((whole&&y3)&&(decide (y4=out4.Number)))=true then
  ((loop (t2 (ZcY)) (out4.States,0)):Option (((Vector Int 64)))).bind (t1 fun(States2:Vector Int 64)=>
  some (api_Rest.mk out4.Number out4.Frame States2 true 1 out4.Conflict))
  else
  some out4))
noncomputable def Zdl(order2:List Int)(x:api_Rest)(at_2:Int):Option ((Int) ⊕ (Int)):=
  (gd ((decide (0<at_2))==true) 0 (idx order2 (i64 (at_2-1)))).bind fun x2=>
  if((decide (0<at_2))&&(decide (x.Number<x2)))=true then
  some (.inl (i64 (at_2-1)))
  else
  some (.inr at_2)
noncomputable def Zis(order2:List Int)(x:api_Rest)(at_4:Int):Option ((Int) ⊕ (Int)):=
  (gd ((decide (0<at_4))==true) 0 (idx order2 (i64 (at_4-1)))).bind fun x4=>
  if((decide (0<at_4))&&(decide (x.Number<x4)))=true then
  some (.inl (i64 (at_4-1)))
  else
  some (.inr at_4)
noncomputable def ZbQ(l:List api_Rest)(order2:List Int)(by_2:List (Int×(List api_Rest)))(i:Int):Option (((List Int)×(List (Int×(List api_Rest)))×Int) ⊕ ((List Int)×(List (Int×(List api_Rest))))):=
  if(decide (i<(l.length:Int)))=true then
  (((idx l i).bind fun x=>
  (((some (ZjI (Zb8 kqI by_2 x.Number))).bind (Sum.elim (fun z=>
  if(decide (0=0))=true then
  ((loop (t1 (Zdl order2 x)) (order2.length:Int)):Option ((Int))).bind (t1 fun(at_:Int)=>
  (app order2 ([0]:List Int)).bind fun l2=>
  (slq l2 (i64 (at_+1)) (l2.length:Int)).bind fun u=>
  (slq l2 at_ (l2.length:Int)).bind fun u2=>
  (idx (cpy l2 (i64 (at_+1)).toNat (Int.toNat ((l2.length:Int)-(i64 (at_+1)))) at_.toNat (Int.toNat ((l2.length:Int)-at_))) at_).bind fun x3=>
  some ((cpy l2 (i64 (at_+1)).toNat (Int.toNat ((l2.length:Int)-(i64 (at_+1)))) at_.toNat (Int.toNat ((l2.length:Int)-at_))).set at_.toNat x.Number))
  else
  some order2) (fun z=>
  if(decide ((z.length:Int)=0))=true then
  ((loop (t1 (Zis order2 x)) (order2.length:Int)):Option ((Int))).bind (t1 fun(at_3:Int)=>
  (app order2 ([0]:List Int)).bind fun l3=>
  (slq l3 (i64 (at_3+1)) (l3.length:Int)).bind fun u3=>
  (slq l3 at_3 (l3.length:Int)).bind fun u4=>
  (idx (cpy l3 (i64 (at_3+1)).toNat (Int.toNat ((l3.length:Int)-(i64 (at_3+1)))) at_3.toNat (Int.toNat ((l3.length:Int)-at_3))) at_3).bind fun x5=>
  some ((cpy l3 (i64 (at_3+1)).toNat (Int.toNat ((l3.length:Int)-(i64 (at_3+1)))) at_3.toNat (Int.toNat ((l3.length:Int)-at_3))).set at_3.toNat x.Number))
  else
  some order2))):Option (((List Int)))).bind (t1 fun(order4:List Int)=>
  (some (ZjI (Zb8 kqI by_2 x.Number))).bind (Sum.elim (fun z2=>
  (app [] ([x]:List api_Rest)).bind fun l4=>
  some (order4,(Qc kqI by_2 x.Number l4))) (fun z2=>
  (app z2 ([x]:List api_Rest)).bind fun l5=>
  some (order4,(Qc kqI by_2 x.Number l5)))))):Option (((List Int)×(List (Int×(List api_Rest)))))).bind (t2 fun(order3:List Int) (by_3:List (Int×(List api_Rest)))=>
  some (.inl (order3,by_3,(i64 (i+1)))))
  else
  some (.inr (order2,by_2))
noncomputable def ZbJ(order:List Int)(by_:List (Int×(List api_Rest)))(out2:List api_Rest)(i2:Int):Option (((List api_Rest)×Int) ⊕ ((List api_Rest))):=
  if(decide (i2<(order.length:Int)))=true then
  (idx order i2).bind fun x6=>
  (some (ZjI (Zb8 kqI by_ x6))).bind (Sum.elim (fun z3=>
  (ZdQ []).bind fun y=>
  (app out2 ([y]:List api_Rest)).bind fun l6=>
  some (.inl (l6,(i64 (i2+1))))) (fun z3=>
  (ZdQ z3).bind fun y2=>
  (app out2 ([y2]:List api_Rest)).bind fun l7=>
  some (.inl (l7,(i64 (i2+1))))))
  else
  some (.inr out2)
noncomputable def Zbg(l:List api_Rest):Option (List api_Rest):=
  ((loop (t3 (ZbQ l)) ([],([]:List (Int×(List api_Rest))),0)):Option (((List Int)×(List (Int×(List api_Rest)))))).bind (t2 fun(order:List Int) (by_:List (Int×(List api_Rest)))=>
  ((loop (t2 (ZbJ order by_)) ([],0)):Option (((List api_Rest)))).bind (t1 fun(out:List api_Rest)=>
  some out))
noncomputable def ZdE(data:Int):Option Int:=
  (Zci data).bind fun y=>
  if y=true then
  some data
  else
  some (i64 (data+2048))
noncomputable def Zal(f:Vector Int 64)(i:Int):Option (Vector Int 64):=
  ((if(decide (i=0))=true then
  (JX f).bind fun y=>
  (ZaP y).bind fun y2=>
  (ZA f 0).bind fun x=>
  some (Qr f 0 (u16 y2))
  else
  if(decide (i≤60))=true then
  (ZA f i).bind fun x2=>
  (rem (i64 x2) 2048).bind fun q=>
  (ZdY f).bind fun y3=>
  (ZA f 61).bind fun x3=>
  (rem (i64 x3) 2048).bind fun q2=>
  (ZdE (Zaq .i64 (Zaq .i64 q y3) q2)).bind fun y4=>
  (ZA f i).bind fun x4=>
  some (Qr f i (u16 y4))
  else
  if(decide (i=61))=true then
  (ZdY f).bind fun y5=>
  (ZdE y5).bind fun y6=>
  (ZA f 61).bind fun x5=>
  some (Qr f 61 (u16 y6))
  else
  if(decide (i=62))=true then
  (ZbY f).bind fun y7=>
  (quo .i64 y7 2048).bind fun q3=>
  (ZdE q3).bind fun y8=>
  (ZA f 62).bind fun x6=>
  some (Qr f 62 (u16 y8))
  else
  (ZbY f).bind fun y9=>
  (rem y9 2048).bind fun q4=>
  (ZdE q4).bind fun y10=>
  (ZA f 63).bind fun x7=>
  some (Qr f 63 (u16 y10))):Option (((Vector Int 64)))).bind (t1 fun(f2:Vector Int 64)=>
  some f2)
noncomputable def Za0(r_:api_Rest)(at_2:Int)(i:Int):Option ((Int×Int) ⊕ (api_Rest) ⊕ (Int)):=
  if(decide (i<64))=true then
  (ZA r_.States i).bind fun x=>
  if(!decide (x=0))=true then
  some (.inl (at_2,(i64 (i+1))))
  else
  if(decide (0≤at_2))=true then
  some (.inr (.inl r_))
  else
  some (.inl (i,(i64 (i+1))))
  else
  some (.inr (.inr at_2))
noncomputable def ZaV(States2:Vector Int 64)(i2:Int):Option (((Vector Int 64)×Int) ⊕ ((Vector Int 64))):=
  if(decide (i2<64))=true then
  (ZA States2 i2).bind fun x2=>
  some (.inl ((Qr States2 i2 3),(i64 (i2+1))))
  else
  some (.inr States2)
noncomputable def Zeg(r_:api_Rest):Option api_Rest:=
  ((loop (t2 (Za0 r_)) ((-1),0)):Option ((api_Rest) ⊕ (Int))).bind (Sum.elim (fun q'=>some q') (t1 fun(at_:Int)=>
  if((r_.Sound || r_.Conflict) || (decide (at_<0)))=true then
  some r_
  else
  (Zal r_.Frame at_).bind fun y=>
  (ZbV y).bind fun y2=>
  (gd ((!y2)==false) 0 (JP y)).bind fun y3=>
  if((!y2) || (!decide (y3=r_.Number)))=true then
  some r_
  else
  ((loop (t2 (ZaV)) ((Vector.replicate 64 0),0)):Option (((Vector Int 64)))).bind (t1 fun(States:Vector Int 64)=>
  (ZA States at_).bind fun x3=>
  some (api_Rest.mk r_.Number y (Qr States at_ 2) true 0 false))))
noncomputable def ZaA(l:List api_Piece)(all2:List api_Rest)(i:Int):Option (((List api_Rest)×Int) ⊕ ((List api_Rest))):=
  if(decide (i<(l.length:Int)))=true then
  (idx l i).bind fun x=>
  (Zaf x).bind fun y2=>
  (ZdU y2).bind fun y3=>
  (Zbg y3).bind fun y4=>
  (app all2 y4).bind fun l2=>
  some (.inl (l2,(i64 (i+1))))
  else
  some (.inr all2)
noncomputable def Zas(y5:(List api_Rest))(out2:List api_Rest)(i2:Int):Option (((List api_Rest)×Int) ⊕ ((List api_Rest))):=
  if(decide (i2<(y5.length:Int)))=true then
  (idx out2 i2).bind fun x4=>
  (Zeg x4).bind fun y6=>
  (idx out2 i2).bind fun x5=>
  some (.inl ((out2.set i2.toNat y6),(i64 (i2+1))))
  else
  some (.inr out2)
noncomputable def Zho(l:List api_Piece):Option ((List api_Rest)×Int):=
  (ZeB l).bind fun y=>
  if(!decide (y=0))=true then
  some ([],y)
  else
  ((loop (t2 (ZaA l)) ([],0)):Option (((List api_Rest)))).bind (t1 fun(all:List api_Rest)=>
  (Zbg all).bind fun y5=>
  (gd ((decide (0<(y5.length:Int)))==true) (api_Rest.mk 0 (Vector.replicate 64 0) (Vector.replicate 64 0) false 0 false) (idx y5 (i64 ((y5.length:Int)-1)))).bind fun x2=>
  (gd ((decide (0<(y5.length:Int)))==true) (api_Rest.mk 0 (Vector.replicate 64 0) (Vector.replicate 64 0) false 0 false) (idx y5 0)).bind fun x3=>
  if((decide (0<(y5.length:Int)))&&(decide (100000<(i64 (x2.Number-x3.Number)))))=true then
  some ([],3)
  else
  ((loop (t2 (Zas y5)) (y5,0)):Option (((List api_Rest)))).bind (t1 fun(out:List api_Rest)=>
  some (out,0)))
noncomputable def JQ(n:Int)(low:Int)(high:Int):Option Bool:=
  some ((decide (n<low)) || (decide (high<n)))
noncomputable def Zbl(m:api_Memory)(i:Int):Option ((Int) ⊕ (Int) ⊕ (Unit)):=
  if(decide (i<(m.Sectors.length:Int)))=true then
  (idx m.Sectors i).bind fun x=>
  if(!decide ((x.length:Int)=(i64 (16+(i64 (m.Slots*97))))))=true then
  some (.inr (.inl 3))
  else
  (idx m.Wear i).bind fun x2=>
  (JQ x2 0 m.Limit).bind fun y4=>
  if y4=true then
  some (.inr (.inl 9))
  else
  some (.inl (i64 (i+1)))
  else
  some (.inr (.inr ()))
noncomputable def ZcS(m:api_Memory):Option Int:=
  (JQ m.Slots 1 64).bind fun y=>
  (gd (y==false) false (JQ m.Limit 1 1000000)).bind fun y2=>
  (gd ((y || y2)==false) false (JQ (m.Sectors.length:Int) 2 64)).bind fun y3=>
  if((y || y2) || y3)=true then
  some 9
  else
  if((!decide ((m.Wear.length:Int)=(m.Sectors.length:Int))) || (!decide ((m.Bad.length:Int)=(m.Sectors.length:Int))))=true then
  some 2
  else
  ((loop (t1 (Zbl m)) 0):Option ((Int) ⊕ (Unit))).bind (Sum.elim (fun q'=>some q') (t0 (some 0)))
noncomputable def J8(x:Int)(out4:List Int)(k:Int):Option (((List Int)×Int) ⊕ ((List Int))):=
  if(decide (0≤k))=true then
  (shr .u32 x k).bind fun q=>
  (apz 1 out4 ([(u8 q)]:List Int)).bind fun l=>
  some (.inl (l,(i64 (k-8))))
  else
  some (.inr out4)
noncomputable def J9(sequence:Int)(out2:List Int)(i:Int):Option (((List Int)×Int) ⊕ ((List Int))):=
  if(decide (i<(([(u32 sequence),(Zaq .u32 4294967295 (u32 sequence))]:List Int).length:Int)))=true then
  (((idx ([(u32 sequence),(Zaq .u32 4294967295 (u32 sequence))]:List Int) i).bind fun x=>
  loop (t2 (J8 x)) (out2,24)):Option (((List Int)))).bind (t1 fun(out3:List Int)=>
  some (.inl (out3,(i64 (i+1)))))
  else
  some (.inr out2)
noncomputable def ZfS(sequence:Int):Option (List Int):=
  ((loop (t2 (J9 sequence)) (([79,66]:List Int),0)):Option (((List Int)))).bind (t1 fun(out:List Int)=>
  some out)
noncomputable def Zbb(s:List Int)(sequence2:Int)(k:Int):Option ((Int×Int) ⊕ (Int)):=
  if(decide (k<6))=true then
  (idx s k).bind fun x=>
  some (.inl ((i64 ((i64 (sequence2*256))+(i64 x))),(i64 (k+1))))
  else
  some (.inr sequence2)
noncomputable def Zf1(s:List Int):Option (Int×Bool×Bool):=
  if(decide ((s.length:Int)<16))=true then
  some (0,false,false)
  else
  ((loop (t2 (Zbb s)) (0,2)):Option ((Int))).bind (t1 fun(sequence:Int)=>
  (JQ sequence 1 1073741824).bind fun y=>
  (gd (y==false) [] (ZfS sequence)).bind fun y2=>
  (gd (y==false) [] (slc s 0 10)).bind fun l=>
  if(y || (!decide ((Ze6 y2)=(Ze6 l))))=true then
  some (0,false,false)
  else
  (idx s 10).bind fun x2=>
  some (sequence,(!decide (x2=255)),true))
noncomputable def Zcv(m:api_Memory)(out2:List Int)(y:Int×Bool×Bool)(at_2:Int):Option ((Int) ⊕ (Int)):=
  if(decide (0<at_2))=true then
  (idx out2 (i64 (at_2-1))).bind fun x3=>
  (idx m.Sectors x3).bind fun x4=>
  (Zf1 x4).bind fun y2=>
  if(decide (y2.1≤y.1))=true then
  some (.inr at_2)
  else
  some (.inl (i64 (at_2-1)))
  else
  some (.inr at_2)
noncomputable def Zcy(m:api_Memory)(out2:List Int)(i:Int):Option (((List Int)×Int) ⊕ ((List Int))):=
  if(decide (i<(m.Sectors.length:Int)))=true then
  (idx m.Sectors i).bind fun x=>
  (Zf1 x).bind fun y=>
  (gd ((!y.2.2)==false) false (idx m.Bad i)).bind fun x2=>
  if((!y.2.2) || x2)=true then
  some (.inl (out2,(i64 (i+1))))
  else
  ((loop (t1 (Zcv m out2 y)) (out2.length:Int)):Option ((Int))).bind (t1 fun(at_:Int)=>
  (apz 8 out2 ([0]:List Int)).bind fun l=>
  (slq l (i64 (at_+1)) (l.length:Int)).bind fun u=>
  (slq l at_ (l.length:Int)).bind fun u2=>
  (idx (cpy l (i64 (at_+1)).toNat (Int.toNat ((l.length:Int)-(i64 (at_+1)))) at_.toNat (Int.toNat ((l.length:Int)-at_))) at_).bind fun x5=>
  some (.inl (((cpy l (i64 (at_+1)).toNat (Int.toNat ((l.length:Int)-(i64 (at_+1)))) at_.toNat (Int.toNat ((l.length:Int)-at_))).set at_.toNat i),(i64 (i+1)))))
  else
  some (.inr out2)
noncomputable def Zeh(m:api_Memory):Option (List Int):=
  ((loop (t2 (Zcy m)) ([],0)):Option (((List Int)))).bind (t1 fun(out:List Int)=>
  some out)
noncomputable def Zev(l:List api_Memory)(i:Int):Option ((Int) ⊕ (Int) ⊕ (Unit)):=
  if(decide (i<(l.length:Int)))=true then
  (idx l i).bind fun x=>
  (ZcS x).bind fun y=>
  if(!decide (y=0))=true then
  some (.inr (.inl y))
  else
  some (.inl (i64 (i+1)))
  else
  some (.inr (.inr ()))
noncomputable def ZiF(l:List api_Memory):Option Int:=
  if((decide ((l.length:Int)=0)) || (decide (8<(l.length:Int))))=true then
  some 3
  else
  ((loop (t1 (Zev l)) 0):Option ((Int) ⊕ (Unit))).bind (Sum.elim (fun q'=>some q') (t0 (some 0)))
noncomputable def ZaE(b:List Int)(i:Int)(f4:Vector Int 64)(i2:Int):Option (((Vector Int 64)×Int) ⊕ ((Vector Int 64))):=
  if(decide (i2<3))=true then
  (quo .i64 (i64 ((i64 (3*i))+i2)) 2).bind fun q=>
  (idx b q).bind fun x=>
  (quo .i64 (i64 x) 16).bind fun q2=>
  (((rem (i64 ((i64 (3*i))+i2)) 2).bind fun q3=>
  if(decide (q3=1))=true then
  (quo .i64 (i64 ((i64 (3*i))+i2)) 2).bind fun q4=>
  (idx b q4).bind fun x2=>
  (rem (i64 x2) 16).bind fun q5=>
  some q5
  else
  some q2):Option ((Int))).bind (t1 fun(half:Int)=>
  (ZA f4 i).bind fun x3=>
  (ZA f4 i).bind fun x4=>
  some (.inl ((Qr f4 i (u16 ((u16 (x3*16))+(u16 half)))),(i64 (i2+1)))))
  else
  some (.inr f4)
noncomputable def ZcW(b:List Int)(f2:Vector Int 64)(i:Int):Option (((Vector Int 64)×Int) ⊕ ((Vector Int 64))):=
  if(decide (i<64))=true then
  ((loop (t2 (ZaE b i)) (f2,0)):Option (((Vector Int 64)))).bind (t1 fun(f3:Vector Int 64)=>
  some (.inl (f3,(i64 (i+1)))))
  else
  some (.inr f2)
noncomputable def ZgE(b:List Int):Option (Vector Int 64):=
  ((loop (t2 (ZcW b)) ((#v[0,0,0,0,0,0,0,0,0,0,0,0,0,0,0,0,0,0,0,0,0,0,0,0,0,0,0,0,0,0,0,0,0,0,0,0,0,0,0,0,0,0,0,0,0,0,0,0,0,0,0,0,0,0,0,0,0,0,0,0,0,0,0,0]:Vector Int 64),0)):Option (((Vector Int 64)))).bind (t1 fun(f:Vector Int 64)=>
  some f)
noncomputable def ZfQ(b:List Int):Option ((Vector Int 64)×Int):=
  if(decide ((b.length:Int)<96))=true then
  some ((#v[0,0,0,0,0,0,0,0,0,0,0,0,0,0,0,0,0,0,0,0,0,0,0,0,0,0,0,0,0,0,0,0,0,0,0,0,0,0,0,0,0,0,0,0,0,0,0,0,0,0,0,0,0,0,0,0,0,0,0,0,0,0,0,0]:Vector Int 64),3)
  else
  (ZgE b).bind fun y=>
  some (y,0)
noncomputable def Zd2(cuts:List Int)(y2:(List Int))(i3:Int):Option ((Int) ⊕ ((List api_Piece)×Int) ⊕ (Unit)):=
  if(decide (i3<(cuts.length:Int)))=true then
  (idx cuts i3).bind fun x3=>
  if((decide (x3<0)) || (decide ((y2.length:Int)<x3)))=true then
  some (.inr (.inl ([],9)))
  else
  (gd ((decide (0<i3))==true) 0 (idx cuts (i64 (i3-1)))).bind fun x4=>
  if((decide (0<i3))&&(decide (x3<x4)))=true then
  some (.inr (.inl ([],10)))
  else
  some (.inl (i64 (i3+1)))
  else
  some (.inr (.inr ()))
end Go.Vx
