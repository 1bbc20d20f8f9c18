/- A text of the proof: a verified executor of the program form, or the contracts of the functions that the law reaches. -/
import Derived.Test.YtailpehcgelmdaaGreatDoorShLib
set_option linter.all false
namespace Go.Vx
open Go Go.RowKit
set_option linter.unusedVariables false
structure api_Zone where
  From:Int
  To:Int
  Name:Str
structure api_Instrument where
  Kind:Int
  Name:Str
  Track:Str
  Places:Int
  Low:Int
  High:Int
  Steps:Int
  Zones:List api_Zone
  Op:Int
  N:Int
  Latch:Bool
  Size:Int
structure api_Panel where
  Instruments:List api_Instrument
structure api_Sample where
  At:Int
  N:Int
  Mark:Int
structure api_Series where
  Den:Int
  Samples:List api_Sample
structure api_Track where
  Name:Str
  Series:api_Series
  Long:Int
structure api_Memo where
  Lit:Bool
  Some:Bool
  N:Int
  Count:Int
  Tape:List Int
structure api_PanelState where
  Frame:Int
  Memos:List api_Memo
structure api_Bookmark where
  Frame:Int
  Text:Str
structure panel_Replay where
  p:api_Panel
  l:List api_Track
  keep:Int
  state:api_PanelState
  kept:List api_PanelState
  marks:List api_Bookmark
structure api_Face where
  Text:Str
  Needle:Int
  Lit:Bool
  Mark:Int
structure strings_Builder where
  addr:Unit
  buf:List Int
noncomputable def XA(x:Int):Option Int:=
  (shr .u16 x 8).bind fun q=>
  (Zac [0,1,1,2,1,2,2,3,1,2,2,3,2,3,3,4,1,2,2,3,2,3,3,4,2,3,3,4,3,4,4,5,1,2,2,3,2,3,3,4,2,3,3,4,3,4,4,5,2,3,3,4,3,4,4,5,3,4,4,5,4,5,5,6,1,2,2,3,2,3,3,4,2,3,3,4,3,4,4,5,2,3,3,4,3,4,4,5,3,4,4,5,4,5,5,6,2,3,3,4,3,4,4,5,3,4,4,5,4,5,5,6,3,4,4,5,4,5,5,6,4,5,5,6,5,6,6,7,1,2,2,3,2,3,3,4,2,3,3,4,3,4,4,5,2,3,3,4,3,4,4,5,3,4,4,5,4,5,5,6,2,3,3,4,3,4,4,5,3,4,4,5,4,5,5,6,3,4,4,5,4,5,5,6,4,5,5,6,5,6,6,7,2,3,3,4,3,4,4,5,3,4,4,5,4,5,5,6,3,4,4,5,4,5,5,6,4,5,5,6,5,6,6,7,3,4,4,5,4,5,5,6,4,5,5,6,5,6,6,7,4,5,5,6,5,6,6,7,5,6,6,7,6,7,7,8] q).bind fun b=>
  (Zac [0,1,1,2,1,2,2,3,1,2,2,3,2,3,3,4,1,2,2,3,2,3,3,4,2,3,3,4,3,4,4,5,1,2,2,3,2,3,3,4,2,3,3,4,3,4,4,5,2,3,3,4,3,4,4,5,3,4,4,5,4,5,5,6,1,2,2,3,2,3,3,4,2,3,3,4,3,4,4,5,2,3,3,4,3,4,4,5,3,4,4,5,4,5,5,6,2,3,3,4,3,4,4,5,3,4,4,5,4,5,5,6,3,4,4,5,4,5,5,6,4,5,5,6,5,6,6,7,1,2,2,3,2,3,3,4,2,3,3,4,3,4,4,5,2,3,3,4,3,4,4,5,3,4,4,5,4,5,5,6,2,3,3,4,3,4,4,5,3,4,4,5,4,5,5,6,3,4,4,5,4,5,5,6,4,5,5,6,5,6,6,7,2,3,3,4,3,4,4,5,3,4,4,5,4,5,5,6,3,4,4,5,4,5,5,6,4,5,5,6,5,6,6,7,3,4,4,5,4,5,5,6,4,5,5,6,5,6,6,7,4,5,5,6,5,6,6,7,5,6,6,7,6,7,7,8] (ZbZ .u16 x 255)).bind fun b2=>
  some (i64 (u8 (b+b2)))
noncomputable def ZbH(w:Int):Option Bool:=
  (gd ((decide (w≤4095))==true) 0 (XA w)).bind fun y=>
  (gd ((decide (w≤4095))==true) 0 (rem y 2)).bind fun q=>
  some ((decide (w≤4095))&&(decide (q=1)))
noncomputable def Xq(data:Int):Option Int:=
  (ZbH (u16 data)).bind fun y=>
  if(!y)=true then
  some (bor .u16 (u16 data) 2048)
  else
  some (u16 data)
noncomputable def JK(w:Int):Option Int:=
  some (i64 (ZbZ .u16 w 2047))
noncomputable def Ja(f:Vector Int 64):Option Int:=
  (Xl f 1).bind fun x=>
  (JK x).bind fun y=>
  (Xl f 2).bind fun x2=>
  (JK x2).bind fun y2=>
  (shl .i64 y2 11).bind fun q=>
  some (bor .i64 y q)
def gv_frame_syncs:Vector Int 4:= #v[583,1464,2631,3512]
noncomputable def Zae(f:Vector Int 64)(n2:Int)(i:Int):Option ((Int×Int) ⊕ (Int)):=
  if(decide (i<60))=true then
  (Xl f (i64 (i+1))).bind fun x=>
  (JK x).bind fun y=>
  some (.inl ((Zig .i64 n2 y),(i64 (i+1))))
  else
  some (.inr n2)
noncomputable def ZaE(f:Vector Int 64):Option Int:=
  ((loop (t2 (Zae f)) (0,0)):Option ((Int))).bind (t1 fun(n:Int)=>
  some n)
noncomputable def Jp(f:Vector Int 64)(i:Int)(n4:Int)(k:Int):Option ((Int×Int) ⊕ (Int)):=
  if(decide (0≤k))=true then
  (shl .i64 n4 1).bind fun q=>
  (Xl f i).bind fun x=>
  (shr .u16 x k).bind fun q2=>
  if(!((!decide ((ZbZ .i64 n4 2097152)=0))==(decide ((ZbZ .u16 q2 1)=1))))=true then
  some (.inl ((Zig .i64 (ZbZ .i64 q 4194303) 2097167),(i64 (k-1))))
  else
  some (.inl ((ZbZ .i64 q 4194303),(i64 (k-1))))
  else
  some (.inr n4)
noncomputable def Js(f:Vector Int 64)(n2:Int)(i:Int):Option ((Int×Int) ⊕ (Int)):=
  if(decide (i<62))=true then
  ((loop (t2 (Jp f i)) (n2,11)):Option ((Int))).bind (t1 fun(n3:Int)=>
  some (.inl (n3,(i64 (i+1)))))
  else
  some (.inr n2)
noncomputable def JB(f:Vector Int 64):Option Int:=
  ((loop (t2 (Js f)) (0,0)):Option ((Int))).bind (t1 fun(n:Int)=>
  some n)
noncomputable def J3(f:Vector Int 64):Option (Vector Int 64):=
  (Ja f).bind fun y=>
  (rem y 4).bind fun q=>
  (Xl gv_frame_syncs q).bind fun x=>
  (Xl f 0).bind fun x2=>
  (ZaE (XL f 0 x)).bind fun y2=>
  (Xq y2).bind fun y3=>
  (Xl (XL f 0 x) 61).bind fun x3=>
  (JB (XL (XL f 0 x) 61 y3)).bind fun y4=>
  (shr .i64 y4 11).bind fun q2=>
  (Xq q2).bind fun y5=>
  (Xq (ZbZ .i64 y4 2047)).bind fun y6=>
  (Xl (XL (XL f 0 x) 61 y3) 62).bind fun x4=>
  (Xl (XL (XL (XL f 0 x) 61 y3) 62 y5) 63).bind fun x5=>
  some (XL (XL (XL (XL f 0 x) 61 y3) 62 y5) 63 y6)
noncomputable def ZaX(data:List Int)(f2:Vector Int 64)(i:Int):Option (((Vector Int 64)×Int) ⊕ ((Vector Int 64)×Int) ⊕ ((Vector Int 64))):=
  if(decide (i<(data.length:Int)))=true then
  (idx data i).bind fun x3=>
  if((decide (x3<0)) || (decide (2047<x3)))=true then
  some (.inr (.inl ((#v[0,0,0,0,0,0,0,0,0,0,0,0,0,0,0,0,0,0,0,0,0,0,0,0,0,0,0,0,0,0,0,0,0,0,0,0,0,0,0,0,0,0,0,0,0,0,0,0,0,0,0,0,0,0,0,0,0,0,0,0,0,0,0,0]:Vector Int 64),9)))
  else
  (Xq x3).bind fun y3=>
  (Xl f2 (i64 (3+i))).bind fun x4=>
  some (.inl ((XL f2 (i64 (3+i)) y3),(i64 (i+1))))
  else
  some (.inr (.inr f2))
noncomputable def ZbF(number:Int)(data:List Int):Option ((Vector Int 64)×Int):=
  if((decide (number<0)) || (decide (4194304≤number)))=true then
  some ((#v[0,0,0,0,0,0,0,0,0,0,0,0,0,0,0,0,0,0,0,0,0,0,0,0,0,0,0,0,0,0,0,0,0,0,0,0,0,0,0,0,0,0,0,0,0,0,0,0,0,0,0,0,0,0,0,0,0,0,0,0,0,0,0,0]:Vector Int 64),9)
  else
  if(!decide ((data.length:Int)=58))=true then
  some ((#v[0,0,0,0,0,0,0,0,0,0,0,0,0,0,0,0,0,0,0,0,0,0,0,0,0,0,0,0,0,0,0,0,0,0,0,0,0,0,0,0,0,0,0,0,0,0,0,0,0,0,0,0,0,0,0,0,0,0,0,0,0,0,0,0]:Vector Int 64),3)
  else
  (Xq (ZbZ .i64 number 2047)).bind fun y=>
  (shr .i64 number 11).bind fun q=>
  (Xq q).bind fun y2=>
  (Xl (Vector.replicate 64 (0:Int)) 1).bind fun x=>
  (Xl (XL (Vector.replicate 64 0) 1 y) 2).bind fun x2=>
  ((loop (t2 (ZaX data)) ((XL (XL (Vector.replicate 64 0) 1 y) 2 y2),0)):Option (((Vector Int 64)×Int) ⊕ ((Vector Int 64)))).bind (Sum.elim (fun q'=>some q') (t1 fun(f:Vector Int 64)=>
  (J3 f).bind fun y4=>
  some (y4,0)))
noncomputable def Za3:Option Bool:=
  (mks 58 0).bind fun l=>
  (idx l 0).bind fun x=>
  (ZbF 2050 (l.set (Int.toNat 0) 5)).bind fun y=>
  (gd ((decide (y.2=0))==true) 0 (Xl y.1 0)).bind fun x2=>
  (gd (((decide (y.2=0))&&(decide (x2=2631)))==true) 0 (Xl y.1 1)).bind fun x3=>
  (gd ((((decide (y.2=0))&&(decide (x2=2631)))&&(decide (x3=2)))==true) 0 (Xl y.1 2)).bind fun x4=>
  (gd (((((decide (y.2=0))&&(decide (x2=2631)))&&(decide (x3=2)))&&(decide (x4=1)))==true) 0 (Xl y.1 3)).bind fun x5=>
  some (((((decide (y.2=0))&&(decide (x2=2631)))&&(decide (x3=2)))&&(decide (x4=1)))&&(decide (x5=2053)))
noncomputable def ZC(n:Int)(low:Int)(high:Int):Option Bool:=
  some ((decide (low≤n))&&(decide (n≤high)))
noncomputable def Ju(c_:Int)(s3:Str):Option ((Str) ⊕ (Str)):=
  (gd ((decide (0<(s3.length:Int)))==true) 0 (Zac s3 (i64 ((s3.length:Int)-1)))).bind fun b=>
  if((decide (0<(s3.length:Int)))&&(decide (b=c_)))=true then
  (slc s3 0 (i64 ((s3.length:Int)-1))).bind fun s4=>
  some (.inl s4)
  else
  some (.inr s3)
noncomputable def XZ(s:Str)(c_:Int):Option Str:=
  ((loop (t1 (Ju c_)) s):Option ((Str))).bind (t1 fun(s2:Str)=>
  some s2)
noncomputable def JQ(c_:Int)(s3:Str):Option ((Str) ⊕ (Str)):=
  (gd ((decide (0<(s3.length:Int)))==true) 0 (Zac s3 0)).bind fun b=>
  if((decide (0<(s3.length:Int)))&&(decide (b=c_)))=true then
  (slc s3 1 (s3.length:Int)).bind fun s4=>
  some (.inl s4)
  else
  some (.inr s3)
noncomputable def Jg(s:Str)(c_:Int):Option Str:=
  ((loop (t1 (JQ c_)) s):Option ((Str))).bind (t1 fun(s2:Str)=>
  some s2)
noncomputable def QI(chars:Str)(as_2:Vector Bool 256)(i:Int):Option (((Vector Bool 256)×Int) ⊕ ((Vector Bool 256)×Bool) ⊕ ((Vector Bool 256))):=
  if(decide (i<(chars.length:Int)))=true then
  (Zac chars i).bind fun b=>
  if(decide (128≤b))=true then
  some (.inr (.inl (as_2,false)))
  else
  (Xl as_2 b).bind fun x=>
  some (.inl ((XL as_2 b true),(i64 (i+1))))
  else
  some (.inr (.inr as_2))
noncomputable def Qm(chars:Str):Option ((Vector Bool 256)×Bool):=
  ((loop (t2 (QI chars)) ((Vector.replicate 256 false),0)):Option (((Vector Bool 256)×Bool) ⊕ ((Vector Bool 256)))).bind (Sum.elim (fun q'=>some q') (t1 fun(as_:Vector Bool 256)=>
  some (as_,true)))
noncomputable def ZW(as_:Vector Bool 256)(c_:Int):Option Bool:=
  (Xl as_ c_).bind fun x=>
  some x
noncomputable def ZX(as_:Vector Bool 256)(s3:Str):Option ((Str) ⊕ (Str)):=
  if(decide (0<(s3.length:Int)))=true then
  (Zac s3 (i64 ((s3.length:Int)-1))).bind fun b=>
  (ZW as_ b).bind fun y=>
  if(!y)=true then
  some (.inr s3)
  else
  (slc s3 0 (i64 ((s3.length:Int)-1))).bind fun s4=>
  some (.inl s4)
  else
  some (.inr s3)
noncomputable def Qt(s:Str)(as_:Vector Bool 256):Option Str:=
  ((loop (t1 (ZX as_)) s):Option ((Str))).bind (t1 fun(s2:Str)=>
  some s2)
noncomputable def Z4(as_:Vector Bool 256)(s3:Str):Option ((Str) ⊕ (Str)):=
  if(decide (0<(s3.length:Int)))=true then
  (Zac s3 0).bind fun b=>
  (ZW as_ b).bind fun y=>
  if(!y)=true then
  some (.inr s3)
  else
  (slc s3 1 (s3.length:Int)).bind fun s4=>
  some (.inl s4)
  else
  some (.inr s3)
noncomputable def Qx(s:Str)(as_:Vector Bool 256):Option Str:=
  ((loop (t1 (Z4 as_)) s):Option ((Str))).bind (t1 fun(s2:Str)=>
  some s2)
noncomputable def Za9(b:Int):Option Bool:=
  some (!decide ((ZbZ .u8 b 192)=128))
noncomputable def QS(s:Str):Option (Int×Int):=
  if(decide ((s.length:Int)<1))=true then
  some (65533,0)
  else
  (Zac s 0).bind fun b=>
  none
noncomputable def QL(s:Str):Option (Int×Int):=
  (gd ((!decide (s= []))==true) 0 (Zac s 0)).bind fun b=>
  if((!decide (s= []))&&(decide (b<128)))=true then
  (Zac s 0).bind fun b2=>
  some ((i32 b2),1)
  else
  (QS s).bind fun y=>
  some (y.1,y.2)
noncomputable def XD(s:Str)(start2:Int):Option ((Int) ⊕ (Int)):=
  if(decide ((max (i64 ((s.length:Int)-4)) 0)≤start2))=true then
  (Zac s start2).bind fun b2=>
  (Za9 b2).bind fun y=>
  if y=true then
  some (.inr start2)
  else
  some (.inl (i64 (start2-1)))
  else
  some (.inr start2)
noncomputable def QP(s:Str):Option (Int×Int):=
  if(decide ((s.length:Int)=0))=true then
  some (65533,0)
  else
  (Zac s (i64 ((s.length:Int)-1))).bind fun b=>
  if(decide ((i32 b)<128))=true then
  some ((i32 b),1)
  else
  ((loop (t1 (XD s)) (i64 ((i64 ((s.length:Int)-1))-1))):Option ((Int))).bind (t1 fun(start:Int)=>
  ((if(decide (start<0))=true then
  some 0
  else
  some start):Option ((Int))).bind (t1 fun(start3:Int)=>
  (slc s start3 (s.length:Int)).bind fun s2=>
  (QL s2).bind fun y2=>
  if(!decide ((i64 (start3+y2.2))=(s.length:Int)))=true then
  some (65533,1)
  else
  some (y2.1,y2.2)))
noncomputable def Xk(s:Str)(r_:Int):Option Bool:=
  none
noncomputable def X3(cutset:Str)(s3:Str):Option ((Str) ⊕ (Str)):=
  if(decide (0<(s3.length:Int)))=true then
  (Zac s3 (i64 ((s3.length:Int)-1))).bind fun b=>
  ((if(decide (128≤(i32 b)))=true then
  (QP s3).bind fun y=>
  some (y.1,y.2)
  else
  some ((i32 b),1)):Option ((Int×Int))).bind (t2 fun(r_:Int) (n:Int)=>
  (Xk cutset r_).bind fun y2=>
  if(!y2)=true then
  some (.inr s3)
  else
  (slc s3 0 (i64 ((s3.length:Int)-n))).bind fun s4=>
  some (.inl s4))
  else
  some (.inr s3)
noncomputable def Xu(s:Str)(cutset:Str):Option Str:=
  ((loop (t1 (X3 cutset)) s):Option ((Str))).bind (t1 fun(s2:Str)=>
  some s2)
noncomputable def X7(cutset:Str)(s3:Str):Option ((Str) ⊕ (Str)):=
  if(decide (0<(s3.length:Int)))=true then
  (QL s3).bind fun y=>
  (Xk cutset y.1).bind fun y2=>
  if(!y2)=true then
  some (.inr s3)
  else
  (slc s3 y.2 (s3.length:Int)).bind fun s4=>
  some (.inl s4)
  else
  some (.inr s3)
noncomputable def Xz(s:Str)(cutset:Str):Option Str:=
  ((loop (t1 (X7 cutset)) s):Option ((Str))).bind (t1 fun(s2:Str)=>
  some s2)
noncomputable def Jm(s:Str)(cutset:Str):Option Str:=
  if((decide (s= [])) || (decide (cutset= [])))=true then
  some s
  else
  (gd ((decide ((cutset.length:Int)=1))==true) 0 (Zac cutset 0)).bind fun b=>
  if((decide ((cutset.length:Int)=1))&&(decide (b<128)))=true then
  (Zac cutset 0).bind fun b2=>
  (XZ s b2).bind fun y=>
  (Zac cutset 0).bind fun b3=>
  (Jg y b3).bind fun y2=>
  some y2
  else
  (Qm cutset).bind fun y3=>
  if y3.2=true then
  (Qt s y3.1).bind fun y4=>
  (Qx y4 y3.1).bind fun y5=>
  some y5
  else
  (Xu s cutset).bind fun y6=>
  (Xz y6 cutset).bind fun y7=>
  some y7
noncomputable def Jl(s:Str):Option Bool:=
  (ZC (s.length:Int) 1 30).bind fun y=>
  (gd (y==true) [] (Jm s [97,98,99,100,101,102,103,104,105,106,107,108,109,110,111,112,113,114,115,116,117,118,119,120,121,122,48,49,50,51,52,53,54,55,56,57,45])).bind fun y2=>
  some (y&&(decide (y2= [])))
noncomputable def Z8(s:List Int)(v:Int)(i:Int):Option ((Int) ⊕ (Int) ⊕ (Unit)):=
  if(decide (i<(s.length:Int)))=true then
  (idx s i).bind fun x=>
  if(decide (v=x))=true then
  some (.inr (.inl i))
  else
  some (.inl (i64 (i+1)))
  else
  some (.inr (.inr ()))
noncomputable def Xf(s:List Int)(v:Int):Option Int:=
  ((loop (t1 (Z8 s v)) 0):Option ((Int) ⊕ (Unit))).bind (Sum.elim (fun q'=>some q') (t0 (some (-1))))
noncomputable def Qk(s:List Int)(v:Int):Option Bool:=
  (Xf s v).bind fun y=>
  some (decide (0≤y))
noncomputable def ZJ(l:List Int)(c0:api_Instrument):Option Bool:=
  (Qk l c0.Kind).bind fun y=>
  some y
noncomputable def Zaf(i:api_Instrument):Option Bool:=
  (gd ((!decide (i.Places=0))==true) false (ZJ ([1,4,6]:List Int) i)).bind fun y=>
  (gd ((((!decide (i.Places=0))&&(!y))==false)&&(((((!decide (i.Low=0)) || (!decide (i.High=0))) || (!decide (i.Steps=0))) || (decide (0<(i.Zones.length:Int))))==true)) false (ZJ ([2]:List Int) i)).bind fun y2=>
  (gd (((((!decide (i.Places=0))&&(!y)) || (((((!decide (i.Low=0)) || (!decide (i.High=0))) || (!decide (i.Steps=0))) || (decide (0<(i.Zones.length:Int))))&&(!y2)))==false)&&(((!decide (i.Op=0)) || (!decide (i.N=0)))==true)) false (ZJ ([3,5]:List Int) i)).bind fun y3=>
  (gd ((((((!decide (i.Places=0))&&(!y)) || (((((!decide (i.Low=0)) || (!decide (i.High=0))) || (!decide (i.Steps=0))) || (decide (0<(i.Zones.length:Int))))&&(!y2))) || (((!decide (i.Op=0)) || (!decide (i.N=0)))&&(!y3)))==false)&&(i.Latch==true)) false (ZJ ([3]:List Int) i)).bind fun y4=>
  (gd (((((((!decide (i.Places=0))&&(!y)) || (((((!decide (i.Low=0)) || (!decide (i.High=0))) || (!decide (i.Steps=0))) || (decide (0<(i.Zones.length:Int))))&&(!y2))) || (((!decide (i.Op=0)) || (!decide (i.N=0)))&&(!y3))) || (i.Latch&&(!y4)))==false)&&((!decide (i.Size=0))==true)) false (ZJ ([6]:List Int) i)).bind fun y5=>
  some ((((((!decide (i.Places=0))&&(!y)) || (((((!decide (i.Low=0)) || (!decide (i.High=0))) || (!decide (i.Steps=0))) || (decide (0<(i.Zones.length:Int))))&&(!y2))) || (((!decide (i.Op=0)) || (!decide (i.N=0)))&&(!y3))) || (i.Latch&&(!y4))) || ((!decide (i.Size=0))&&(!y5)))
noncomputable def Xm(n:Int):Option Bool:=
  (ZC n (-1125899906842624) 1125899906842624).bind fun y=>
  some y
noncomputable def QD(i:api_Instrument)(i2:Int):Option ((Int) ⊕ (Int) ⊕ (Unit)):=
  if(decide (i2<(i.Zones.length:Int)))=true then
  (idx i.Zones i2).bind fun x=>
  (Jl x.Name).bind fun y4=>
  if(!y4)=true then
  some (.inr (.inl 8))
  else
  if(decide (x.To<x.From))=true then
  some (.inr (.inl 9))
  else
  (gd ((decide (0<i2))==true) (api_Zone.mk 0 0 []) (idx i.Zones (i64 (i2-1)))).bind fun x2=>
  if((decide (0<i2))&&(decide (x.From≤x2.To)))=true then
  some (.inr (.inl 10))
  else
  some (.inl (i64 (i2+1)))
  else
  some (.inr (.inr ()))
noncomputable def XU(i:api_Instrument):Option Int:=
  (gd ((decide (i.High≤i.Low))==false) false (Xm i.Low)).bind fun y=>
  (gd (((decide (i.High≤i.Low)) || (!y))==false) false (Xm i.High)).bind fun y2=>
  (gd ((((decide (i.High≤i.Low)) || (!y)) || (!y2))==false) false (ZC i.Steps 1 1000)).bind fun y3=>
  if((((decide (i.High≤i.Low)) || (!y)) || (!y2)) || (!y3))=true then
  some 9
  else
  if(decide (10<(i.Zones.length:Int)))=true then
  some 3
  else
  ((loop (t1 (QD i)) 0):Option ((Int) ⊕ (Unit))).bind (Sum.elim (fun q'=>some q') (t0 (some 0)))
noncomputable def Qy(i:api_Instrument):Option Int:=
  (ZC i.Kind 1 6).bind fun y=>
  if(!y)=true then
  some 7
  else
  (Jl i.Name).bind fun y2=>
  (gd ((!y2)==false) false (ZC (i.Track.length:Int) 1 30)).bind fun y3=>
  if((!y2) || (!y3))=true then
  some 8
  else
  (Zaf i).bind fun y4=>
  if y4=true then
  some 2
  else
  (ZC i.Places 0 6).bind fun y5=>
  if(!y5)=true then
  some 9
  else
  if(decide (i.Kind=2))=true then
  (XU i).bind fun y6=>
  some y6
  else
  ((if(decide (i.Kind=3))=true then
  some (decide (i.Kind=3))
  else
  some (decide (i.Kind=5))):Option ((Bool))).bind (t1 fun(v:Bool)=>
  if v=true then
  (ZC i.Op 1 6).bind fun y7=>
  if(!y7)=true then
  some 7
  else
  (Xm i.N).bind fun y8=>
  if(!y8)=true then
  some 9
  else
  some 0
  else
  if(decide (i.Kind=6))=true then
  (ZC i.Size 1 50).bind fun y9=>
  if(!y9)=true then
  some 9
  else
  some 0
  else
  some 0)
noncomputable def Zt(s:List api_Instrument)(f:api_Instrument→Option Bool)(i:Int):Option ((Int) ⊕ (Int) ⊕ (Unit)):=
  if(decide (i<(s.length:Int)))=true then
  (idx s i).bind fun x=>
  (f x).bind fun y=>
  if y=true then
  some (.inr (.inl i))
  else
  some (.inl (i64 (i+1)))
  else
  some (.inr (.inr ()))
noncomputable def ZH(s:List api_Instrument)(f:api_Instrument→Option Bool):Option Int:=
  ((loop (t1 (Zt s f)) 0):Option ((Int) ⊕ (Unit))).bind (Sum.elim (fun q'=>some q') (t0 (some (-1))))
noncomputable def Zp(s:List api_Instrument)(f:api_Instrument→Option Bool):Option Bool:=
  (ZH s f).bind fun y=>
  some (decide (0≤y))
noncomputable def Zat(x:api_Instrument)(c0:api_Instrument):Option Bool:=
  some (decide (x.Name=c0.Name))
noncomputable def XC(p:api_Panel)(i:Int):Option ((Int) ⊕ (Int) ⊕ (Unit)):=
  if(decide (i<(p.Instruments.length:Int)))=true then
  (idx p.Instruments i).bind fun x=>
  (Qy x).bind fun y=>
  if(!decide (y=0))=true then
  some (.inr (.inl y))
  else
  (slc p.Instruments 0 i).bind fun l=>
  (Zp l (fun z0=>Zat z0 x)).bind fun y2=>
  if y2=true then
  some (.inr (.inl 5))
  else
  some (.inl (i64 (i+1)))
  else
  some (.inr (.inr ()))
noncomputable def Zay(p:api_Panel):Option Int:=
  if(decide (100<(p.Instruments.length:Int)))=true then
  some 3
  else
  ((loop (t1 (XC p)) 0):Option ((Int) ⊕ (Unit))).bind (Sum.elim (fun q'=>some q') (t0 (some 0)))
noncomputable def Jr(n:Int)(low:Int)(high:Int):Option Bool:=
  some ((decide (low≤n))&&(decide (n≤high)))
noncomputable def JU(s:Str):Option Bool:=
  ((if(decide (s= [112,104,97,115,101]))=true then
  some (decide (s= [112,104,97,115,101]))
  else
  if(decide (s= [109,111,118,101]))=true then
  some (decide (s= [109,111,118,101]))
  else
  if(decide (s= [114,117,108,101]))=true then
  some (decide (s= [114,117,108,101]))
  else
  if(decide (s= [105,102]))=true then
  some (decide (s= [105,102]))
  else
  if(decide (s= [111,114]))=true then
  some (decide (s= [111,114]))
  else
  if(decide (s= [97,110,100]))=true then
  some (decide (s= [97,110,100]))
  else
  if(decide (s= [116,114,117,101]))=true then
  some (decide (s= [116,114,117,101]))
  else
  if(decide (s= [102,97,108,115,101]))=true then
  some (decide (s= [102,97,108,115,101]))
  else
  if(decide (s= [115,116,101,97,100,121]))=true then
  some (decide (s= [115,116,101,97,100,121]))
  else
  if(decide (s= [110,111,116]))=true then
  some (decide (s= [110,111,116]))
  else
  if(decide (s= [102,111,114]))=true then
  some (decide (s= [102,111,114]))
  else
  if(decide (s= [119,105,116,104,105,110]))=true then
  some (decide (s= [119,105,116,104,105,110]))
  else
  if(decide (s= [99,111,117,110,116]))=true then
  some (decide (s= [99,111,117,110,116]))
  else
  if(decide (s= [111,102]))=true then
  some (decide (s= [111,102]))
  else
  if(decide (s= [114,105,115,101,115]))=true then
  some (decide (s= [114,105,115,101,115]))
  else
  some (decide (s= [115,105,110,99,101]))):Option ((Bool))).bind (t1 fun(v:Bool)=>
  if v=true then
  some true
  else
  some false)
noncomputable def JX(c_:Int):Option Bool:=
  some ((((decide (97≤c_))&&(decide (c_≤122))) || ((decide (48≤c_))&&(decide (c_≤57)))) || (decide (c_=45)))
noncomputable def Xb(s:Str)(i:Int):Option ((Int) ⊕ (Bool) ⊕ (Unit)):=
  if(decide (i<(s.length:Int)))=true then
  (Zac s i).bind fun b3=>
  (JX b3).bind fun y3=>
  if(!y3)=true then
  some (.inr (.inl false))
  else
  some (.inl (i64 (i+1)))
  else
  some (.inr (.inr ()))
noncomputable def JW(s:Str):Option Bool:=
  (Jr (s.length:Int) 1 30).bind fun y=>
  (gd ((!y)==false) 0 (Zac s 0)).bind fun b=>
  (gd (((!y) || (decide (b<97)))==false) 0 (Zac s 0)).bind fun b2=>
  (gd ((((!y) || (decide (b<97))) || (decide (122<b2)))==false) false (JU s)).bind fun y2=>
  if((((!y) || (decide (b<97))) || (decide (122<b2))) || y2)=true then
  some false
  else
  ((loop (t1 (Xb s)) 0):Option ((Bool) ⊕ (Unit))).bind (Sum.elim (fun q'=>some q') (t0 (some true)))
noncomputable def Zq(s:List api_Track)(f:api_Track→Option Bool)(i:Int):Option ((Int) ⊕ (Int) ⊕ (Unit)):=
  if(decide (i<(s.length:Int)))=true then
  (idx s i).bind fun x=>
  (f x).bind fun y=>
  if y=true then
  some (.inr (.inl i))
  else
  some (.inl (i64 (i+1)))
  else
  some (.inr (.inr ()))
noncomputable def ZF(s:List api_Track)(f:api_Track→Option Bool):Option Int:=
  ((loop (t1 (Zq s f)) 0):Option ((Int) ⊕ (Unit))).bind (Sum.elim (fun q'=>some q') (t0 (some (-1))))
noncomputable def ZD(s:List api_Track)(f:api_Track→Option Bool):Option Bool:=
  (ZF s f).bind fun y=>
  some (decide (0≤y))
noncomputable def Xx(x:api_Track)(c0:api_Track):Option Bool:=
  some (decide (x.Name=c0.Name))
noncomputable def Xr(n:Int)(low:Int)(high:Int):Option Bool:=
  some ((decide (low≤n))&&(decide (n≤high)))
noncomputable def XR(s:api_Series)(i:Int):Option ((Int) ⊕ (Int×Int) ⊕ (Unit)):=
  if(decide (i<(s.Samples.length:Int)))=true then
  (idx s.Samples i).bind fun x=>
  (Xr x.At 0 1099511627776).bind fun y2=>
  (gd ((!y2)==false) false (Xr x.N (-1125899906842624) 1125899906842624)).bind fun y3=>
  (gd (((!y2) || (!y3))==false) false (Xr x.Mark 0 4)).bind fun y4=>
  if(((!y2) || (!y3)) || (!y4))=true then
  some (.inr (.inl (i,9)))
  else
  if((!decide (x.N=0))&&(decide (x.Mark≤1)))=true then
  some (.inr (.inl (i,2)))
  else
  (gd ((decide (0<i))==true) (api_Sample.mk 0 0 0) (idx s.Samples (i64 (i-1)))).bind fun x2=>
  if((decide (0<i))&&(decide (x.At≤x2.At)))=true then
  some (.inr (.inl (i,10)))
  else
  some (.inl (i64 (i+1)))
  else
  some (.inr (.inr ()))
noncomputable def J9(s:api_Series):Option (Int×Int):=
  (Xr s.Den 1 1000000).bind fun y=>
  if(!y)=true then
  some ((-1),9)
  else
  if(decide (20000<(s.Samples.length:Int)))=true then
  some ((-1),3)
  else
  ((loop (t1 (XR s)) 0):Option ((Int×Int) ⊕ (Unit))).bind (Sum.elim (fun q'=>some q') (t0 (some ((-1),0))))
noncomputable def JV(s:api_Series):Option Int:=
  (J9 s).bind fun y=>
  some y.2
noncomputable def Qo(l:List api_Track)(i:Int):Option ((Int) ⊕ (Int) ⊕ (Unit)):=
  if(decide (i<(l.length:Int)))=true then
  (idx l i).bind fun x=>
  (JW x.Name).bind fun y=>
  if(!y)=true then
  some (.inr (.inl 8))
  else
  (slc l 0 i).bind fun l2=>
  (ZD l2 (fun z0=>Xx z0 x)).bind fun y2=>
  if y2=true then
  some (.inr (.inl 5))
  else
  (JV x.Series).bind fun y3=>
  if(!decide (y3=0))=true then
  some (.inr (.inl y3))
  else
  (Jr x.Long 0 1099511627776).bind fun y4=>
  if(!y4)=true then
  some (.inr (.inl 9))
  else
  some (.inl (i64 (i+1)))
  else
  some (.inr (.inr ()))
noncomputable def Xh(l:List api_Track):Option Int:=
  if(decide (50<(l.length:Int)))=true then
  some 3
  else
  ((loop (t1 (Qo l)) 0):Option ((Int) ⊕ (Unit))).bind (Sum.elim (fun q'=>some q') (t0 (some 0)))
noncomputable def XS(t:api_Track)(c0:api_Instrument):Option Bool:=
  some (decide (t.Name=c0.Track))
noncomputable def Qr(l:List api_Track)(i:api_Instrument):Option Int:=
  (ZF l (fun z0=>XS z0 i)).bind fun y=>
  some y
noncomputable def Xn(i:api_Instrument)(c0:List api_Track):Option Bool:=
  (Qr c0 i).bind fun y=>
  some (decide (y<0))
noncomputable def XO(p:api_Panel)(l:List api_Track):Option Int:=
  (Zay p).bind fun y=>
  if(!decide (y=0))=true then
  some y
  else
  (Xh l).bind fun y2=>
  if(!decide (y2=0))=true then
  some y2
  else
  (Zp p.Instruments (fun z0=>Xn z0 l)).bind fun y3=>
  if y3=true then
  some 4
  else
  some 0
noncomputable def QC(y:List api_Instrument)(Instruments2:List api_Instrument)(i:Int):Option (((List api_Instrument)×Int) ⊕ ((List api_Instrument))):=
  if(decide (i<(y.length:Int)))=true then
  (idx Instruments2 i).bind fun x=>
  (ZaJ x.Zones).bind fun y2=>
  (idx Instruments2 i).bind fun x2=>
  some (.inl ((Instruments2.set i.toNat (api_Instrument.mk x2.Kind x2.Name x2.Track x2.Places x2.Low x2.High x2.Steps y2 x2.Op x2.N x2.Latch x2.Size)),(i64 (i+1))))
  else
  some (.inr Instruments2)
noncomputable def Xc(p:api_Panel):Option api_Panel:=
  (ZaJ p.Instruments).bind fun y=>
  ((loop (t2 (QC y)) (y,0)):Option (((List api_Instrument)))).bind (t1 fun(Instruments:List api_Instrument)=>
  some (api_Panel.mk Instruments))
noncomputable def Qv(y:List api_Track)(out2:List api_Track)(i:Int):Option (((List api_Track)×Int) ⊕ ((List api_Track))):=
  if(decide (i<(y.length:Int)))=true then
  (idx out2 i).bind fun x=>
  (ZaJ x.Series.Samples).bind fun y2=>
  (idx out2 i).bind fun x2=>
  some (.inl ((out2.set i.toNat (api_Track.mk x2.Name (api_Series.mk x2.Series.Den y2) x2.Long)),(i64 (i+1))))
  else
  some (.inr out2)
noncomputable def QY(l:List api_Track):Option (List api_Track):=
  (ZaJ l).bind fun y=>
  ((loop (t2 (Qv y)) (y,0)):Option (((List api_Track)))).bind (t1 fun(out:List api_Track)=>
  some out)
noncomputable def QV(p:api_Panel):Option api_PanelState:=
  (mks (p.Instruments.length:Int) (api_Memo.mk false false 0 0 [])).bind fun l=>
  some (api_PanelState.mk (-1) l)
noncomputable def QZ(p:api_Panel)(l:List api_Track)(keep:Int):Option ((Int) ⊕ (panel_Replay×Int)):=
  (XO p l).bind fun y=>
  if(!decide (y=0))=true then
  some (Sum.inl y)
  else
  (ZC keep 1 1000).bind fun y2=>
  if(!y2)=true then
  some (Sum.inl 9)
  else
  (Xc p).bind fun y3=>
  (QY l).bind fun y4=>
  (QV p).bind fun y5=>
  some (Sum.inr ((panel_Replay.mk y3 y4 keep y5 [] []),0))
noncomputable def Zs(x:List api_PanelState)(target:Int)(cmp:api_PanelState→Int→Option Int)(i2:Int)(j:Int):Option ((Int×Int) ⊕ (Int)):=
  if(decide (i2<j))=true then
  (shr .u64 (u64 (i64 (i2+j))) 1).bind fun q=>
  (idx x (i64 q)).bind fun x2=>
  (cmp x2 target).bind fun y=>
  if(decide (y<0))=true then
  some (.inl ((i64 ((i64 q)+1)),j))
  else
  some (.inl (i2,(i64 q)))
  else
  some (.inr i2)
noncomputable def ZB(x:List api_PanelState)(target:Int)(cmp:api_PanelState→Int→Option Int):Option (Int×Bool):=
  ((loop (t2 (Zs x target cmp)) (0,(x.length:Int))):Option ((Int))).bind (t1 fun(i:Int)=>
  (gd ((decide (i<(x.length:Int)))==true) (api_PanelState.mk 0 []) (idx x i)).bind fun x3=>
  (gd ((decide (i<(x.length:Int)))==true) 0 (cmp x3 target)).bind fun y2=>
  some (i,((decide (i<(x.length:Int)))&&(decide (y2=0)))))
noncomputable def Qg(s:api_PanelState)(frame:Int):Option Int:=
  some (i64 (s.Frame-frame))
noncomputable def ZQ(r_:panel_Replay)(frame:Int):Option (Int×Bool):=
  (ZB r_.kept frame (fun z0 z1=>Qg z0 z1)).bind fun y=>
  some (y.1,y.2)
noncomputable def Qi(y:List api_Memo)(Memos2:List api_Memo)(i:Int):Option (((List api_Memo)×Int) ⊕ ((List api_Memo))):=
  if(decide (i<(y.length:Int)))=true then
  (idx Memos2 i).bind fun x=>
  (ZaJ x.Tape).bind fun y2=>
  (idx Memos2 i).bind fun x2=>
  some (.inl ((Memos2.set i.toNat (api_Memo.mk x2.Lit x2.Some x2.N x2.Count y2)),(i64 (i+1))))
  else
  some (.inr Memos2)
noncomputable def Z2(s:api_PanelState):Option api_PanelState:=
  (ZaJ s.Memos).bind fun y=>
  ((loop (t2 (Qi y)) (y,0)):Option (((List api_Memo)))).bind (t1 fun(Memos:List api_Memo)=>
  some (api_PanelState.mk s.Frame Memos))
noncomputable def Qf(s:api_PanelState)(c0:Int)(c1:api_PanelState):Option api_PanelState:=
  if((decide (s.Frame≤c0))&&(decide (c1.Frame<s.Frame)))=true then
  (Z2 s).bind fun y=>
  some y
  else
  some c1
noncomputable def Zx(x:List api_Sample)(target:Int)(cmp:api_Sample→Int→Option Int)(i2:Int)(j:Int):Option ((Int×Int) ⊕ (Int)):=
  if(decide (i2<j))=true then
  (shr .u64 (u64 (i64 (i2+j))) 1).bind fun q=>
  (idx x (i64 q)).bind fun x2=>
  (cmp x2 target).bind fun y=>
  if(decide (y<0))=true then
  some (.inl ((i64 ((i64 q)+1)),j))
  else
  some (.inl (i2,(i64 q)))
  else
  some (.inr i2)
noncomputable def ZA(x:List api_Sample)(target:Int)(cmp:api_Sample→Int→Option Int):Option (Int×Bool):=
  ((loop (t2 (Zx x target cmp)) (0,(x.length:Int))):Option ((Int))).bind (t1 fun(i:Int)=>
  (gd ((decide (i<(x.length:Int)))==true) (api_Sample.mk 0 0 0) (idx x i)).bind fun x3=>
  (gd ((decide (i<(x.length:Int)))==true) 0 (cmp x3 target)).bind fun y2=>
  some (i,((decide (i<(x.length:Int)))&&(decide (y2=0)))))
noncomputable def QM(x:api_Sample)(at_:Int):Option Int:=
  some (i64 (x.At-at_))
noncomputable def JC(s:api_Series)(at_:Int):Option Int:=
  (ZA s.Samples at_ (fun z0 z1=>QM z0 z1)).bind fun y=>
  if y.2=true then
  some y.1
  else
  some (i64 (y.1-1))
noncomputable def ZaY(x:api_Sample):Option Bool:=
  some (decide (3≤x.Mark))
noncomputable def ZaD(s:api_Series)(at_:Int)(long:Int):Option (api_Sample×Bool):=
  (JC s at_).bind fun y=>
  (gd ((decide (y<0))==false) (api_Sample.mk 0 0 0) (idx s.Samples y)).bind fun x=>
  (gd ((decide (y<0))==false) false (ZaY x)).bind fun y2=>
  (gd (((decide (y<0)) || (!y2))==false) (api_Sample.mk 0 0 0) (idx s.Samples y)).bind fun x2=>
  if(((decide (y<0)) || (!y2)) || (decide (long<(i64 (at_-x2.At)))))=true then
  some ((api_Sample.mk 0 0 0),false)
  else
  (idx s.Samples y).bind fun x3=>
  some (x3,true)
noncomputable def Zbr(s:api_Series)(at_:Int)(long:Int):Option (api_Sample×Bool):=
  (ZaD s at_ long).bind fun y=>
  some (y.1,y.2)
noncomputable def Jc(t:api_Track)(frame:Int):Option (api_Sample×Bool):=
  (Zbr t.Series (i64 ((i64 ((i64 (64*frame))+64))-1)) t.Long).bind fun y=>
  some (y.1,y.2)
noncomputable def ZaL(op:Int)(a:Int)(b:Int):Option Bool:=
  if(decide (op=1))=true then
  some (decide (a<b))
  else
  if(decide (op=2))=true then
  some (decide (a≤b))
  else
  if(decide (op=3))=true then
  some (decide (a=b))
  else
  if(decide (op=4))=true then
  some (!decide (a=b))
  else
  if(decide (op=5))=true then
  some (decide (b≤a))
  else
  some (decide (b<a))
noncomputable def QX(out2:List Int)(i:Int):Option (((List Int)×Int) ⊕ ((List Int))):=
  if(decide ((i64 (i+2))≤(out2.length:Int)))=true then
  (slp out2 i (i64 (i+2))).bind fun u=>
  (ck (decide (2≤Int.toNat ((i64 (i+2))-i)))).bind fun u2=>
  (ck (decide ((0:Int)≤1)&&decide (1<(2:Int)))).bind fun u3=>
  (idx out2 (i+1)).bind fun x=>
  (ck (decide ((0:Int)≤0)&&decide (0<(2:Int)))).bind fun u4=>
  (idx out2 (i+0)).bind fun x2=>
  some (.inl ((out2.set (i+0).toNat x),(i64 (i+1))))
  else
  some (.inr out2)
noncomputable def JD(tape:List Int)(size:Int)(n:Int):Option (List Int):=
  (ZaJ tape).bind fun y=>
  (app y ([n]:List Int)).bind fun l=>
  if(decide ((l.length:Int)≤size))=true then
  some l
  else
  ((loop (t2 (QX)) (l,0)):Option (((List Int)))).bind (t1 fun(out:List Int)=>
  (slc out 0 (i64 ((out.length:Int)-1))).bind fun l2=>
  some l2)
noncomputable def Q5(i:api_Instrument)(m:api_Memo)(n:Int)(known:Bool):Option api_Memo:=
  (gd ((known&&((decide (i.Kind=3)) || (decide (i.Kind=5))))==true) false (ZaL i.Op n i.N)).bind fun y=>
  ((if(decide (i.Kind=3))=true then
  some (api_Memo.mk (((known&&((decide (i.Kind=3)) || (decide (i.Kind=5))))&&y) || (i.Latch&&m.Lit)) m.Some m.N m.Count m.Tape)
  else
  if(decide (i.Kind=5))=true then
  if(((known&&((decide (i.Kind=3)) || (decide (i.Kind=5))))&&y)&&(!m.Lit))=true then
  some (api_Memo.mk ((known&&((decide (i.Kind=3)) || (decide (i.Kind=5))))&&y) m.Some m.N (i64 (m.Count+1)) m.Tape)
  else
  some (api_Memo.mk ((known&&((decide (i.Kind=3)) || (decide (i.Kind=5))))&&y) m.Some m.N m.Count m.Tape)
  else
  if((decide (i.Kind=4))&&known)=true then
  ((if m.Some=true then
  some (max n m.N)
  else
  some n):Option ((Int))).bind (t1 fun(n2:Int)=>
  some (api_Memo.mk m.Lit true n2 m.Count m.Tape))
  else
  if((decide (i.Kind=6))&&known)=true then
  (JD m.Tape i.Size n).bind fun y2=>
  some (api_Memo.mk m.Lit m.Some m.N m.Count y2)
  else
  some m):Option ((api_Memo))).bind (t1 fun(m2:api_Memo)=>
  some m2)
noncomputable def QW(p:api_Panel)(l:List api_Track)(s:api_PanelState)(Memos2:List api_Memo)(i:Int):Option (((List api_Memo)×Int) ⊕ ((List api_Memo))):=
  if(decide (i<(p.Instruments.length:Int)))=true then
  (idx p.Instruments i).bind fun x=>
  (Qr l x).bind fun y=>
  (idx l y).bind fun x2=>
  (Jc x2 (i64 (s.Frame+1))).bind fun y2=>
  (idx s.Memos i).bind fun x3=>
  (ZaJ x3.Tape).bind fun y3=>
  (Q5 x (api_Memo.mk x3.Lit x3.Some x3.N x3.Count y3) y2.1.N y2.2).bind fun y4=>
  (app Memos2 ([y4]:List api_Memo)).bind fun l2=>
  some (.inl (l2,(i64 (i+1))))
  else
  some (.inr Memos2)
noncomputable def Xs(p:api_Panel)(l:List api_Track)(s:api_PanelState):Option api_PanelState:=
  ((loop (t2 (QW p l s)) ([],0)):Option (((List api_Memo)))).bind (t1 fun(Memos:List api_Memo)=>
  some (api_PanelState.mk (i64 (s.Frame+1)) Memos))
noncomputable def Z7(r_:panel_Replay)(n:Int)(state:api_PanelState)(kept:List api_PanelState)(i:Int):Option ((api_PanelState×(List api_PanelState)×Int) ⊕ (panel_Replay)):=
  if(decide (i<n))=true then
  (((Xs r_.p r_.l state).bind fun y=>
  (rem y.Frame r_.keep).bind fun q=>
  if(!decide (q=(i64 (r_.keep-1))))=true then
  some (y.Frame,y.Memos,kept)
  else
  (ZQ (panel_Replay.mk r_.p r_.l r_.keep y kept r_.marks) y.Frame).bind fun y2=>
  if(!y2.2)=true then
  (Z2 y).bind fun y3=>
  (ins kept y2.1 ([y3]:List api_PanelState)).bind fun l=>
  some (y.Frame,y.Memos,l)
  else
  some (y.Frame,y.Memos,kept)):Option ((Int×(List api_Memo)×(List api_PanelState)))).bind (t3 fun(Frame2:Int) (Memos2:List api_Memo) (kept2:List api_PanelState)=>
  some (.inl ((api_PanelState.mk Frame2 Memos2),kept2,(i64 (i+1)))))
  else
  some (.inr (panel_Replay.mk r_.p r_.l r_.keep state kept r_.marks))
noncomputable def panel_Replay_advance(r_:panel_Replay)(n:Int):Option panel_Replay:=
  loop (t3 (Z7 r_ n)) (r_.state,r_.kept,0)
noncomputable def ZK(r_:panel_Replay)(frame:Int):Option (Int×Int×panel_Replay):=
  (ZC frame (-1) 19999).bind fun y=>
  if(!y)=true then
  some (0,9,r_)
  else
  (QV r_.p).bind fun y2=>
  (ZQ r_ frame).bind fun y3=>
  ((if y3.2=true then
  some (i64 (y3.1+1))
  else
  some y3.1):Option ((Int))).bind (t1 fun(i:Int)=>
  ((if(decide (0<i))=true then
  (idx r_.kept (i64 (i-1))).bind fun x=>
  (Qf x frame y2).bind fun y4=>
  some (y4.Frame,y4.Memos)
  else
  some (y2.Frame,y2.Memos)):Option ((Int×(List api_Memo)))).bind (t2 fun(Frame:Int) (Memos:List api_Memo)=>
  (Qf r_.state frame (api_PanelState.mk Frame Memos)).bind fun y5=>
  (panel_Replay_advance (panel_Replay.mk r_.p r_.l r_.keep y5 r_.kept r_.marks) (i64 (frame-y5.Frame))).bind fun y6=>
  some ((i64 (frame-y5.Frame)),0,y6)))
noncomputable def X9(r_:panel_Replay)(n:Int)(state:api_PanelState)(kept:List api_PanelState)(i:Int):Option ((api_PanelState×(List api_PanelState)×Int) ⊕ (panel_Replay)):=
  if(decide (i<n))=true then
  (((Xs r_.p r_.l state).bind fun y=>
  (rem y.Frame r_.keep).bind fun q=>
  if(!decide (q=(i64 (r_.keep-1))))=true then
  some (y.Frame,y.Memos,kept)
  else
  (ZQ (panel_Replay.mk r_.p r_.l r_.keep y kept r_.marks) y.Frame).bind fun y2=>
  if(!y2.2)=true then
  (Z2 y).bind fun y3=>
  (ins kept y2.1 ([y3]:List api_PanelState)).bind fun l=>
  some (y.Frame,y.Memos,l)
  else
  some (y.Frame,y.Memos,kept)):Option ((Int×(List api_Memo)×(List api_PanelState)))).bind (t3 fun(Frame:Int) (Memos:List api_Memo) (kept2:List api_PanelState)=>
  some (.inl ((api_PanelState.mk Frame Memos),kept2,(i64 (i+1)))))
  else
  some (.inr (panel_Replay.mk r_.p r_.l r_.keep state kept r_.marks))
noncomputable def QK(r_:panel_Replay)(n:Int):Option panel_Replay:=
  loop (t3 (X9 r_ n)) (r_.state,r_.kept,0)
noncomputable def QG(r_:panel_Replay)(n:Int):Option (Int×panel_Replay):=
  if((decide (n<0)) || (decide ((i64 (19999-r_.state.Frame))<n)))=true then
  some (9,r_)
  else
  (QK r_ n).bind fun y=>
  some (0,y)
noncomputable def Q1(r_:panel_Replay):Option Int:=
  some r_.state.Frame
noncomputable def ZaS(places:Int)(scale2:Int)(i:Int):Option ((Int×Int) ⊕ (Int)):=
  if(decide (i<places))=true then
  some (.inl ((i64 (scale2*10)),(i64 (i+1))))
  else
  some (.inr scale2)
noncomputable def QR(n:Int)(den:Int)(places:Int):Option Str:=
  (quo .i64 (max n (i64 (-n))) den).bind fun q=>
  ((loop (t2 (ZaS places)) (1,0)):Option ((Int))).bind (t1 fun(scale:Int)=>
  (rem (max n (i64 (-n))) den).bind fun q2=>
  (quo .i64 (i64 ((i64 ((i64 (q2*scale))*2))+den)) (i64 (2*den))).bind fun q3=>
  ((if(decide (q3=scale))=true then
  some ((i64 (q+1)),0)
  else
  some (q,q3)):Option ((Int×Int))).bind (t2 fun(whole:Int) (part:Int)=>
  (itoa whole).bind fun y=>
  ((if(decide (0<places))=true then
  (itoa (i64 (scale+part))).bind fun y2=>
  (slc y2 1 (y2.length:Int)).bind fun s=>
  (cat [46] s).bind fun s2=>
  (cat y s2).bind fun s3=>
  some s3
  else
  some y):Option ((Str))).bind (t1 fun(out:Str)=>
  if((decide (n<0))&&((decide (0<whole)) || (decide (0<part))))=true then
  (cat [45] out).bind fun s4=>
  some s4
  else
  some out)))
noncomputable def JY(i:api_Instrument)(n:Int):Option Int:=
  if(decide (n≤i.Low))=true then
  some 0
  else
  if(decide (i.High≤n))=true then
  some i.Steps
  else
  (quo .i64 (i64 ((i64 (n-i.Low))*i.Steps)) (i64 (i.High-i.Low))).bind fun q=>
  some q
noncomputable def Xd(i:api_Instrument)(n:Int)(i2:Int):Option ((Int) ⊕ (Str) ⊕ (Unit)):=
  if(decide (i2<(i.Zones.length:Int)))=true then
  (idx i.Zones i2).bind fun x=>
  (ZC n x.From x.To).bind fun y=>
  if y=true then
  some (.inr (.inl x.Name))
  else
  some (.inl (i64 (i2+1)))
  else
  some (.inr (.inr ()))
noncomputable def Jk(i:api_Instrument)(n:Int):Option Str:=
  ((loop (t1 (Xd i n)) 0):Option ((Str) ⊕ (Unit))).bind (Sum.elim (fun q'=>some q') (t0 (some [])))
noncomputable def XY(i:api_Instrument)(m:api_Memo)(den:Int)(l2:List Str)(i2:Int):Option (((List Str)×Int) ⊕ ((List Str))):=
  if(decide (i2<(m.Tape.length:Int)))=true then
  (idx m.Tape i2).bind fun x2=>
  (QR x2 den i.Places).bind fun y6=>
  (app l2 ([y6]:List Str)).bind fun l3=>
  some (.inl (l3,(i64 (i2+1))))
  else
  some (.inr l2)
noncomputable def JN(i:api_Instrument)(m:api_Memo)(den:Int)(x:api_Sample)(known:Bool):Option api_Face:=
  ((if(decide (i.Kind=1))=true then
  if known=true then
  (QR x.N den i.Places).bind fun y=>
  some (api_Face.mk y 0 m.Lit x.Mark)
  else
  some (api_Face.mk [45,45,45] 0 m.Lit x.Mark)
  else
  if(decide (i.Kind=2))=true then
  if known=true then
  (JY i x.N).bind fun y2=>
  (Jk i x.N).bind fun y3=>
  some (api_Face.mk y3 y2 m.Lit x.Mark)
  else
  some (api_Face.mk [45,45,45] 0 m.Lit x.Mark)
  else
  if(decide (i.Kind=3))=true then
  if m.Lit=true then
  some (api_Face.mk [111,110] 0 m.Lit x.Mark)
  else
  if known=true then
  some (api_Face.mk [111,102,102] 0 m.Lit x.Mark)
  else
  some (api_Face.mk [45,45,45] 0 m.Lit x.Mark)
  else
  if(decide (i.Kind=4))=true then
  if m.Some=true then
  (QR m.N den i.Places).bind fun y4=>
  some (api_Face.mk y4 0 m.Lit x.Mark)
  else
  some (api_Face.mk [45,45,45] 0 m.Lit x.Mark)
  else
  if(decide (i.Kind=5))=true then
  (itoa m.Count).bind fun y5=>
  some (api_Face.mk y5 0 m.Lit x.Mark)
  else
  if(decide (i.Kind=6))=true then
  ((loop (t2 (XY i m den)) ([],0)):Option (((List Str)))).bind (t1 fun(l:List Str)=>
  if(decide (0<(l.length:Int)))=true then
  (ZfJ l [32]).bind fun y7=>
  some (api_Face.mk y7 0 m.Lit x.Mark)
  else
  some (api_Face.mk [45,45,45] 0 m.Lit x.Mark))
  else
  some (api_Face.mk [45,45,45] 0 m.Lit x.Mark)):Option ((api_Face))).bind (t1 fun(out:api_Face)=>
  some out)
noncomputable def XF(p:api_Panel)(l:List api_Track)(s:api_PanelState)(out2:List api_Face)(i:Int):Option (((List api_Face)×Int) ⊕ ((List api_Face))):=
  if(decide (i<(p.Instruments.length:Int)))=true then
  (idx p.Instruments i).bind fun x=>
  (Qr l x).bind fun y=>
  (idx l y).bind fun x2=>
  ((if(decide (0≤s.Frame))=true then
  (Jc x2 s.Frame).bind fun y2=>
  some (y2.1,y2.2)
  else
  some ((api_Sample.mk 0 0 0),false)):Option ((api_Sample×Bool))).bind (t2 fun(x3:api_Sample) (known:Bool)=>
  (idx s.Memos i).bind fun x4=>
  (JN x x4 x2.Series.Den x3 known).bind fun y3=>
  (app out2 ([y3]:List api_Face)).bind fun l2=>
  some (.inl (l2,(i64 (i+1)))))
  else
  some (.inr out2)
noncomputable def ZaB(p:api_Panel)(l:List api_Track)(s:api_PanelState):Option (List api_Face):=
  ((loop (t2 (XF p l s)) ([],0)):Option (((List api_Face)))).bind (t1 fun(out:List api_Face)=>
  some out)
noncomputable def Q2(r_:panel_Replay):Option (List api_Face):=
  (ZaB r_.p r_.l r_.state).bind fun y=>
  some y
noncomputable def ZI(s1:List api_Face)(s2:List api_Face)(i:Int):Option ((Int) ⊕ (Bool) ⊕ (Unit)):=
  if(decide (i<(s1.length:Int)))=true then
  (idx s1 i).bind fun x=>
  (idx s2 i).bind fun x2=>
  if(!(decide (x.Text=x2.Text)&&(decide (x.Needle=x2.Needle)&&((x.Lit==x2.Lit)&&(decide (x.Mark=x2.Mark)&&true)))))=true then
  some (.inr (.inl false))
  else
  some (.inl (i64 (i+1)))
  else
  some (.inr (.inr ()))
noncomputable def ZT(s1:List api_Face)(s2:List api_Face):Option Bool:=
  if(!decide ((s1.length:Int)=(s2.length:Int)))=true then
  some false
  else
  ((loop (t1 (ZI s1 s2)) 0):Option ((Bool) ⊕ (Unit))).bind (Sum.elim (fun q'=>some q') (t0 (some true)))
noncomputable def Q0(r_:panel_Replay):Option api_PanelState:=
  (Z2 r_.state).bind fun y=>
  some y
noncomputable def Z6(s1:List Int)(s2:List Int)(i:Int):Option ((Int) ⊕ (Bool) ⊕ (Unit)):=
  if(decide (i<(s1.length:Int)))=true then
  (idx s1 i).bind fun x=>
  (idx s2 i).bind fun x2=>
  if(!decide (x=x2))=true then
  some (.inr (.inl false))
  else
  some (.inl (i64 (i+1)))
  else
  some (.inr (.inr ()))
noncomputable def QH(s1:List Int)(s2:List Int):Option Bool:=
  if(!decide ((s1.length:Int)=(s2.length:Int)))=true then
  some false
  else
  ((loop (t1 (Z6 s1 s2)) 0):Option ((Bool) ⊕ (Unit))).bind (Sum.elim (fun q'=>some q') (t0 (some true)))
noncomputable def QJ(a:api_PanelState)(b:api_PanelState)(i:Int):Option ((Int) ⊕ (Bool) ⊕ (Unit)):=
  if(decide (i<(a.Memos.length:Int)))=true then
  (idx a.Memos i).bind fun x=>
  (idx b.Memos i).bind fun x2=>
  (gd (((((!(x.Lit==x2.Lit)) || (!(x.Some==x2.Some))) || (!decide (x.N=x2.N))) || (!decide (x.Count=x2.Count)))==false) false (QH x.Tape x2.Tape)).bind fun y=>
  if(((((!(x.Lit==x2.Lit)) || (!(x.Some==x2.Some))) || (!decide (x.N=x2.N))) || (!decide (x.Count=x2.Count))) || (!y))=true then
  some (.inr (.inl false))
  else
  some (.inl (i64 (i+1)))
  else
  some (.inr (.inr ()))
noncomputable def Jd(a:api_PanelState)(b:api_PanelState):Option Bool:=
  if((!decide (a.Frame=b.Frame)) || (!decide ((a.Memos.length:Int)=(b.Memos.length:Int))))=true then
  some false
  else
  ((loop (t1 (QJ a b)) 0):Option ((Bool) ⊕ (Unit))).bind (Sum.elim (fun q'=>some q') (t0 (some true)))
noncomputable def Zaw(way:List Int):Option ((Unit) ⊕ (Bool) ⊕ (Unit)):=
  if(decide (0<(way.length:Int)))=true then
  (idx way 0).bind fun x=>
  if(decide (500<x))=true then
  some (.inr (.inl true))
  else
  none
  else
  some (.inr (.inr ()))
noncomputable def ZaA(way:List Int):Option ((Unit) ⊕ (Bool) ⊕ (Unit)):=
  if(decide (0<(way.length:Int)))=true then
  (idx way 0).bind fun x2=>
  if(decide (500<x2))=true then
  some (.inr (.inl true))
  else
  none
  else
  some (.inr (.inr ()))
noncomputable def ZaK(way:List Int)(p3:api_Panel)(l3:List api_Track)(keep3:Int)(state2:api_PanelState)(kept2:List api_PanelState)(marks2:List api_Bookmark)(i:Int):Option ((api_Panel×(List api_Track)×Int×api_PanelState×(List api_PanelState)×(List api_Bookmark)×Int) ⊕ (Bool) ⊕ (api_Panel×(List api_Track)×Int×api_PanelState×(List api_PanelState)×(List api_Bookmark))):=
  if(decide (i<(way.length:Int)))=true then
  (idx way i).bind fun x3=>
  if(decide (500<x3))=true then
  some (.inr (.inl true))
  else
  (ZK (panel_Replay.mk p3 l3 keep3 state2 kept2 marks2) x3).bind fun y5=>
  some (.inl (y5.2.2.p,y5.2.2.l,y5.2.2.keep,y5.2.2.state,y5.2.2.kept,y5.2.2.marks,(i64 (i+1))))
  else
  some (.inr (.inr (p3,l3,keep3,state2,kept2,marks2)))
noncomputable def ZV(way:List Int)(p5:api_Panel)(l5:List api_Track)(keep5:Int)(state4:api_PanelState)(kept4:List api_PanelState)(marks4:List api_Bookmark)(i2:Int):Option ((api_Panel×(List api_Track)×Int×api_PanelState×(List api_PanelState)×(List api_Bookmark)×Int) ⊕ (Bool) ⊕ (api_Panel×(List api_Track)×Int×api_PanelState×(List api_PanelState)×(List api_Bookmark))):=
  if(decide (i2<(way.length:Int)))=true then
  (idx way i2).bind fun x4=>
  if(decide (500<x4))=true then
  some (.inr (.inl true))
  else
  (ZK (panel_Replay.mk p5 l5 keep5 state4 kept4 marks4) x4).bind fun y7=>
  some (.inl (y7.2.2.p,y7.2.2.l,y7.2.2.keep,y7.2.2.state,y7.2.2.kept,y7.2.2.marks,(i64 (i2+1))))
  else
  some (.inr (.inr (p5,l5,keep5,state4,kept4,marks4)))
noncomputable def Xg(p:api_Panel)(l:List api_Track)(keep:Int)(way:List Int)(frame:Int):Option Bool:=
  (Za3).bind fun y=>
  if(!y)=true then
  some false
  else
  (QZ p l keep).bind (Sum.elim (fun y2=>
  (QZ p l 1000).bind (Sum.elim (fun y3=>
  if((((!decide (y2=0)) || (!decide (y3=0))) || (decide (frame<0))) || (decide (500<frame)))=true then
  some true
  else
  ((loop (t0 (Zaw way)) ()):Option ((Bool) ⊕ (Unit))).bind (Sum.elim (fun q'=>some q') (t0 (none)))) (fun y3=>
  if((((!decide (y2=0)) || (!decide (y3.2=0))) || (decide (frame<0))) || (decide (500<frame)))=true then
  some true
  else
  ((loop (t0 (ZaA way)) ()):Option ((Bool) ⊕ (Unit))).bind (Sum.elim (fun q'=>some q') (t0 (none)))))) (fun y2=>
  (QZ p l 1000).bind (Sum.elim (fun y4=>
  if((((!decide (y2.2=0)) || (!decide (y4=0))) || (decide (frame<0))) || (decide (500<frame)))=true then
  some true
  else
  ((loop (t7 (ZaK way)) (y2.1.p,y2.1.l,y2.1.keep,y2.1.state,y2.1.kept,y2.1.marks,0)):Option ((Bool) ⊕ (api_Panel×(List api_Track)×Int×api_PanelState×(List api_PanelState)×(List api_Bookmark)))).bind (Sum.elim (fun q'=>some q') (t6 fun(p2:api_Panel) (l2:List api_Track) (keep2:Int) (state:api_PanelState) (kept:List api_PanelState) (marks:List api_Bookmark)=>
  (ZK (panel_Replay.mk p2 l2 keep2 state kept marks) frame).bind fun y6=>
  if(!decide (y6.2.1=0))=true then
  some false
  else
  none))) (fun y4=>
  if((((!decide (y2.2=0)) || (!decide (y4.2=0))) || (decide (frame<0))) || (decide (500<frame)))=true then
  some true
  else
  ((loop (t7 (ZV way)) (y2.1.p,y2.1.l,y2.1.keep,y2.1.state,y2.1.kept,y2.1.marks,0)):Option ((Bool) ⊕ (api_Panel×(List api_Track)×Int×api_PanelState×(List api_PanelState)×(List api_Bookmark)))).bind (Sum.elim (fun q'=>some q') (t6 fun(p4:api_Panel) (l4:List api_Track) (keep4:Int) (state3:api_PanelState) (kept3:List api_PanelState) (marks3:List api_Bookmark)=>
  (ZK (panel_Replay.mk p4 l4 keep4 state3 kept3 marks3) frame).bind fun y8=>
  if(!decide (y8.2.1=0))=true then
  some false
  else
  (QG y4.1 (i64 (frame+1))).bind fun y9=>
  if(!decide (y9.1=0))=true then
  some false
  else
  (Q1 y8.2.2).bind fun y10=>
  if((decide (y10=frame))==true)=true then
  (Q1 y9.2).bind fun y11=>
  if((true&&(decide (y11=frame)))==true)=true then
  (Q2 y8.2.2).bind fun y12=>
  (Q2 y9.2).bind fun y13=>
  (gd (true==true) false (ZT y12 y13)).bind fun y14=>
  if((true&&y14)==true)=true then
  (Q0 y8.2.2).bind fun y15=>
  (Q0 y9.2).bind fun y16=>
  (gd (true==true) false (Jd y15 y16)).bind fun y17=>
  some (true&&y17)
  else
  (gd (false==true) () (none:Option Unit)).bind fun u=>
  some (false&&false)
  else
  (gd (false==true) () (none:Option Unit)).bind fun u2=>
  (gd ((false&&false)==true) () (none:Option Unit)).bind fun u3=>
  some ((false&&false)&&false)
  else
  (gd (false==true) () (none:Option Unit)).bind fun u4=>
  (gd ((false&&false)==true) () (none:Option Unit)).bind fun u5=>
  (gd (((false&&false)&&false)==true) () (none:Option Unit)).bind fun u6=>
  some (((false&&false)&&false)&&false)))))))
noncomputable def Xj(n:Int)(low:Int)(high:Int):Option Bool:=
  some ((decide (n<low)) || (decide (high<n)))
noncomputable def ZcZ(mark:Int):Option Bool:=
  some (decide (2≤mark))
noncomputable def Zas(s:api_Sample):Option Int:=
  (Xj s.At 0 1099511627776).bind fun y=>
  (gd (y==false) false (Xj s.N (-1125899906842624) 1125899906842624)).bind fun y2=>
  (gd ((y || y2)==false) false (Xj s.Mark 0 4)).bind fun y3=>
  if((y || y2) || y3)=true then
  some 9
  else
  (gd ((!decide (s.N=0))==true) false (ZcZ s.Mark)).bind fun y4=>
  if((!decide (s.N=0))&&(!y4))=true then
  some 2
  else
  some 0
noncomputable def Zav(s:api_Series)(i:Int):Option ((Int) ⊕ (Int×Int) ⊕ (Unit)):=
  if(decide (i<(s.Samples.length:Int)))=true then
  (idx s.Samples i).bind fun x=>
  (Zas x).bind fun y2=>
  if(!decide (y2=0))=true then
  some (.inr (.inl (i,y2)))
  else
  (gd ((decide (0<i))==true) (api_Sample.mk 0 0 0) (idx s.Samples i)).bind fun x2=>
  (gd ((decide (0<i))==true) (api_Sample.mk 0 0 0) (idx s.Samples (i64 (i-1)))).bind fun x3=>
  if((decide (0<i))&&(decide (x2.At≤x3.At)))=true then
  some (.inr (.inl (i,10)))
  else
  some (.inl (i64 (i+1)))
  else
  some (.inr (.inr ()))
noncomputable def Zc3(s:api_Series):Option (Int×Int):=
  (Xj s.Den 1 1000000).bind fun y=>
  if y=true then
  some ((-1),9)
  else
  if(decide (20000<(s.Samples.length:Int)))=true then
  some ((-1),3)
  else
  ((loop (t1 (Zav s)) 0):Option ((Int×Int) ⊕ (Unit))).bind (Sum.elim (fun q'=>some q') (t0 (some ((-1),0))))
noncomputable def Zdf(s:api_Series):Option Int:=
  (Zc3 s).bind fun y=>
  some y.2
noncomputable def Jz(l:List api_Track)(name:Str)(i:Int):Option ((Int) ⊕ (api_Track×Bool) ⊕ (Unit)):=
  if(decide (i<(l.length:Int)))=true then
  (idx l i).bind fun x=>
  if(decide (x.Name=name))=true then
  some (.inr (.inl (x,true)))
  else
  some (.inl (i64 (i+1)))
  else
  some (.inr (.inr ()))
noncomputable def Zbi(l:List api_Track)(name:Str):Option (api_Track×Bool):=
  ((loop (t1 (Jz l name)) 0):Option ((api_Track×Bool) ⊕ (Unit))).bind (Sum.elim (fun q'=>some q') (t0 (some ((api_Track.mk [] (api_Series.mk 0 []) 0),false))))
noncomputable def ZeN(mark:Int):Option Bool:=
  some (decide (3≤mark))
noncomputable def ZaU(s:api_Series)(at_:Int)(low2:Int)(high:Int):Option ((Int×Int) ⊕ (Int)):=
  if(decide (low2<high))=true then
  (quo .i64 (i64 (low2+high)) 2).bind fun q=>
  (idx s.Samples q).bind fun x=>
  if(decide (x.At≤at_))=true then
  some (.inl ((i64 (q+1)),high))
  else
  some (.inl (low2,q))
  else
  some (.inr low2)
noncomputable def ZdV(s:api_Series)(at_:Int)(long:Int):Option (api_Sample×Bool):=
  ((loop (t2 (ZaU s at_)) (0,(s.Samples.length:Int))):Option ((Int))).bind (t1 fun(low:Int)=>
  if(decide (low=0))=true then
  some ((api_Sample.mk 0 0 0),false)
  else
  (idx s.Samples (i64 (low-1))).bind fun x2=>
  (ZeN x2.Mark).bind fun y=>
  if((!y) || (decide (long<(i64 (at_-x2.At)))))=true then
  some ((api_Sample.mk 0 0 0),false)
  else
  some (x2,true))
noncomputable def Zd0(s:api_Series)(at_:Int)(long:Int):Option (api_Sample×Bool×Int):=
  (Zdf s).bind fun y=>
  if(!decide (y=0))=true then
  some ((api_Sample.mk 0 0 0),false,y)
  else
  (Xj at_ 0 1099511627776).bind fun y2=>
  (gd (y2==false) false (Xj long 0 1099511627776)).bind fun y3=>
  if(y2 || y3)=true then
  some ((api_Sample.mk 0 0 0),false,9)
  else
  (ZdV s at_ long).bind fun y4=>
  some (y4.1,y4.2,0)
noncomputable def ZaW(t:api_Track)(frame:Int):Option (api_Sample×Bool):=
  (Zd0 t.Series (i64 ((i64 (64*frame))+63)) t.Long).bind fun y=>
  some (y.1,y.2.1)
noncomputable def Zch(places:Int)(unit2:Int)(i:Int):Option ((Int×Int) ⊕ (Int)):=
  if(decide (i<places))=true then
  some (.inl ((i64 (unit2*10)),(i64 (i+1))))
  else
  some (.inr unit2)
noncomputable def Jj(n:Int)(den:Int)(places:Int):Option Str:=
  ((if(decide (n<0))=true then
  some ((i64 (-n)),[45])
  else
  some (n,[])):Option ((Int×Str))).bind (t2 fun(size:Int) (sign:Str)=>
  ((loop (t2 (Zch places)) (1,0)):Option ((Int))).bind (t1 fun(unit:Int)=>
  (quo .i64 size den).bind fun q=>
  (rem size den).bind fun q2=>
  (quo .i64 (i64 ((i64 ((i64 (2*unit))*q2))+den)) (i64 (2*den))).bind fun q3=>
  ((if(decide (q3=unit))=true then
  some ((i64 (q+1)),0)
  else
  some (q,q3)):Option ((Int×Int))).bind (t2 fun(whole:Int) (part:Int)=>
  ((if((decide (whole=0))&&(decide (part=0)))=true then
  some []
  else
  some sign):Option ((Str))).bind (t1 fun(sign2:Str)=>
  (itoa whole).bind fun y=>
  ((if(decide (0<places))=true then
  (itoa (i64 (unit+part))).bind fun y2=>
  (slc y2 1 (y2.length:Int)).bind fun s2=>
  (cat [46] s2).bind fun s3=>
  (cat y s3).bind fun s4=>
  some s4
  else
  some y):Option ((Str))).bind (t1 fun(s:Str)=>
  (cat sign2 s).bind fun s5=>
  some s5)))))
noncomputable def Zd9(i:api_Instrument)(n:Int):Option Int:=
  if(decide (n≤i.Low))=true then
  some 0
  else
  if(decide (i.High≤n))=true then
  some i.Steps
  else
  (quo .i64 (i64 ((i64 (n-i.Low))*i.Steps)) (i64 (i.High-i.Low))).bind fun q=>
  some q
noncomputable def ZfZ(i:api_Instrument)(n:Int)(i2:Int):Option ((Int) ⊕ (Str) ⊕ (Unit)):=
  if(decide (i2<(i.Zones.length:Int)))=true then
  (idx i.Zones i2).bind fun x=>
  if((decide (x.From≤n))&&(decide (n≤x.To)))=true then
  some (.inr (.inl x.Name))
  else
  some (.inl (i64 (i2+1)))
  else
  some (.inr (.inr ()))
noncomputable def ZdP(i:api_Instrument)(n:Int):Option Str:=
  ((loop (t1 (ZfZ i n)) 0):Option ((Str) ⊕ (Unit))).bind (Sum.elim (fun q'=>some q') (t0 (some [])))
noncomputable def Jo(i:api_Instrument)(den:Int)(m:api_Memo)(Mark:Int)(Text:Str)(i2:Int):Option ((Str×Int) ⊕ (api_Face)):=
  if(decide (i2<(m.Tape.length:Int)))=true then
  (idx m.Tape i2).bind fun x=>
  if(decide (i2=0))=true then
  (Jj x den i.Places).bind fun y6=>
  some (.inl (y6,(i64 (i2+1))))
  else
  (Jj x den i.Places).bind fun y7=>
  (cat [32] y7).bind fun s2=>
  (cat Text s2).bind fun s3=>
  some (.inl (s3,(i64 (i2+1))))
  else
  some (.inr (api_Face.mk Text 0 false Mark))
noncomputable def ZcJ(i:api_Instrument)(den:Int)(m:api_Memo)(s:api_Sample)(known:Bool):Option api_Face:=
  ((if known=true then
  some s.Mark
  else
  some 0):Option ((Int))).bind (t1 fun(Mark:Int)=>
  ((if(decide (i.Kind=1))=true then
  if known=true then
  (Jj s.N den i.Places).bind fun y=>
  some (api_Face.mk y 0 false Mark)
  else
  some (api_Face.mk [45,45,45] 0 false Mark)
  else
  if(decide (i.Kind=2))=true then
  if known=true then
  (Zd9 i s.N).bind fun y2=>
  (ZdP i s.N).bind fun y3=>
  some (api_Face.mk y3 y2 false Mark)
  else
  some (api_Face.mk [45,45,45] 0 false Mark)
  else
  if(decide (i.Kind=3))=true then
  if m.Lit=true then
  some (api_Face.mk [111,110] 0 m.Lit Mark)
  else
  if known=true then
  some (api_Face.mk [111,102,102] 0 m.Lit Mark)
  else
  some (api_Face.mk [45,45,45] 0 m.Lit Mark)
  else
  if(decide (i.Kind=4))=true then
  if m.Some=true then
  (Jj m.N den i.Places).bind fun y4=>
  some (api_Face.mk y4 0 false Mark)
  else
  some (api_Face.mk [45,45,45] 0 false Mark)
  else
  if(decide (i.Kind=5))=true then
  (itoa m.Count).bind fun y5=>
  some (api_Face.mk y5 0 m.Lit Mark)
  else
  if(decide (i.Kind=6))=true then
  loop (t2 (Jo i den m Mark)) ([45,45,45],0)
  else
  some (api_Face.mk [45,45,45] 0 false Mark)):Option ((api_Face))).bind (t1 fun(f:api_Face)=>
  some f))
noncomputable def Jx(p:api_Panel)(l:List api_Track)(s:api_PanelState)(out2:List api_Face)(i:Int):Option (((List api_Face)×Int) ⊕ ((List api_Face))):=
  if(decide (i<(p.Instruments.length:Int)))=true then
  (idx p.Instruments i).bind fun x=>
  (Zbi l x.Track).bind fun y=>
  ((if(decide (0≤s.Frame))=true then
  (ZaW y.1 s.Frame).bind fun y2=>
  some (y2.1,y2.2)
  else
  some ((api_Sample.mk 0 0 0),false)):Option ((api_Sample×Bool))).bind (t2 fun(x2:api_Sample) (known:Bool)=>
  (idx s.Memos i).bind fun x3=>
  (ZcJ x y.1.Series.Den x3 x2 known).bind fun y3=>
  (app out2 ([y3]:List api_Face)).bind fun l2=>
  some (.inl (l2,(i64 (i+1)))))
  else
  some (.inr out2)
noncomputable def Zfu(p:api_Panel)(l:List api_Track)(s:api_PanelState):Option (List api_Face):=
  ((loop (t2 (Jx p l s)) ([],0)):Option (((List api_Face)))).bind (t1 fun(out:List api_Face)=>
  some out)
end Go.Vx
