/- A text of the proof: a verified executor of the program form, or the contracts of the functions that the law reaches. -/
import Derived.Test.YtailpehcgelmdaaGreatDoorShLib
set_option linter.all false
namespace Go.Vx
open Go Go.RowKit
set_option linter.unusedVariables false
structure api_Zone where
  From:Int
  To:Int
  Name:Str
structure api_Instrument where
  Kind:Int
  Name:Str
  Track:Str
  Places:Int
  Low:Int
  High:Int
  Steps:Int
  Zones:List api_Zone
  Op:Int
  N:Int
  Latch:Bool
  Size:Int
structure api_Panel where
  Instruments:List api_Instrument
structure api_Sample where
  At:Int
  N:Int
  Mark:Int
structure api_Series where
  Den:Int
  Samples:List api_Sample
structure api_Track where
  Name:Str
  Series:api_Series
  Long:Int
structure api_Memo where
  Lit:Bool
  Some:Bool
  N:Int
  Count:Int
  Tape:List Int
structure api_PanelState where
  Frame:Int
  Memos:List api_Memo
structure api_Bookmark where
  Frame:Int
  Text:Str
structure panel_Replay where
  p:api_Panel
  l:List api_Track
  keep:Int
  state:api_PanelState
  kept:List api_PanelState
  marks:List api_Bookmark
structure api_Face where
  Text:Str
  Needle:Int
  Lit:Bool
  Mark:Int
structure strings_Builder where
  addr:Unit
  buf:List Int
noncomputable def ZF(n:Int)(low:Int)(high:Int):Option Bool:=
  some ((decide (low≤n))&&(decide (n≤high)))
noncomputable def Xm(c_:Int)(s3:Str):Option ((Str) ⊕ (Str)):=
  (gd ((decide (0<(s3.length:Int)))==true) 0 (Jv s3 (i64 ((s3.length:Int)-1)))).bind fun b=>
  if((decide (0<(s3.length:Int)))&&(decide (b=c_)))=true then
  (slc s3 0 (i64 ((s3.length:Int)-1))).bind fun s4=>
  some (.inl s4)
  else
  some (.inr s3)
noncomputable def Xe(s:Str)(c_:Int):Option Str:=
  ((loop (t1 (Xm c_)) s):Option ((Str))).bind (t1 fun(s2:Str)=>
  some s2)
noncomputable def XA(c_:Int)(s3:Str):Option ((Str) ⊕ (Str)):=
  (gd ((decide (0<(s3.length:Int)))==true) 0 (Jv s3 0)).bind fun b=>
  if((decide (0<(s3.length:Int)))&&(decide (b=c_)))=true then
  (slc s3 1 (s3.length:Int)).bind fun s4=>
  some (.inl s4)
  else
  some (.inr s3)
noncomputable def Xw(s:Str)(c_:Int):Option Str:=
  ((loop (t1 (XA c_)) s):Option ((Str))).bind (t1 fun(s2:Str)=>
  some s2)
noncomputable def XB(chars:Str)(as_2:Vector Bool 256)(i:Int):Option (((Vector Bool 256)×Int) ⊕ ((Vector Bool 256)×Bool) ⊕ ((Vector Bool 256))):=
  if(decide (i<(chars.length:Int)))=true then
  (Jv chars i).bind fun b=>
  if(decide (128≤b))=true then
  some (.inr (.inl (as_2,false)))
  else
  (ZfS as_2 b).bind fun x=>
  some (.inl ((ZkW as_2 b true),(i64 (i+1))))
  else
  some (.inr (.inr as_2))
noncomputable def QJ(chars:Str):Option ((Vector Bool 256)×Bool):=
  ((loop (t2 (XB chars)) ((Vector.replicate 256 false),0)):Option (((Vector Bool 256)×Bool) ⊕ ((Vector Bool 256)))).bind (Sum.elim (fun q'=>some q') (t1 fun(as_:Vector Bool 256)=>
  some (as_,true)))
noncomputable def ZO(as_:Vector Bool 256)(c_:Int):Option Bool:=
  (ZfS as_ c_).bind fun x=>
  some x
noncomputable def ZN(as_:Vector Bool 256)(s3:Str):Option ((Str) ⊕ (Str)):=
  if(decide (0<(s3.length:Int)))=true then
  (Jv s3 (i64 ((s3.length:Int)-1))).bind fun b=>
  (ZO as_ b).bind fun y=>
  if(!y)=true then
  some (.inr s3)
  else
  (slc s3 0 (i64 ((s3.length:Int)-1))).bind fun s4=>
  some (.inl s4)
  else
  some (.inr s3)
noncomputable def Qc(s:Str)(as_:Vector Bool 256):Option Str:=
  ((loop (t1 (ZN as_)) s):Option ((Str))).bind (t1 fun(s2:Str)=>
  some s2)
noncomputable def ZQ(as_:Vector Bool 256)(s3:Str):Option ((Str) ⊕ (Str)):=
  if(decide (0<(s3.length:Int)))=true then
  (Jv s3 0).bind fun b=>
  (ZO as_ b).bind fun y=>
  if(!y)=true then
  some (.inr s3)
  else
  (slc s3 1 (s3.length:Int)).bind fun s4=>
  some (.inl s4)
  else
  some (.inr s3)
noncomputable def Qm(s:Str)(as_:Vector Bool 256):Option Str:=
  ((loop (t1 (ZQ as_)) s):Option ((Str))).bind (t1 fun(s2:Str)=>
  some s2)
noncomputable def Zav(b:Int):Option Bool:=
  some (!decide ((Zk8 .u8 b 192)=128))
noncomputable def Qr(s:Str):Option (Int×Int):=
  if(decide ((s.length:Int)<1))=true then
  some (65533,0)
  else
  (Jv s 0).bind fun b=>
  none
noncomputable def Qu(s:Str):Option (Int×Int):=
  (gd ((!decide (s= []))==true) 0 (Jv s 0)).bind fun b=>
  if((!decide (s= []))&&(decide (b<128)))=true then
  (Jv s 0).bind fun b2=>
  some ((i32 b2),1)
  else
  (Qr s).bind fun y=>
  some (y.1,y.2)
noncomputable def QC(s:Str)(start2:Int):Option ((Int) ⊕ (Int)):=
  if(decide ((max (i64 ((s.length:Int)-4)) 0)≤start2))=true then
  (Jv s start2).bind fun b2=>
  (Zav b2).bind fun y=>
  if y=true then
  some (.inr start2)
  else
  some (.inl (i64 (start2-1)))
  else
  some (.inr start2)
noncomputable def Qs(s:Str):Option (Int×Int):=
  if(decide ((s.length:Int)=0))=true then
  some (65533,0)
  else
  (Jv s (i64 ((s.length:Int)-1))).bind fun b=>
  if(decide ((i32 b)<128))=true then
  some ((i32 b),1)
  else
  ((loop (t1 (QC s)) (i64 ((i64 ((s.length:Int)-1))-1))):Option ((Int))).bind (t1 fun(start:Int)=>
  ((if(decide (start<0))=true then
  some 0
  else
  some start):Option ((Int))).bind (t1 fun(start3:Int)=>
  (slc s start3 (s.length:Int)).bind fun s2=>
  (Qu s2).bind fun y2=>
  if(!decide ((i64 (start3+y2.2))=(s.length:Int)))=true then
  some (65533,1)
  else
  some (y2.1,y2.2)))
noncomputable def QT(s:Str)(r_:Int):Option Bool:=
  none
noncomputable def QV(cutset:Str)(s3:Str):Option ((Str) ⊕ (Str)):=
  if(decide (0<(s3.length:Int)))=true then
  (Jv s3 (i64 ((s3.length:Int)-1))).bind fun b=>
  ((if(decide (128≤(i32 b)))=true then
  (Qs s3).bind fun y=>
  some (y.1,y.2)
  else
  some ((i32 b),1)):Option ((Int×Int))).bind (t2 fun(r_:Int) (n:Int)=>
  (QT cutset r_).bind fun y2=>
  if(!y2)=true then
  some (.inr s3)
  else
  (slc s3 0 (i64 ((s3.length:Int)-n))).bind fun s4=>
  some (.inl s4))
  else
  some (.inr s3)
noncomputable def QF(s:Str)(cutset:Str):Option Str:=
  ((loop (t1 (QV cutset)) s):Option ((Str))).bind (t1 fun(s2:Str)=>
  some s2)
noncomputable def Q2(cutset:Str)(s3:Str):Option ((Str) ⊕ (Str)):=
  if(decide (0<(s3.length:Int)))=true then
  (Qu s3).bind fun y=>
  (QT cutset y.1).bind fun y2=>
  if(!y2)=true then
  some (.inr s3)
  else
  (slc s3 y.2 (s3.length:Int)).bind fun s4=>
  some (.inl s4)
  else
  some (.inr s3)
noncomputable def QQ(s:Str)(cutset:Str):Option Str:=
  ((loop (t1 (Q2 cutset)) s):Option ((Str))).bind (t1 fun(s2:Str)=>
  some s2)
noncomputable def Ji(s:Str)(cutset:Str):Option Str:=
  if((decide (s= [])) || (decide (cutset= [])))=true then
  some s
  else
  (gd ((decide ((cutset.length:Int)=1))==true) 0 (Jv cutset 0)).bind fun b=>
  if((decide ((cutset.length:Int)=1))&&(decide (b<128)))=true then
  (Jv cutset 0).bind fun b2=>
  (Xe s b2).bind fun y=>
  (Jv cutset 0).bind fun b3=>
  (Xw y b3).bind fun y2=>
  some y2
  else
  (QJ cutset).bind fun y3=>
  if y3.2=true then
  (Qc s y3.1).bind fun y4=>
  (Qm y4 y3.1).bind fun y5=>
  some y5
  else
  (QF s cutset).bind fun y6=>
  (QQ y6 cutset).bind fun y7=>
  some y7
noncomputable def Jc(s:Str):Option Bool:=
  (ZF (s.length:Int) 1 30).bind fun y=>
  (gd (y==true) [] (Ji s [97,98,99,100,101,102,103,104,105,106,107,108,109,110,111,112,113,114,115,116,117,118,119,120,121,122,48,49,50,51,52,53,54,55,56,57,45])).bind fun y2=>
  some (y&&(decide (y2= [])))
noncomputable def ZY(s:List Int)(v:Int)(i:Int):Option ((Int) ⊕ (Int) ⊕ (Unit)):=
  if(decide (i<(s.length:Int)))=true then
  (idx s i).bind fun x=>
  if(decide (v=x))=true then
  some (.inr (.inl i))
  else
  some (.inl (i64 (i+1)))
  else
  some (.inr (.inr ()))
noncomputable def QO(s:List Int)(v:Int):Option Int:=
  ((loop (t1 (ZY s v)) 0):Option ((Int) ⊕ (Unit))).bind (Sum.elim (fun q'=>some q') (t0 (some (-1))))
noncomputable def Z6(s:List Int)(v:Int):Option Bool:=
  (QO s v).bind fun y=>
  some (decide (0≤y))
noncomputable def ZJ(l:List Int)(c0:api_Instrument):Option Bool:=
  (Z6 l c0.Kind).bind fun y=>
  some y
noncomputable def JG(i:api_Instrument):Option Bool:=
  (gd ((!decide (i.Places=0))==true) false (ZJ ([1,4,6]:List Int) i)).bind fun y=>
  (gd ((((!decide (i.Places=0))&&(!y))==false)&&(((((!decide (i.Low=0)) || (!decide (i.High=0))) || (!decide (i.Steps=0))) || (decide (0<(i.Zones.length:Int))))==true)) false (ZJ ([2]:List Int) i)).bind fun y2=>
  (gd (((((!decide (i.Places=0))&&(!y)) || (((((!decide (i.Low=0)) || (!decide (i.High=0))) || (!decide (i.Steps=0))) || (decide (0<(i.Zones.length:Int))))&&(!y2)))==false)&&(((!decide (i.Op=0)) || (!decide (i.N=0)))==true)) false (ZJ ([3,5]:List Int) i)).bind fun y3=>
  (gd ((((((!decide (i.Places=0))&&(!y)) || (((((!decide (i.Low=0)) || (!decide (i.High=0))) || (!decide (i.Steps=0))) || (decide (0<(i.Zones.length:Int))))&&(!y2))) || (((!decide (i.Op=0)) || (!decide (i.N=0)))&&(!y3)))==false)&&(i.Latch==true)) false (ZJ ([3]:List Int) i)).bind fun y4=>
  (gd (((((((!decide (i.Places=0))&&(!y)) || (((((!decide (i.Low=0)) || (!decide (i.High=0))) || (!decide (i.Steps=0))) || (decide (0<(i.Zones.length:Int))))&&(!y2))) || (((!decide (i.Op=0)) || (!decide (i.N=0)))&&(!y3))) || (i.Latch&&(!y4)))==false)&&((!decide (i.Size=0))==true)) false (ZJ ([6]:List Int) i)).bind fun y5=>
  some ((((((!decide (i.Places=0))&&(!y)) || (((((!decide (i.Low=0)) || (!decide (i.High=0))) || (!decide (i.Steps=0))) || (decide (0<(i.Zones.length:Int))))&&(!y2))) || (((!decide (i.Op=0)) || (!decide (i.N=0)))&&(!y3))) || (i.Latch&&(!y4))) || ((!decide (i.Size=0))&&(!y5)))
noncomputable def Xj(n:Int):Option Bool:=
  (ZF n (-1125899906842624) 1125899906842624).bind fun y=>
  some y
noncomputable def Qz(i:api_Instrument)(i2:Int):Option ((Int) ⊕ (Int) ⊕ (Unit)):=
  if(decide (i2<(i.Zones.length:Int)))=true then
  (idx i.Zones i2).bind fun x=>
  (Jc x.Name).bind fun y4=>
  if(!y4)=true then
  some (.inr (.inl 8))
  else
  if(decide (x.To<x.From))=true then
  some (.inr (.inl 9))
  else
  (gd ((decide (0<i2))==true) (api_Zone.mk 0 0 []) (idx i.Zones (i64 (i2-1)))).bind fun x2=>
  if((decide (0<i2))&&(decide (x.From≤x2.To)))=true then
  some (.inr (.inl 10))
  else
  some (.inl (i64 (i2+1)))
  else
  some (.inr (.inr ()))
noncomputable def XG(i:api_Instrument):Option Int:=
  (gd ((decide (i.High≤i.Low))==false) false (Xj i.Low)).bind fun y=>
  (gd (((decide (i.High≤i.Low)) || (!y))==false) false (Xj i.High)).bind fun y2=>
  (gd ((((decide (i.High≤i.Low)) || (!y)) || (!y2))==false) false (ZF i.Steps 1 1000)).bind fun y3=>
  if((((decide (i.High≤i.Low)) || (!y)) || (!y2)) || (!y3))=true then
  some 9
  else
  if(decide (10<(i.Zones.length:Int)))=true then
  some 3
  else
  ((loop (t1 (Qz i)) 0):Option ((Int) ⊕ (Unit))).bind (Sum.elim (fun q'=>some q') (t0 (some 0)))
noncomputable def Qo(i:api_Instrument):Option Int:=
  (ZF i.Kind 1 6).bind fun y=>
  if(!y)=true then
  some 7
  else
  (Jc i.Name).bind fun y2=>
  (gd ((!y2)==false) false (ZF (i.Track.length:Int) 1 30)).bind fun y3=>
  if((!y2) || (!y3))=true then
  some 8
  else
  (JG i).bind fun y4=>
  if y4=true then
  some 2
  else
  (ZF i.Places 0 6).bind fun y5=>
  if(!y5)=true then
  some 9
  else
  if(decide (i.Kind=2))=true then
  (XG i).bind fun y6=>
  some y6
  else
  ((if(decide (i.Kind=3))=true then
  some (decide (i.Kind=3))
  else
  some (decide (i.Kind=5))):Option ((Bool))).bind (t1 fun(v:Bool)=>
  if v=true then
  (ZF i.Op 1 6).bind fun y7=>
  if(!y7)=true then
  some 7
  else
  (Xj i.N).bind fun y8=>
  if(!y8)=true then
  some 9
  else
  some 0
  else
  if(decide (i.Kind=6))=true then
  (ZF i.Size 1 50).bind fun y9=>
  if(!y9)=true then
  some 9
  else
  some 0
  else
  some 0)
noncomputable def Zn(s:List api_Instrument)(f:api_Instrument→Option Bool)(i:Int):Option ((Int) ⊕ (Int) ⊕ (Unit)):=
  if(decide (i<(s.length:Int)))=true then
  (idx s i).bind fun x=>
  (f x).bind fun y=>
  if y=true then
  some (.inr (.inl i))
  else
  some (.inl (i64 (i+1)))
  else
  some (.inr (.inr ()))
noncomputable def Zy(s:List api_Instrument)(f:api_Instrument→Option Bool):Option Int:=
  ((loop (t1 (Zn s f)) 0):Option ((Int) ⊕ (Unit))).bind (Sum.elim (fun q'=>some q') (t0 (some (-1))))
noncomputable def Zh(s:List api_Instrument)(f:api_Instrument→Option Bool):Option Bool:=
  (Zy s f).bind fun y=>
  some (decide (0≤y))
noncomputable def J3(x:api_Instrument)(c0:api_Instrument):Option Bool:=
  some (decide (x.Name=c0.Name))
noncomputable def Xv(p:api_Panel)(i:Int):Option ((Int) ⊕ (Int) ⊕ (Unit)):=
  if(decide (i<(p.Instruments.length:Int)))=true then
  (idx p.Instruments i).bind fun x=>
  (Qo x).bind fun y=>
  if(!decide (y=0))=true then
  some (.inr (.inl y))
  else
  (slc p.Instruments 0 i).bind fun l=>
  (Zh l (fun z0=>J3 z0 x)).bind fun y2=>
  if y2=true then
  some (.inr (.inl 5))
  else
  some (.inl (i64 (i+1)))
  else
  some (.inr (.inr ()))
noncomputable def Zac(p:api_Panel):Option Int:=
  if(decide (100<(p.Instruments.length:Int)))=true then
  some 3
  else
  ((loop (t1 (Xv p)) 0):Option ((Int) ⊕ (Unit))).bind (Sum.elim (fun q'=>some q') (t0 (some 0)))
noncomputable def Jg(n:Int)(low:Int)(high:Int):Option Bool:=
  some ((decide (low≤n))&&(decide (n≤high)))
noncomputable def JJ(s:Str):Option Bool:=
  ((if(decide (s= [112,104,97,115,101]))=true then
  some (decide (s= [112,104,97,115,101]))
  else
  if(decide (s= [109,111,118,101]))=true then
  some (decide (s= [109,111,118,101]))
  else
  if(decide (s= [114,117,108,101]))=true then
  some (decide (s= [114,117,108,101]))
  else
  if(decide (s= [105,102]))=true then
  some (decide (s= [105,102]))
  else
  if(decide (s= [111,114]))=true then
  some (decide (s= [111,114]))
  else
  if(decide (s= [97,110,100]))=true then
  some (decide (s= [97,110,100]))
  else
  if(decide (s= [116,114,117,101]))=true then
  some (decide (s= [116,114,117,101]))
  else
  if(decide (s= [102,97,108,115,101]))=true then
  some (decide (s= [102,97,108,115,101]))
  else
  if(decide (s= [115,116,101,97,100,121]))=true then
  some (decide (s= [115,116,101,97,100,121]))
  else
  if(decide (s= [110,111,116]))=true then
  some (decide (s= [110,111,116]))
  else
  if(decide (s= [102,111,114]))=true then
  some (decide (s= [102,111,114]))
  else
  if(decide (s= [119,105,116,104,105,110]))=true then
  some (decide (s= [119,105,116,104,105,110]))
  else
  if(decide (s= [99,111,117,110,116]))=true then
  some (decide (s= [99,111,117,110,116]))
  else
  if(decide (s= [111,102]))=true then
  some (decide (s= [111,102]))
  else
  if(decide (s= [114,105,115,101,115]))=true then
  some (decide (s= [114,105,115,101,115]))
  else
  some (decide (s= [115,105,110,99,101]))):Option ((Bool))).bind (t1 fun(v:Bool)=>
  if v=true then
  some true
  else
  some false)
noncomputable def JA(c_:Int):Option Bool:=
  some ((((decide (97≤c_))&&(decide (c_≤122))) || ((decide (48≤c_))&&(decide (c_≤57)))) || (decide (c_=45)))
noncomputable def Xb(s:Str)(i:Int):Option ((Int) ⊕ (Bool) ⊕ (Unit)):=
  if(decide (i<(s.length:Int)))=true then
  (Jv s i).bind fun b3=>
  (JA b3).bind fun y3=>
  if(!y3)=true then
  some (.inr (.inl false))
  else
  some (.inl (i64 (i+1)))
  else
  some (.inr (.inr ()))
noncomputable def JR(s:Str):Option Bool:=
  (Jg (s.length:Int) 1 30).bind fun y=>
  (gd ((!y)==false) 0 (Jv s 0)).bind fun b=>
  (gd (((!y) || (decide (b<97)))==false) 0 (Jv s 0)).bind fun b2=>
  (gd ((((!y) || (decide (b<97))) || (decide (122<b2)))==false) false (JJ s)).bind fun y2=>
  if((((!y) || (decide (b<97))) || (decide (122<b2))) || y2)=true then
  some false
  else
  ((loop (t1 (Xb s)) 0):Option ((Bool) ⊕ (Unit))).bind (Sum.elim (fun q'=>some q') (t0 (some true)))
noncomputable def Zk(s:List api_Track)(f:api_Track→Option Bool)(i:Int):Option ((Int) ⊕ (Int) ⊕ (Unit)):=
  if(decide (i<(s.length:Int)))=true then
  (idx s i).bind fun x=>
  (f x).bind fun y=>
  if y=true then
  some (.inr (.inl i))
  else
  some (.inl (i64 (i+1)))
  else
  some (.inr (.inr ()))
noncomputable def Zz(s:List api_Track)(f:api_Track→Option Bool):Option Int:=
  ((loop (t1 (Zk s f)) 0):Option ((Int) ⊕ (Unit))).bind (Sum.elim (fun q'=>some q') (t0 (some (-1))))
noncomputable def Zw(s:List api_Track)(f:api_Track→Option Bool):Option Bool:=
  (Zz s f).bind fun y=>
  some (decide (0≤y))
noncomputable def Q7(x:api_Track)(c0:api_Track):Option Bool:=
  some (decide (x.Name=c0.Name))
noncomputable def Xl(n:Int)(low:Int)(high:Int):Option Bool:=
  some ((decide (low≤n))&&(decide (n≤high)))
noncomputable def XE(s:api_Series)(i:Int):Option ((Int) ⊕ (Int×Int) ⊕ (Unit)):=
  if(decide (i<(s.Samples.length:Int)))=true then
  (idx s.Samples i).bind fun x=>
  (Xl x.At 0 1099511627776).bind fun y2=>
  (gd ((!y2)==false) false (Xl x.N (-1125899906842624) 1125899906842624)).bind fun y3=>
  (gd (((!y2) || (!y3))==false) false (Xl x.Mark 0 4)).bind fun y4=>
  if(((!y2) || (!y3)) || (!y4))=true then
  some (.inr (.inl (i,9)))
  else
  if((!decide (x.N=0))&&(decide (x.Mark≤1)))=true then
  some (.inr (.inl (i,2)))
  else
  (gd ((decide (0<i))==true) (api_Sample.mk 0 0 0) (idx s.Samples (i64 (i-1)))).bind fun x2=>
  if((decide (0<i))&&(decide (x.At≤x2.At)))=true then
  some (.inr (.inl (i,10)))
  else
  some (.inl (i64 (i+1)))
  else
  some (.inr (.inr ()))
noncomputable def JL(s:api_Series):Option (Int×Int):=
  (Xl s.Den 1 1000000).bind fun y=>
  if(!y)=true then
  some ((-1),9)
  else
  if(decide (20000<(s.Samples.length:Int)))=true then
  some ((-1),3)
  else
  ((loop (t1 (XE s)) 0):Option ((Int×Int) ⊕ (Unit))).bind (Sum.elim (fun q'=>some q') (t0 (some ((-1),0))))
noncomputable def JO(s:api_Series):Option Int:=
  (JL s).bind fun y=>
  some y.2
noncomputable def Qb(l:List api_Track)(i:Int):Option ((Int) ⊕ (Int) ⊕ (Unit)):=
  if(decide (i<(l.length:Int)))=true then
  (idx l i).bind fun x=>
  (JR x.Name).bind fun y=>
  if(!y)=true then
  some (.inr (.inl 8))
  else
  (slc l 0 i).bind fun l2=>
  (Zw l2 (fun z0=>Q7 z0 x)).bind fun y2=>
  if y2=true then
  some (.inr (.inl 5))
  else
  (JO x.Series).bind fun y3=>
  if(!decide (y3=0))=true then
  some (.inr (.inl y3))
  else
  (Jg x.Long 0 1099511627776).bind fun y4=>
  if(!y4)=true then
  some (.inr (.inl 9))
  else
  some (.inl (i64 (i+1)))
  else
  some (.inr (.inr ()))
noncomputable def QZ(l:List api_Track):Option Int:=
  if(decide (50<(l.length:Int)))=true then
  some 3
  else
  ((loop (t1 (Qb l)) 0):Option ((Int) ⊕ (Unit))).bind (Sum.elim (fun q'=>some q') (t0 (some 0)))
noncomputable def XI(t:api_Track)(c0:api_Instrument):Option Bool:=
  some (decide (t.Name=c0.Track))
noncomputable def QA(l:List api_Track)(i:api_Instrument):Option Int:=
  (Zz l (fun z0=>XI z0 i)).bind fun y=>
  some y
noncomputable def Q4(i:api_Instrument)(c0:List api_Track):Option Bool:=
  (QA c0 i).bind fun y=>
  some (decide (y<0))
noncomputable def XC(p:api_Panel)(l:List api_Track):Option Int:=
  (Zac p).bind fun y=>
  if(!decide (y=0))=true then
  some y
  else
  (QZ l).bind fun y2=>
  if(!decide (y2=0))=true then
  some y2
  else
  (Zh p.Instruments (fun z0=>Q4 z0 l)).bind fun y3=>
  if y3=true then
  some 4
  else
  some 0
noncomputable def Qv(y:List api_Instrument)(Instruments2:List api_Instrument)(i:Int):Option (((List api_Instrument)×Int) ⊕ ((List api_Instrument))):=
  if(decide (i<(y.length:Int)))=true then
  (idx Instruments2 i).bind fun x=>
  (JX x.Zones).bind fun y2=>
  (idx Instruments2 i).bind fun x2=>
  some (.inl ((Instruments2.set i.toNat (api_Instrument.mk x2.Kind x2.Name x2.Track x2.Places x2.Low x2.High x2.Steps y2 x2.Op x2.N x2.Latch x2.Size)),(i64 (i+1))))
  else
  some (.inr Instruments2)
noncomputable def Q9(p:api_Panel):Option api_Panel:=
  (JX p.Instruments).bind fun y=>
  ((loop (t2 (Qv y)) (y,0)):Option (((List api_Instrument)))).bind (t1 fun(Instruments:List api_Instrument)=>
  some (api_Panel.mk Instruments))
noncomputable def Ql(y:List api_Track)(out2:List api_Track)(i:Int):Option (((List api_Track)×Int) ⊕ ((List api_Track))):=
  if(decide (i<(y.length:Int)))=true then
  (idx out2 i).bind fun x=>
  (JX x.Series.Samples).bind fun y2=>
  (idx out2 i).bind fun x2=>
  some (.inl ((out2.set i.toNat (api_Track.mk x2.Name (api_Series.mk x2.Series.Den y2) x2.Long)),(i64 (i+1))))
  else
  some (.inr out2)
noncomputable def QN(l:List api_Track):Option (List api_Track):=
  (JX l).bind fun y=>
  ((loop (t2 (Ql y)) (y,0)):Option (((List api_Track)))).bind (t1 fun(out:List api_Track)=>
  some out)
noncomputable def Xa(p:api_Panel):Option api_PanelState:=
  (mks (p.Instruments.length:Int) (api_Memo.mk false false 0 0 [])).bind fun l=>
  some (api_PanelState.mk (-1) l)
noncomputable def J4(p:api_Panel)(l:List api_Track)(keep:Int):Option ((Int) ⊕ (panel_Replay×Int)):=
  (XC p l).bind fun y=>
  if(!decide (y=0))=true then
  some (Sum.inl y)
  else
  (ZF keep 1 1000).bind fun y2=>
  if(!y2)=true then
  some (Sum.inl 9)
  else
  (Q9 p).bind fun y3=>
  (QN l).bind fun y4=>
  (Xa p).bind fun y5=>
  some (Sum.inr ((panel_Replay.mk y3 y4 keep y5 [] []),0))
noncomputable def Zp(x:List api_Sample)(target:Int)(cmp:api_Sample→Int→Option Int)(i2:Int)(j:Int):Option ((Int×Int) ⊕ (Int)):=
  if(decide (i2<j))=true then
  (shr .u64 (u64 (i64 (i2+j))) 1).bind fun q=>
  (idx x (i64 q)).bind fun x2=>
  (cmp x2 target).bind fun y=>
  if(decide (y<0))=true then
  some (.inl ((i64 ((i64 q)+1)),j))
  else
  some (.inl (i2,(i64 q)))
  else
  some (.inr i2)
noncomputable def Zu(x:List api_Sample)(target:Int)(cmp:api_Sample→Int→Option Int):Option (Int×Bool):=
  ((loop (t2 (Zp x target cmp)) (0,(x.length:Int))):Option ((Int))).bind (t1 fun(i:Int)=>
  (gd ((decide (i<(x.length:Int)))==true) (api_Sample.mk 0 0 0) (idx x i)).bind fun x3=>
  (gd ((decide (i<(x.length:Int)))==true) 0 (cmp x3 target)).bind fun y2=>
  some (i,((decide (i<(x.length:Int)))&&(decide (y2=0)))))
noncomputable def QG(x:api_Sample)(at_:Int):Option Int:=
  some (i64 (x.At-at_))
noncomputable def Jm(s:api_Series)(at_:Int):Option Int:=
  (Zu s.Samples at_ (fun z0 z1=>QG z0 z1)).bind fun y=>
  if y.2=true then
  some y.1
  else
  some (i64 (y.1-1))
noncomputable def Zaz(x:api_Sample):Option Bool:=
  some (decide (3≤x.Mark))
noncomputable def Zah(s:api_Series)(at_:Int)(long:Int):Option (api_Sample×Bool):=
  (Jm s at_).bind fun y=>
  (gd ((decide (y<0))==false) (api_Sample.mk 0 0 0) (idx s.Samples y)).bind fun x=>
  (gd ((decide (y<0))==false) false (Zaz x)).bind fun y2=>
  (gd (((decide (y<0)) || (!y2))==false) (api_Sample.mk 0 0 0) (idx s.Samples y)).bind fun x2=>
  if(((decide (y<0)) || (!y2)) || (decide (long<(i64 (at_-x2.At)))))=true then
  some ((api_Sample.mk 0 0 0),false)
  else
  (idx s.Samples y).bind fun x3=>
  some (x3,true)
noncomputable def ZaY(s:api_Series)(at_:Int)(long:Int):Option (api_Sample×Bool):=
  (Zah s at_ long).bind fun y=>
  some (y.1,y.2)
noncomputable def Jd(t:api_Track)(frame:Int):Option (api_Sample×Bool):=
  (ZaY t.Series (i64 ((i64 ((i64 (64*frame))+64))-1)) t.Long).bind fun y=>
  some (y.1,y.2)
noncomputable def Zaq(op:Int)(a:Int)(b:Int):Option Bool:=
  if(decide (op=1))=true then
  some (decide (a<b))
  else
  if(decide (op=2))=true then
  some (decide (a≤b))
  else
  if(decide (op=3))=true then
  some (decide (a=b))
  else
  if(decide (op=4))=true then
  some (!decide (a=b))
  else
  if(decide (op=5))=true then
  some (decide (b≤a))
  else
  some (decide (b<a))
noncomputable def QK(out2:List Int)(i:Int):Option (((List Int)×Int) ⊕ ((List Int))):=
  if(decide ((i64 (i+2))≤(out2.length:Int)))=true then
  (slp out2 i (i64 (i+2))).bind fun u=>
  (ck (decide (2≤Int.toNat ((i64 (i+2))-i)))).bind fun u2=>
  (ck (decide ((0:Int)≤1)&&decide (1<(2:Int)))).bind fun u3=>
  (idx out2 (i+1)).bind fun x=>
  (ck (decide ((0:Int)≤0)&&decide (0<(2:Int)))).bind fun u4=>
  (idx out2 (i+0)).bind fun x2=>
  some (.inl ((out2.set (i+0).toNat x),(i64 (i+1))))
  else
  some (.inr out2)
noncomputable def Jr(tape:List Int)(size:Int)(n:Int):Option (List Int):=
  (JX tape).bind fun y=>
  (app y ([n]:List Int)).bind fun l=>
  if(decide ((l.length:Int)≤size))=true then
  some l
  else
  ((loop (t2 (QK)) (l,0)):Option (((List Int)))).bind (t1 fun(out:List Int)=>
  (slc out 0 (i64 ((out.length:Int)-1))).bind fun l2=>
  some l2)
noncomputable def QH(i:api_Instrument)(m:api_Memo)(n:Int)(known:Bool):Option api_Memo:=
  (gd ((known&&((decide (i.Kind=3)) || (decide (i.Kind=5))))==true) false (Zaq i.Op n i.N)).bind fun y=>
  ((if(decide (i.Kind=3))=true then
  some (api_Memo.mk (((known&&((decide (i.Kind=3)) || (decide (i.Kind=5))))&&y) || (i.Latch&&m.Lit)) m.Some m.N m.Count m.Tape)
  else
  if(decide (i.Kind=5))=true then
  if(((known&&((decide (i.Kind=3)) || (decide (i.Kind=5))))&&y)&&(!m.Lit))=true then
  some (api_Memo.mk ((known&&((decide (i.Kind=3)) || (decide (i.Kind=5))))&&y) m.Some m.N (i64 (m.Count+1)) m.Tape)
  else
  some (api_Memo.mk ((known&&((decide (i.Kind=3)) || (decide (i.Kind=5))))&&y) m.Some m.N m.Count m.Tape)
  else
  if((decide (i.Kind=4))&&known)=true then
  ((if m.Some=true then
  some (max n m.N)
  else
  some n):Option ((Int))).bind (t1 fun(n2:Int)=>
  some (api_Memo.mk m.Lit true n2 m.Count m.Tape))
  else
  if((decide (i.Kind=6))&&known)=true then
  (Jr m.Tape i.Size n).bind fun y2=>
  some (api_Memo.mk m.Lit m.Some m.N m.Count y2)
  else
  some m):Option ((api_Memo))).bind (t1 fun(m2:api_Memo)=>
  some m2)
noncomputable def QS(p:api_Panel)(l:List api_Track)(s:api_PanelState)(Memos2:List api_Memo)(i:Int):Option (((List api_Memo)×Int) ⊕ ((List api_Memo))):=
  if(decide (i<(p.Instruments.length:Int)))=true then
  (idx p.Instruments i).bind fun x=>
  (QA l x).bind fun y=>
  (idx l y).bind fun x2=>
  (Jd x2 (i64 (s.Frame+1))).bind fun y2=>
  (idx s.Memos i).bind fun x3=>
  (JX x3.Tape).bind fun y3=>
  (QH x (api_Memo.mk x3.Lit x3.Some x3.N x3.Count y3) y2.1.N y2.2).bind fun y4=>
  (app Memos2 ([y4]:List api_Memo)).bind fun l2=>
  some (.inl (l2,(i64 (i+1))))
  else
  some (.inr Memos2)
noncomputable def Xk(p:api_Panel)(l:List api_Track)(s:api_PanelState):Option api_PanelState:=
  ((loop (t2 (QS p l s)) ([],0)):Option (((List api_Memo)))).bind (t1 fun(Memos:List api_Memo)=>
  some (api_PanelState.mk (i64 (s.Frame+1)) Memos))
noncomputable def JU(places:Int)(scale2:Int)(i:Int):Option ((Int×Int) ⊕ (Int)):=
  if(decide (i<places))=true then
  some (.inl ((i64 (scale2*10)),(i64 (i+1))))
  else
  some (.inr scale2)
noncomputable def Q6(n:Int)(den:Int)(places:Int):Option Str:=
  (quo .i64 (max n (i64 (-n))) den).bind fun q=>
  ((loop (t2 (JU places)) (1,0)):Option ((Int))).bind (t1 fun(scale:Int)=>
  (rem (max n (i64 (-n))) den).bind fun q2=>
  (quo .i64 (i64 ((i64 ((i64 (q2*scale))*2))+den)) (i64 (2*den))).bind fun q3=>
  ((if(decide (q3=scale))=true then
  some ((i64 (q+1)),0)
  else
  some (q,q3)):Option ((Int×Int))).bind (t2 fun(whole:Int) (part:Int)=>
  (itoa whole).bind fun y=>
  ((if(decide (0<places))=true then
  (itoa (i64 (scale+part))).bind fun y2=>
  (slc y2 1 (y2.length:Int)).bind fun s=>
  (cat [46] s).bind fun s2=>
  (cat y s2).bind fun s3=>
  some s3
  else
  some y):Option ((Str))).bind (t1 fun(out:Str)=>
  if((decide (n<0))&&((decide (0<whole)) || (decide (0<part))))=true then
  (cat [45] out).bind fun s4=>
  some s4
  else
  some out)))
noncomputable def JQ(i:api_Instrument)(n:Int):Option Int:=
  if(decide (n≤i.Low))=true then
  some 0
  else
  if(decide (i.High≤n))=true then
  some i.Steps
  else
  (quo .i64 (i64 ((i64 (n-i.Low))*i.Steps)) (i64 (i.High-i.Low))).bind fun q=>
  some q
noncomputable def Q8(i:api_Instrument)(n:Int)(i2:Int):Option ((Int) ⊕ (Str) ⊕ (Unit)):=
  if(decide (i2<(i.Zones.length:Int)))=true then
  (idx i.Zones i2).bind fun x=>
  (ZF n x.From x.To).bind fun y=>
  if y=true then
  some (.inr (.inl x.Name))
  else
  some (.inl (i64 (i2+1)))
  else
  some (.inr (.inr ()))
noncomputable def Jl(i:api_Instrument)(n:Int):Option Str:=
  ((loop (t1 (Q8 i n)) 0):Option ((Str) ⊕ (Unit))).bind (Sum.elim (fun q'=>some q') (t0 (some [])))
noncomputable def XS(i:api_Instrument)(m:api_Memo)(den:Int)(l2:List Str)(i2:Int):Option (((List Str)×Int) ⊕ ((List Str))):=
  if(decide (i2<(m.Tape.length:Int)))=true then
  (idx m.Tape i2).bind fun x2=>
  (Q6 x2 den i.Places).bind fun y6=>
  (app l2 ([y6]:List Str)).bind fun l3=>
  some (.inl (l3,(i64 (i2+1))))
  else
  some (.inr l2)
noncomputable def XD(i:api_Instrument)(m:api_Memo)(den:Int)(x:api_Sample)(known:Bool):Option api_Face:=
  ((if(decide (i.Kind=1))=true then
  if known=true then
  (Q6 x.N den i.Places).bind fun y=>
  some (api_Face.mk y 0 m.Lit x.Mark)
  else
  some (api_Face.mk [45,45,45] 0 m.Lit x.Mark)
  else
  if(decide (i.Kind=2))=true then
  if known=true then
  (JQ i x.N).bind fun y2=>
  (Jl i x.N).bind fun y3=>
  some (api_Face.mk y3 y2 m.Lit x.Mark)
  else
  some (api_Face.mk [45,45,45] 0 m.Lit x.Mark)
  else
  if(decide (i.Kind=3))=true then
  if m.Lit=true then
  some (api_Face.mk [111,110] 0 m.Lit x.Mark)
  else
  if known=true then
  some (api_Face.mk [111,102,102] 0 m.Lit x.Mark)
  else
  some (api_Face.mk [45,45,45] 0 m.Lit x.Mark)
  else
  if(decide (i.Kind=4))=true then
  if m.Some=true then
  (Q6 m.N den i.Places).bind fun y4=>
  some (api_Face.mk y4 0 m.Lit x.Mark)
  else
  some (api_Face.mk [45,45,45] 0 m.Lit x.Mark)
  else
  if(decide (i.Kind=5))=true then
  (itoa m.Count).bind fun y5=>
  some (api_Face.mk y5 0 m.Lit x.Mark)
  else
  if(decide (i.Kind=6))=true then
  ((loop (t2 (XS i m den)) ([],0)):Option (((List Str)))).bind (t1 fun(l:List Str)=>
  if(decide (0<(l.length:Int)))=true then
  (Zg8 l [32]).bind fun y7=>
  some (api_Face.mk y7 0 m.Lit x.Mark)
  else
  some (api_Face.mk [45,45,45] 0 m.Lit x.Mark))
  else
  some (api_Face.mk [45,45,45] 0 m.Lit x.Mark)):Option ((api_Face))).bind (t1 fun(out:api_Face)=>
  some out)
noncomputable def Xy(p:api_Panel)(l:List api_Track)(s:api_PanelState)(out2:List api_Face)(i:Int):Option (((List api_Face)×Int) ⊕ ((List api_Face))):=
  if(decide (i<(p.Instruments.length:Int)))=true then
  (idx p.Instruments i).bind fun x=>
  (QA l x).bind fun y=>
  (idx l y).bind fun x2=>
  ((if(decide (0≤s.Frame))=true then
  (Jd x2 s.Frame).bind fun y2=>
  some (y2.1,y2.2)
  else
  some ((api_Sample.mk 0 0 0),false)):Option ((api_Sample×Bool))).bind (t2 fun(x3:api_Sample) (known:Bool)=>
  (idx s.Memos i).bind fun x4=>
  (XD x x4 x2.Series.Den x3 known).bind fun y3=>
  (app out2 ([y3]:List api_Face)).bind fun l2=>
  some (.inl (l2,(i64 (i+1)))))
  else
  some (.inr out2)
noncomputable def Zaf(p:api_Panel)(l:List api_Track)(s:api_PanelState):Option (List api_Face):=
  ((loop (t2 (Xy p l s)) ([],0)):Option (((List api_Face)))).bind (t1 fun(out:List api_Face)=>
  some out)
noncomputable def Qy(r_:panel_Replay):Option (List api_Face):=
  (Zaf r_.p r_.l r_.state).bind fun y=>
  some y
noncomputable def Zl(x:List api_PanelState)(target:Int)(cmp:api_PanelState→Int→Option Int)(i2:Int)(j:Int):Option ((Int×Int) ⊕ (Int)):=
  if(decide (i2<j))=true then
  (shr .u64 (u64 (i64 (i2+j))) 1).bind fun q=>
  (idx x (i64 q)).bind fun x2=>
  (cmp x2 target).bind fun y=>
  if(decide (y<0))=true then
  some (.inl ((i64 ((i64 q)+1)),j))
  else
  some (.inl (i2,(i64 q)))
  else
  some (.inr i2)
noncomputable def Zs(x:List api_PanelState)(target:Int)(cmp:api_PanelState→Int→Option Int):Option (Int×Bool):=
  ((loop (t2 (Zl x target cmp)) (0,(x.length:Int))):Option ((Int))).bind (t1 fun(i:Int)=>
  (gd ((decide (i<(x.length:Int)))==true) (api_PanelState.mk 0 []) (idx x i)).bind fun x3=>
  (gd ((decide (i<(x.length:Int)))==true) 0 (cmp x3 target)).bind fun y2=>
  some (i,((decide (i<(x.length:Int)))&&(decide (y2=0)))))
noncomputable def Z4(s:api_PanelState)(frame:Int):Option Int:=
  some (i64 (s.Frame-frame))
noncomputable def ZP(r_:panel_Replay)(frame:Int):Option (Int×Bool):=
  (Zs r_.kept frame (fun z0 z1=>Z4 z0 z1)).bind fun y=>
  some (y.1,y.2)
noncomputable def Qd(y:List api_Memo)(Memos2:List api_Memo)(i:Int):Option (((List api_Memo)×Int) ⊕ ((List api_Memo))):=
  if(decide (i<(y.length:Int)))=true then
  (idx Memos2 i).bind fun x=>
  (JX x.Tape).bind fun y2=>
  (idx Memos2 i).bind fun x2=>
  some (.inl ((Memos2.set i.toNat (api_Memo.mk x2.Lit x2.Some x2.N x2.Count y2)),(i64 (i+1))))
  else
  some (.inr Memos2)
noncomputable def Z5(s:api_PanelState):Option api_PanelState:=
  (JX s.Memos).bind fun y=>
  ((loop (t2 (Qd y)) (y,0)):Option (((List api_Memo)))).bind (t1 fun(Memos:List api_Memo)=>
  some (api_PanelState.mk s.Frame Memos))
noncomputable def Q3(r_:panel_Replay)(n:Int)(state:api_PanelState)(kept:List api_PanelState)(i:Int):Option ((api_PanelState×(List api_PanelState)×Int) ⊕ (panel_Replay)):=
  if(decide (i<n))=true then
  (((Xk r_.p r_.l state).bind fun y=>
  (rem y.Frame r_.keep).bind fun q=>
  if(!decide (q=(i64 (r_.keep-1))))=true then
  some (y.Frame,y.Memos,kept)
  else
  (ZP (panel_Replay.mk r_.p r_.l r_.keep y kept r_.marks) y.Frame).bind fun y2=>
  if(!y2.2)=true then
  (Z5 y).bind fun y3=>
  (ins kept y2.1 ([y3]:List api_PanelState)).bind fun l=>
  some (y.Frame,y.Memos,l)
  else
  some (y.Frame,y.Memos,kept)):Option ((Int×(List api_Memo)×(List api_PanelState)))).bind (t3 fun(Frame:Int) (Memos:List api_Memo) (kept2:List api_PanelState)=>
  some (.inl ((api_PanelState.mk Frame Memos),kept2,(i64 (i+1)))))
  else
  some (.inr (panel_Replay.mk r_.p r_.l r_.keep state kept r_.marks))
noncomputable def QM(r_:panel_Replay)(n:Int):Option panel_Replay:=
  loop (t3 (Q3 r_ n)) (r_.state,r_.kept,0)
noncomputable def Xq(r_:panel_Replay)(n:Int):Option (Int×panel_Replay):=
  if((decide (n<0)) || (decide ((i64 (19999-r_.state.Frame))<n)))=true then
  some (9,r_)
  else
  (QM r_ n).bind fun y=>
  some (0,y)
noncomputable def JM:Option Bool:=
  (J4 (api_Panel.mk ([(api_Instrument.mk 1 [97] [116] 1 0 0 0 [] 0 0 false 0)]:List api_Instrument)) ([(api_Track.mk [116] (api_Series.mk 2 ([(api_Sample.mk 70 (-3) 4)]:List api_Sample)) 100)]:List api_Track) 1).bind (Sum.elim (fun y=>
  (gd ((!decide (y=0))==false) () (none:Option Unit)).bind fun u=>
  if((!decide (y=0)) || (!decide (0=0)))=true then
  some false
  else
  none) (fun y=>
  ((if((!decide (y.2=0))==false)=true then
  (Xq y.1 2).bind fun y2=>
  if(false || (!decide (y2.1=0)))=true then
  some (.inl false)
  else
  some (.inr (y2.2.p,y2.2.l,y2.2.keep,y2.2.state,y2.2.kept,y2.2.marks))
  else
  (gd (true==false) () (none:Option Unit)).bind fun u2=>
  if(true || false)=true then
  some (.inl false)
  else
  some (.inr (y.1.p,y.1.l,y.1.keep,y.1.state,y.1.kept,y.1.marks))):Option ((Bool) ⊕ (api_Panel×(List api_Track)×Int×api_PanelState×(List api_PanelState)×(List api_Bookmark)))).bind (Sum.elim (fun q'=>some q') (t6 fun(p:api_Panel) (l:List api_Track) (keep:Int) (state:api_PanelState) (kept:List api_PanelState) (marks:List api_Bookmark)=>
  (Qy (panel_Replay.mk p l keep state kept marks)).bind fun y3=>
  (gd ((decide ((y3.length:Int)=1))==true) (api_Face.mk [] 0 false 0) (idx y3 0)).bind fun x=>
  some ((decide ((y3.length:Int)=1))&&(decide (x.Text= [45,49,46,53])&&(decide (x.Needle=0)&&((x.Lit==false)&&(decide (x.Mark=4)&&true)))))))))
noncomputable def QD(s:api_PanelState)(c0:Int)(c1:api_PanelState):Option api_PanelState:=
  if((decide (s.Frame≤c0))&&(decide (c1.Frame<s.Frame)))=true then
  (Z5 s).bind fun y=>
  some y
  else
  some c1
noncomputable def Z7(r_:panel_Replay)(n:Int)(state:api_PanelState)(kept:List api_PanelState)(i:Int):Option ((api_PanelState×(List api_PanelState)×Int) ⊕ (panel_Replay)):=
  if(decide (i<n))=true then
  (((Xk r_.p r_.l state).bind fun y=>
  (rem y.Frame r_.keep).bind fun q=>
  if(!decide (q=(i64 (r_.keep-1))))=true then
  some (y.Frame,y.Memos,kept)
  else
  (ZP (panel_Replay.mk r_.p r_.l r_.keep y kept r_.marks) y.Frame).bind fun y2=>
  if(!y2.2)=true then
  (Z5 y).bind fun y3=>
  (ins kept y2.1 ([y3]:List api_PanelState)).bind fun l=>
  some (y.Frame,y.Memos,l)
  else
  some (y.Frame,y.Memos,kept)):Option ((Int×(List api_Memo)×(List api_PanelState)))).bind (t3 fun(Frame2:Int) (Memos2:List api_Memo) (kept2:List api_PanelState)=>
  some (.inl ((api_PanelState.mk Frame2 Memos2),kept2,(i64 (i+1)))))
  else
  some (.inr (panel_Replay.mk r_.p r_.l r_.keep state kept r_.marks))
noncomputable def QR(r_:panel_Replay)(n:Int):Option panel_Replay:=
  loop (t3 (Z7 r_ n)) (r_.state,r_.kept,0)
noncomputable def Qa(r_:panel_Replay)(frame:Int):Option (Int×Int×panel_Replay):=
  (ZF frame (-1) 19999).bind fun y=>
  if(!y)=true then
  some (0,9,r_)
  else
  (Xa r_.p).bind fun y2=>
  (ZP r_ frame).bind fun y3=>
  ((if y3.2=true then
  some (i64 (y3.1+1))
  else
  some y3.1):Option ((Int))).bind (t1 fun(i:Int)=>
  ((if(decide (0<i))=true then
  (idx r_.kept (i64 (i-1))).bind fun x=>
  (QD x frame y2).bind fun y4=>
  some (y4.Frame,y4.Memos)
  else
  some (y2.Frame,y2.Memos)):Option ((Int×(List api_Memo)))).bind (t2 fun(Frame:Int) (Memos:List api_Memo)=>
  (QD r_.state frame (api_PanelState.mk Frame Memos)).bind fun y5=>
  (QR (panel_Replay.mk r_.p r_.l r_.keep y5 r_.kept r_.marks) (i64 (frame-y5.Frame))).bind fun y6=>
  some ((i64 (frame-y5.Frame)),0,y6)))
noncomputable def Zax(n:Int)(low:Int)(high:Int):Option Bool:=
  some ((decide (n<low)) || (decide (high<n)))
noncomputable def Zcj(places:Int)(unit2:Int)(i:Int):Option ((Int×Int) ⊕ (Int)):=
  if(decide (i<places))=true then
  some (.inl ((i64 (unit2*10)),(i64 (i+1))))
  else
  some (.inr unit2)
noncomputable def XR(n:Int)(den:Int)(places:Int):Option Str:=
  ((if(decide (n<0))=true then
  some ((i64 (-n)),[45])
  else
  some (n,[])):Option ((Int×Str))).bind (t2 fun(size:Int) (sign:Str)=>
  ((loop (t2 (Zcj places)) (1,0)):Option ((Int))).bind (t1 fun(unit:Int)=>
  (quo .i64 size den).bind fun q=>
  (rem size den).bind fun q2=>
  (quo .i64 (i64 ((i64 ((i64 (2*unit))*q2))+den)) (i64 (2*den))).bind fun q3=>
  ((if(decide (q3=unit))=true then
  some ((i64 (q+1)),0)
  else
  some (q,q3)):Option ((Int×Int))).bind (t2 fun(whole:Int) (part:Int)=>
  ((if((decide (whole=0))&&(decide (part=0)))=true then
  some []
  else
  some sign):Option ((Str))).bind (t1 fun(sign2:Str)=>
  (itoa whole).bind fun y=>
  ((if(decide (0<places))=true then
  (itoa (i64 (unit+part))).bind fun y2=>
  (slc y2 1 (y2.length:Int)).bind fun s2=>
  (cat [46] s2).bind fun s3=>
  (cat y s3).bind fun s4=>
  some s4
  else
  some y):Option ((Str))).bind (t1 fun(s:Str)=>
  (cat sign2 s).bind fun s5=>
  some s5)))))
noncomputable def ZbP(n:Int)(den:Int)(places:Int):Option (Str×Int):=
  (Zax n (-1125899906842624) 1125899906842624).bind fun y=>
  (gd (y==false) false (Zax den 1 1000000)).bind fun y2=>
  (gd ((y || y2)==false) false (Zax places 0 6)).bind fun y3=>
  if((y || y2) || y3)=true then
  some ([],9)
  else
  (XR n den places).bind fun y4=>
  some (y4,0)
noncomputable def ZV(frame:Int)(y6:(List api_Face))(i:Int)(x:api_Instrument)(x3:api_Track)(found4:Bool)(i3:Int):Option ((Bool×Int) ⊕ (Bool)):=
  if(decide (i3<(x3.Series.Samples.length:Int)))=true then
  (idx x3.Series.Samples i3).bind fun x4=>
  if(((decide (x3.Name=x.Track))&&(decide (x4.At≤(i64 ((i64 (64*frame))+63)))))&&(decide (3≤x4.Mark)))=true then
  (ZbP x4.N x3.Series.Den x.Places).bind fun y7=>
  (gd (found4==false) (api_Face.mk [] 0 false 0) (idx y6 i)).bind fun x5=>
  some (.inl ((found4 || (decide (y7.1=x5.Text))),(i64 (i3+1))))
  else
  some (.inl (found4,(i64 (i3+1))))
  else
  some (.inr found4)
noncomputable def ZT(l:List api_Track)(frame:Int)(y6:(List api_Face))(i:Int)(x:api_Instrument)(found2:Bool)(i2:Int):Option ((Bool×Int) ⊕ (Bool)):=
  if(decide (i2<(l.length:Int)))=true then
  (((idx l i2).bind fun x3=>
  loop (t2 (ZV frame y6 i x x3)) (found2,0)):Option ((Bool))).bind (t1 fun(found3:Bool)=>
  some (.inl (found3,(i64 (i2+1)))))
  else
  some (.inr found2)
noncomputable def ZU(p:api_Panel)(l:List api_Track)(frame:Int)(y6:(List api_Face))(i:Int):Option ((Int) ⊕ (Bool) ⊕ (Unit)):=
  if(decide (i<(p.Instruments.length:Int)))=true then
  (idx p.Instruments i).bind fun x=>
  (gd ((!decide (x.Kind=1))==false) (api_Face.mk [] 0 false 0) (idx y6 i)).bind fun x2=>
  if((!decide (x.Kind=1)) || (decide (x2.Text= [45,45,45])))=true then
  some (.inl (i64 (i+1)))
  else
  ((loop (t2 (ZT l frame y6 i x)) (false,0)):Option ((Bool))).bind (t1 fun(found:Bool)=>
  if(!found)=true then
  some (.inr (.inl false))
  else
  some (.inl (i64 (i+1))))
  else
  some (.inr (.inr ()))
noncomputable def QU(p:api_Panel)(l:List api_Track)(frame:Int):Option Bool:=
  (J4 p l 7).bind (Sum.elim (fun y=>
  if(!decide (y=0))=true then
  (JM).bind fun y2=>
  some y2
  else
  none) (fun y=>
  if(!decide (y.2=0))=true then
  (JM).bind fun y3=>
  some y3
  else
  (Qa y.1 frame).bind fun y4=>
  if((!decide (y4.2.1=0)) || (decide (frame<0)))=true then
  (JM).bind fun y5=>
  some y5
  else
  (Qy y4.2.2).bind fun y6=>
  if(!decide ((y6.length:Int)=(p.Instruments.length:Int)))=true then
  some false
  else
  ((loop (t1 (ZU p l frame y6)) 0):Option ((Bool) ⊕ (Unit))).bind (Sum.elim (fun q'=>some q') (t0 ((JM).bind fun y8=>
  some y8)))))
noncomputable def Jk(n:Int)(low:Int)(high:Int):Option Bool:=
  some ((decide (n<low)) || (decide (high<n)))
noncomputable def Zew(mark:Int):Option Bool:=
  some (decide (2≤mark))
noncomputable def Zbs(s:api_Sample):Option Int:=
  (Jk s.At 0 1099511627776).bind fun y=>
  (gd (y==false) false (Jk s.N (-1125899906842624) 1125899906842624)).bind fun y2=>
  (gd ((y || y2)==false) false (Jk s.Mark 0 4)).bind fun y3=>
  if((y || y2) || y3)=true then
  some 9
  else
  (gd ((!decide (s.N=0))==true) false (Zew s.Mark)).bind fun y4=>
  if((!decide (s.N=0))&&(!y4))=true then
  some 2
  else
  some 0
noncomputable def ZbJ(s:api_Series)(i:Int):Option ((Int) ⊕ (Int×Int) ⊕ (Unit)):=
  if(decide (i<(s.Samples.length:Int)))=true then
  (idx s.Samples i).bind fun x=>
  (Zbs x).bind fun y2=>
  if(!decide (y2=0))=true then
  some (.inr (.inl (i,y2)))
  else
  (gd ((decide (0<i))==true) (api_Sample.mk 0 0 0) (idx s.Samples i)).bind fun x2=>
  (gd ((decide (0<i))==true) (api_Sample.mk 0 0 0) (idx s.Samples (i64 (i-1)))).bind fun x3=>
  if((decide (0<i))&&(decide (x2.At≤x3.At)))=true then
  some (.inr (.inl (i,10)))
  else
  some (.inl (i64 (i+1)))
  else
  some (.inr (.inr ()))
noncomputable def Ze4(s:api_Series):Option (Int×Int):=
  (Jk s.Den 1 1000000).bind fun y=>
  if y=true then
  some ((-1),9)
  else
  if(decide (20000<(s.Samples.length:Int)))=true then
  some ((-1),3)
  else
  ((loop (t1 (ZbJ s)) 0):Option ((Int×Int) ⊕ (Unit))).bind (Sum.elim (fun q'=>some q') (t0 (some ((-1),0))))
noncomputable def ZeI(s:api_Series):Option Int:=
  (Ze4 s).bind fun y=>
  some y.2
noncomputable def ZaI(l:List api_Track)(name:Str)(i:Int):Option ((Int) ⊕ (api_Track×Bool) ⊕ (Unit)):=
  if(decide (i<(l.length:Int)))=true then
  (idx l i).bind fun x=>
  if(decide (x.Name=name))=true then
  some (.inr (.inl (x,true)))
  else
  some (.inl (i64 (i+1)))
  else
  some (.inr (.inr ()))
noncomputable def Zct(l:List api_Track)(name:Str):Option (api_Track×Bool):=
  ((loop (t1 (ZaI l name)) 0):Option ((api_Track×Bool) ⊕ (Unit))).bind (Sum.elim (fun q'=>some q') (t0 (some ((api_Track.mk [] (api_Series.mk 0 []) 0),false))))
noncomputable def Zg3(mark:Int):Option Bool:=
  some (decide (3≤mark))
noncomputable def Zb5(s:api_Series)(at_:Int)(low2:Int)(high:Int):Option ((Int×Int) ⊕ (Int)):=
  if(decide (low2<high))=true then
  (quo .i64 (i64 (low2+high)) 2).bind fun q=>
  (idx s.Samples q).bind fun x=>
  if(decide (x.At≤at_))=true then
  some (.inl ((i64 (q+1)),high))
  else
  some (.inl (low2,q))
  else
  some (.inr low2)
noncomputable def Zf2(s:api_Series)(at_:Int)(long:Int):Option (api_Sample×Bool):=
  ((loop (t2 (Zb5 s at_)) (0,(s.Samples.length:Int))):Option ((Int))).bind (t1 fun(low:Int)=>
  if(decide (low=0))=true then
  some ((api_Sample.mk 0 0 0),false)
  else
  (idx s.Samples (i64 (low-1))).bind fun x2=>
  (Zg3 x2.Mark).bind fun y=>
  if((!y) || (decide (long<(i64 (at_-x2.At)))))=true then
  some ((api_Sample.mk 0 0 0),false)
  else
  some (x2,true))
noncomputable def Zf1(s:api_Series)(at_:Int)(long:Int):Option (api_Sample×Bool×Int):=
  (ZeI s).bind fun y=>
  if(!decide (y=0))=true then
  some ((api_Sample.mk 0 0 0),false,y)
  else
  (Jk at_ 0 1099511627776).bind fun y2=>
  (gd (y2==false) false (Jk long 0 1099511627776)).bind fun y3=>
  if(y2 || y3)=true then
  some ((api_Sample.mk 0 0 0),false,9)
  else
  (Zf2 s at_ long).bind fun y4=>
  some (y4.1,y4.2,0)
noncomputable def Zb3(t:api_Track)(frame:Int):Option (api_Sample×Bool):=
  (Zf1 t.Series (i64 ((i64 (64*frame))+63)) t.Long).bind fun y=>
  some (y.1,y.2.1)
noncomputable def Zgc(i:api_Instrument)(n:Int):Option Int:=
  if(decide (n≤i.Low))=true then
  some 0
  else
  if(decide (i.High≤n))=true then
  some i.Steps
  else
  (quo .i64 (i64 ((i64 (n-i.Low))*i.Steps)) (i64 (i.High-i.Low))).bind fun q=>
  some q
noncomputable def Zh5(i:api_Instrument)(n:Int)(i2:Int):Option ((Int) ⊕ (Str) ⊕ (Unit)):=
  if(decide (i2<(i.Zones.length:Int)))=true then
  (idx i.Zones i2).bind fun x=>
  if((decide (x.From≤n))&&(decide (n≤x.To)))=true then
  some (.inr (.inl x.Name))
  else
  some (.inl (i64 (i2+1)))
  else
  some (.inr (.inr ()))
noncomputable def ZfE(i:api_Instrument)(n:Int):Option Str:=
  ((loop (t1 (Zh5 i n)) 0):Option ((Str) ⊕ (Unit))).bind (Sum.elim (fun q'=>some q') (t0 (some [])))
noncomputable def ZaD(i:api_Instrument)(den:Int)(m:api_Memo)(Mark:Int)(Text:Str)(i2:Int):Option ((Str×Int) ⊕ (api_Face)):=
  if(decide (i2<(m.Tape.length:Int)))=true then
  (idx m.Tape i2).bind fun x=>
  if(decide (i2=0))=true then
  (XR x den i.Places).bind fun y6=>
  some (.inl (y6,(i64 (i2+1))))
  else
  (XR x den i.Places).bind fun y7=>
  (cat [32] y7).bind fun s2=>
  (cat Text s2).bind fun s3=>
  some (.inl (s3,(i64 (i2+1))))
  else
  some (.inr (api_Face.mk Text 0 false Mark))
noncomputable def Zej(i:api_Instrument)(den:Int)(m:api_Memo)(s:api_Sample)(known:Bool):Option api_Face:=
  ((if known=true then
  some s.Mark
  else
  some 0):Option ((Int))).bind (t1 fun(Mark:Int)=>
  ((if(decide (i.Kind=1))=true then
  if known=true then
  (XR s.N den i.Places).bind fun y=>
  some (api_Face.mk y 0 false Mark)
  else
  some (api_Face.mk [45,45,45] 0 false Mark)
  else
  if(decide (i.Kind=2))=true then
  if known=true then
  (Zgc i s.N).bind fun y2=>
  (ZfE i s.N).bind fun y3=>
  some (api_Face.mk y3 y2 false Mark)
  else
  some (api_Face.mk [45,45,45] 0 false Mark)
  else
  if(decide (i.Kind=3))=true then
  if m.Lit=true then
  some (api_Face.mk [111,110] 0 m.Lit Mark)
  else
  if known=true then
  some (api_Face.mk [111,102,102] 0 m.Lit Mark)
  else
  some (api_Face.mk [45,45,45] 0 m.Lit Mark)
  else
  if(decide (i.Kind=4))=true then
  if m.Some=true then
  (XR m.N den i.Places).bind fun y4=>
  some (api_Face.mk y4 0 false Mark)
  else
  some (api_Face.mk [45,45,45] 0 false Mark)
  else
  if(decide (i.Kind=5))=true then
  (itoa m.Count).bind fun y5=>
  some (api_Face.mk y5 0 m.Lit Mark)
  else
  if(decide (i.Kind=6))=true then
  loop (t2 (ZaD i den m Mark)) ([45,45,45],0)
  else
  some (api_Face.mk [45,45,45] 0 false Mark)):Option ((api_Face))).bind (t1 fun(f:api_Face)=>
  some f))
noncomputable def ZaM(p:api_Panel)(l:List api_Track)(s:api_PanelState)(out2:List api_Face)(i:Int):Option (((List api_Face)×Int) ⊕ ((List api_Face))):=
  if(decide (i<(p.Instruments.length:Int)))=true then
  (idx p.Instruments i).bind fun x=>
  (Zct l x.Track).bind fun y=>
  ((if(decide (0≤s.Frame))=true then
  (Zb3 y.1 s.Frame).bind fun y2=>
  some (y2.1,y2.2)
  else
  some ((api_Sample.mk 0 0 0),false)):Option ((api_Sample×Bool))).bind (t2 fun(x2:api_Sample) (known:Bool)=>
  (idx s.Memos i).bind fun x3=>
  (Zej x y.1.Series.Den x3 x2 known).bind fun y3=>
  (app out2 ([y3]:List api_Face)).bind fun l2=>
  some (.inl (l2,(i64 (i+1)))))
  else
  some (.inr out2)
noncomputable def ZgO(p:api_Panel)(l:List api_Track)(s:api_PanelState):Option (List api_Face):=
  ((loop (t2 (ZaM p l s)) ([],0)):Option (((List api_Face)))).bind (t1 fun(out:List api_Face)=>
  some out)
end Go.Vx
