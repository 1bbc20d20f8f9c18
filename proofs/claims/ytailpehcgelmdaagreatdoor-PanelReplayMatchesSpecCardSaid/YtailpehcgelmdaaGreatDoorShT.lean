/- A text of the proof: a verified executor of the program form, or the contracts of the functions that the law reaches. -/
import Derived.Test.YtailpehcgelmdaaGreatDoorShLib
set_option linter.all false
namespace Go.Vx
open Go Go.RowKit
set_option linter.unusedVariables false
structure api_Zone where
  From:Int
  To:Int
  Name:Str
structure api_Instrument where
  Kind:Int
  Name:Str
  Track:Str
  Places:Int
  Low:Int
  High:Int
  Steps:Int
  Zones:List api_Zone
  Op:Int
  N:Int
  Latch:Bool
  Size:Int
structure api_Panel where
  Instruments:List api_Instrument
structure api_Sample where
  At:Int
  N:Int
  Mark:Int
structure api_Series where
  Den:Int
  Samples:List api_Sample
structure api_Track where
  Name:Str
  Series:api_Series
  Long:Int
structure law8_Deed where
  Op:Int
  N:Int
  Text:Str
structure api_Memo where
  Lit:Bool
  Some:Bool
  N:Int
  Count:Int
  Tape:List Int
structure api_PanelState where
  Frame:Int
  Memos:List api_Memo
structure api_Bookmark where
  Frame:Int
  Text:Str
structure panel_Replay where
  p:api_Panel
  l:List api_Track
  keep:Int
  state:api_PanelState
  kept:List api_PanelState
  marks:List api_Bookmark
structure ref8_Replay where
  p:api_Panel
  l:List api_Track
  keep:Int
  state:api_PanelState
  kept:List api_PanelState
  marks:List api_Bookmark
structure api_Face where
  Text:Str
  Needle:Int
  Lit:Bool
  Mark:Int
structure strings_Builder where
  addr:Unit
  buf:List Int
noncomputable def ZM(n:Int)(low:Int)(high:Int):Option Bool:=
  some ((decide (low≤n))&&(decide (n≤high)))
noncomputable def Ja(c_:Int)(s3:Str):Option ((Str) ⊕ (Str)):=
  (gd ((decide (0<(s3.length:Int)))==true) 0 (Zaz s3 (i64 ((s3.length:Int)-1)))).bind fun b=>
  if((decide (0<(s3.length:Int)))&&(decide (b=c_)))=true then
  (slc s3 0 (i64 ((s3.length:Int)-1))).bind fun s4=>
  some (.inl s4)
  else
  some (.inr s3)
noncomputable def X3(s:Str)(c_:Int):Option Str:=
  ((loop (t1 (Ja c_)) s):Option ((Str))).bind (t1 fun(s2:Str)=>
  some s2)
noncomputable def Jx(c_:Int)(s3:Str):Option ((Str) ⊕ (Str)):=
  (gd ((decide (0<(s3.length:Int)))==true) 0 (Zaz s3 0)).bind fun b=>
  if((decide (0<(s3.length:Int)))&&(decide (b=c_)))=true then
  (slc s3 1 (s3.length:Int)).bind fun s4=>
  some (.inl s4)
  else
  some (.inr s3)
noncomputable def Jm(s:Str)(c_:Int):Option Str:=
  ((loop (t1 (Jx c_)) s):Option ((Str))).bind (t1 fun(s2:Str)=>
  some s2)
noncomputable def Ju(chars:Str)(as_2:Vector Bool 256)(i:Int):Option (((Vector Bool 256)×Int) ⊕ ((Vector Bool 256)×Bool) ⊕ ((Vector Bool 256))):=
  if(decide (i<(chars.length:Int)))=true then
  (Zaz chars i).bind fun b=>
  if(decide (128≤b))=true then
  some (.inr (.inl (as_2,false)))
  else
  (ZiP as_2 b).bind fun x=>
  some (.inl ((Zox as_2 b true),(i64 (i+1))))
  else
  some (.inr (.inr as_2))
noncomputable def Xp(chars:Str):Option ((Vector Bool 256)×Bool):=
  ((loop (t2 (Ju chars)) ((Vector.replicate 256 false),0)):Option (((Vector Bool 256)×Bool) ⊕ ((Vector Bool 256)))).bind (Sum.elim (fun q'=>some q') (t1 fun(as_:Vector Bool 256)=>
  some (as_,true)))
noncomputable def Z8(as_:Vector Bool 256)(c_:Int):Option Bool:=
  (ZiP as_ c_).bind fun x=>
  some x
noncomputable def Z9(as_:Vector Bool 256)(s3:Str):Option ((Str) ⊕ (Str)):=
  if(decide (0<(s3.length:Int)))=true then
  (Zaz s3 (i64 ((s3.length:Int)-1))).bind fun b=>
  (Z8 as_ b).bind fun y=>
  if(!y)=true then
  some (.inr s3)
  else
  (slc s3 0 (i64 ((s3.length:Int)-1))).bind fun s4=>
  some (.inl s4)
  else
  some (.inr s3)
noncomputable def QE(s:Str)(as_:Vector Bool 256):Option Str:=
  ((loop (t1 (Z9 as_)) s):Option ((Str))).bind (t1 fun(s2:Str)=>
  some s2)
noncomputable def Qe(as_:Vector Bool 256)(s3:Str):Option ((Str) ⊕ (Str)):=
  if(decide (0<(s3.length:Int)))=true then
  (Zaz s3 0).bind fun b=>
  (Z8 as_ b).bind fun y=>
  if(!y)=true then
  some (.inr s3)
  else
  (slc s3 1 (s3.length:Int)).bind fun s4=>
  some (.inl s4)
  else
  some (.inr s3)
noncomputable def QP(s:Str)(as_:Vector Bool 256):Option Str:=
  ((loop (t1 (Qe as_)) s):Option ((Str))).bind (t1 fun(s2:Str)=>
  some s2)
noncomputable def Zce(b:Int):Option Bool:=
  some (!decide ((ZoJ .u8 b 192)=128))
noncomputable def QT(s:Str):Option (Int×Int):=
  if(decide ((s.length:Int)<1))=true then
  some (65533,0)
  else
  (Zaz s 0).bind fun b=>
  none
noncomputable def Q0(s:Str):Option (Int×Int):=
  (gd ((!decide (s= []))==true) 0 (Zaz s 0)).bind fun b=>
  if((!decide (s= []))&&(decide (b<128)))=true then
  (Zaz s 0).bind fun b2=>
  some ((i32 b2),1)
  else
  (QT s).bind fun y=>
  some (y.1,y.2)
noncomputable def Q7(s:Str)(start2:Int):Option ((Int) ⊕ (Int)):=
  if(decide ((max (i64 ((s.length:Int)-4)) 0)≤start2))=true then
  (Zaz s start2).bind fun b2=>
  (Zce b2).bind fun y=>
  if y=true then
  some (.inr start2)
  else
  some (.inl (i64 (start2-1)))
  else
  some (.inr start2)
noncomputable def QQ(s:Str):Option (Int×Int):=
  if(decide ((s.length:Int)=0))=true then
  some (65533,0)
  else
  (Zaz s (i64 ((s.length:Int)-1))).bind fun b=>
  if(decide ((i32 b)<128))=true then
  some ((i32 b),1)
  else
  ((loop (t1 (Q7 s)) (i64 ((i64 ((s.length:Int)-1))-1))):Option ((Int))).bind (t1 fun(start:Int)=>
  ((if(decide (start<0))=true then
  some 0
  else
  some start):Option ((Int))).bind (t1 fun(start3:Int)=>
  (slc s start3 (s.length:Int)).bind fun s2=>
  (Q0 s2).bind fun y2=>
  if(!decide ((i64 (start3+y2.2))=(s.length:Int)))=true then
  some (65533,1)
  else
  some (y2.1,y2.2)))
noncomputable def Xq(s:Str)(r_:Int):Option Bool:=
  none
noncomputable def Xz(cutset:Str)(s3:Str):Option ((Str) ⊕ (Str)):=
  if(decide (0<(s3.length:Int)))=true then
  (Zaz s3 (i64 ((s3.length:Int)-1))).bind fun b=>
  ((if(decide (128≤(i32 b)))=true then
  (QQ s3).bind fun y=>
  some (y.1,y.2)
  else
  some ((i32 b),1)):Option ((Int×Int))).bind (t2 fun(r_:Int) (n:Int)=>
  (Xq cutset r_).bind fun y2=>
  if(!y2)=true then
  some (.inr s3)
  else
  (slc s3 0 (i64 ((s3.length:Int)-n))).bind fun s4=>
  some (.inl s4))
  else
  some (.inr s3)
noncomputable def Xe(s:Str)(cutset:Str):Option Str:=
  ((loop (t1 (Xz cutset)) s):Option ((Str))).bind (t1 fun(s2:Str)=>
  some s2)
noncomputable def XI(cutset:Str)(s3:Str):Option ((Str) ⊕ (Str)):=
  if(decide (0<(s3.length:Int)))=true then
  (Q0 s3).bind fun y=>
  (Xq cutset y.1).bind fun y2=>
  if(!y2)=true then
  some (.inr s3)
  else
  (slc s3 y.2 (s3.length:Int)).bind fun s4=>
  some (.inl s4)
  else
  some (.inr s3)
noncomputable def Xw(s:Str)(cutset:Str):Option Str:=
  ((loop (t1 (XI cutset)) s):Option ((Str))).bind (t1 fun(s2:Str)=>
  some s2)
noncomputable def Zau(s:Str)(cutset:Str):Option Str:=
  if((decide (s= [])) || (decide (cutset= [])))=true then
  some s
  else
  (gd ((decide ((cutset.length:Int)=1))==true) 0 (Zaz cutset 0)).bind fun b=>
  if((decide ((cutset.length:Int)=1))&&(decide (b<128)))=true then
  (Zaz cutset 0).bind fun b2=>
  (X3 s b2).bind fun y=>
  (Zaz cutset 0).bind fun b3=>
  (Jm y b3).bind fun y2=>
  some y2
  else
  (Xp cutset).bind fun y3=>
  if y3.2=true then
  (QE s y3.1).bind fun y4=>
  (QP y4 y3.1).bind fun y5=>
  some y5
  else
  (Xe s cutset).bind fun y6=>
  (Xw y6 cutset).bind fun y7=>
  some y7
noncomputable def Zah(s:Str):Option Bool:=
  (ZM (s.length:Int) 1 30).bind fun y=>
  (gd (y==true) [] (Zau s [97,98,99,100,101,102,103,104,105,106,107,108,109,110,111,112,113,114,115,116,117,118,119,120,121,122,48,49,50,51,52,53,54,55,56,57,45])).bind fun y2=>
  some (y&&(decide (y2= [])))
noncomputable def Qh(s:List Int)(v:Int)(i:Int):Option ((Int) ⊕ (Int) ⊕ (Unit)):=
  if(decide (i<(s.length:Int)))=true then
  (idx s i).bind fun x=>
  if(decide (v=x))=true then
  some (.inr (.inl i))
  else
  some (.inl (i64 (i+1)))
  else
  some (.inr (.inr ()))
noncomputable def Xs(s:List Int)(v:Int):Option Int:=
  ((loop (t1 (Qh s v)) 0):Option ((Int) ⊕ (Unit))).bind (Sum.elim (fun q'=>some q') (t0 (some (-1))))
noncomputable def Qw(s:List Int)(v:Int):Option Bool:=
  (Xs s v).bind fun y=>
  some (decide (0≤y))
noncomputable def ZY(l:List Int)(c0:api_Instrument):Option Bool:=
  (Qw l c0.Kind).bind fun y=>
  some y
noncomputable def Za8(i:api_Instrument):Option Bool:=
  (gd ((!decide (i.Places=0))==true) false (ZY ([1,4,6]:List Int) i)).bind fun y=>
  (gd ((((!decide (i.Places=0))&&(!y))==false)&&(((((!decide (i.Low=0)) || (!decide (i.High=0))) || (!decide (i.Steps=0))) || (decide (0<(i.Zones.length:Int))))==true)) false (ZY ([2]:List Int) i)).bind fun y2=>
  (gd (((((!decide (i.Places=0))&&(!y)) || (((((!decide (i.Low=0)) || (!decide (i.High=0))) || (!decide (i.Steps=0))) || (decide (0<(i.Zones.length:Int))))&&(!y2)))==false)&&(((!decide (i.Op=0)) || (!decide (i.N=0)))==true)) false (ZY ([3,5]:List Int) i)).bind fun y3=>
  (gd ((((((!decide (i.Places=0))&&(!y)) || (((((!decide (i.Low=0)) || (!decide (i.High=0))) || (!decide (i.Steps=0))) || (decide (0<(i.Zones.length:Int))))&&(!y2))) || (((!decide (i.Op=0)) || (!decide (i.N=0)))&&(!y3)))==false)&&(i.Latch==true)) false (ZY ([3]:List Int) i)).bind fun y4=>
  (gd (((((((!decide (i.Places=0))&&(!y)) || (((((!decide (i.Low=0)) || (!decide (i.High=0))) || (!decide (i.Steps=0))) || (decide (0<(i.Zones.length:Int))))&&(!y2))) || (((!decide (i.Op=0)) || (!decide (i.N=0)))&&(!y3))) || (i.Latch&&(!y4)))==false)&&((!decide (i.Size=0))==true)) false (ZY ([6]:List Int) i)).bind fun y5=>
  some ((((((!decide (i.Places=0))&&(!y)) || (((((!decide (i.Low=0)) || (!decide (i.High=0))) || (!decide (i.Steps=0))) || (decide (0<(i.Zones.length:Int))))&&(!y2))) || (((!decide (i.Op=0)) || (!decide (i.N=0)))&&(!y3))) || (i.Latch&&(!y4))) || ((!decide (i.Size=0))&&(!y5)))
noncomputable def Je(n:Int):Option Bool:=
  (ZM n (-1125899906842624) 1125899906842624).bind fun y=>
  some y
noncomputable def Q1(i:api_Instrument)(i2:Int):Option ((Int) ⊕ (Int) ⊕ (Unit)):=
  if(decide (i2<(i.Zones.length:Int)))=true then
  (idx i.Zones i2).bind fun x=>
  (Zah x.Name).bind fun y4=>
  if(!y4)=true then
  some (.inr (.inl 8))
  else
  if(decide (x.To<x.From))=true then
  some (.inr (.inl 9))
  else
  (gd ((decide (0<i2))==true) (api_Zone.mk 0 0 []) (idx i.Zones (i64 (i2-1)))).bind fun x2=>
  if((decide (0<i2))&&(decide (x.From≤x2.To)))=true then
  some (.inr (.inl 10))
  else
  some (.inl (i64 (i2+1)))
  else
  some (.inr (.inr ()))
noncomputable def JB(i:api_Instrument):Option Int:=
  (gd ((decide (i.High≤i.Low))==false) false (Je i.Low)).bind fun y=>
  (gd (((decide (i.High≤i.Low)) || (!y))==false) false (Je i.High)).bind fun y2=>
  (gd ((((decide (i.High≤i.Low)) || (!y)) || (!y2))==false) false (ZM i.Steps 1 1000)).bind fun y3=>
  if((((decide (i.High≤i.Low)) || (!y)) || (!y2)) || (!y3))=true then
  some 9
  else
  if(decide (10<(i.Zones.length:Int)))=true then
  some 3
  else
  ((loop (t1 (Q1 i)) 0):Option ((Int) ⊕ (Unit))).bind (Sum.elim (fun q'=>some q') (t0 (some 0)))
noncomputable def QO(i:api_Instrument):Option Int:=
  (ZM i.Kind 1 6).bind fun y=>
  if(!y)=true then
  some 7
  else
  (Zah i.Name).bind fun y2=>
  (gd ((!y2)==false) false (ZM (i.Track.length:Int) 1 30)).bind fun y3=>
  if((!y2) || (!y3))=true then
  some 8
  else
  (Za8 i).bind fun y4=>
  if y4=true then
  some 2
  else
  (ZM i.Places 0 6).bind fun y5=>
  if(!y5)=true then
  some 9
  else
  if(decide (i.Kind=2))=true then
  (JB i).bind fun y6=>
  some y6
  else
  ((if(decide (i.Kind=3))=true then
  some (decide (i.Kind=3))
  else
  some (decide (i.Kind=5))):Option ((Bool))).bind (t1 fun(v:Bool)=>
  if v=true then
  (ZM i.Op 1 6).bind fun y7=>
  if(!y7)=true then
  some 7
  else
  (Je i.N).bind fun y8=>
  if(!y8)=true then
  some 9
  else
  some 0
  else
  if(decide (i.Kind=6))=true then
  (ZM i.Size 1 50).bind fun y9=>
  if(!y9)=true then
  some 9
  else
  some 0
  else
  some 0)
noncomputable def Zx(s:List api_Instrument)(f:api_Instrument→Option Bool)(i:Int):Option ((Int) ⊕ (Int) ⊕ (Unit)):=
  if(decide (i<(s.length:Int)))=true then
  (idx s i).bind fun x=>
  (f x).bind fun y=>
  if y=true then
  some (.inr (.inl i))
  else
  some (.inl (i64 (i+1)))
  else
  some (.inr (.inr ()))
noncomputable def ZH(s:List api_Instrument)(f:api_Instrument→Option Bool):Option Int:=
  ((loop (t1 (Zx s f)) 0):Option ((Int) ⊕ (Unit))).bind (Sum.elim (fun q'=>some q') (t0 (some (-1))))
noncomputable def Zs(s:List api_Instrument)(f:api_Instrument→Option Bool):Option Bool:=
  (ZH s f).bind fun y=>
  some (decide (0≤y))
noncomputable def ZbH(x:api_Instrument)(c0:api_Instrument):Option Bool:=
  some (decide (x.Name=c0.Name))
noncomputable def Jq(p:api_Panel)(i:Int):Option ((Int) ⊕ (Int) ⊕ (Unit)):=
  if(decide (i<(p.Instruments.length:Int)))=true then
  (idx p.Instruments i).bind fun x=>
  (QO x).bind fun y=>
  if(!decide (y=0))=true then
  some (.inr (.inl y))
  else
  (slc p.Instruments 0 i).bind fun l=>
  (Zs l (fun z0=>ZbH z0 x)).bind fun y2=>
  if y2=true then
  some (.inr (.inl 5))
  else
  some (.inl (i64 (i+1)))
  else
  some (.inr (.inr ()))
noncomputable def Zb3(p:api_Panel):Option Int:=
  if(decide (100<(p.Instruments.length:Int)))=true then
  some 3
  else
  ((loop (t1 (Jq p)) 0):Option ((Int) ⊕ (Unit))).bind (Sum.elim (fun q'=>some q') (t0 (some 0)))
noncomputable def Zao(n:Int)(low:Int)(high:Int):Option Bool:=
  some ((decide (low≤n))&&(decide (n≤high)))
noncomputable def Zbr(s:Str):Option Bool:=
  ((if(decide (s= [112,104,97,115,101]))=true then
  some (decide (s= [112,104,97,115,101]))
  else
  if(decide (s= [109,111,118,101]))=true then
  some (decide (s= [109,111,118,101]))
  else
  if(decide (s= [114,117,108,101]))=true then
  some (decide (s= [114,117,108,101]))
  else
  if(decide (s= [105,102]))=true then
  some (decide (s= [105,102]))
  else
  if(decide (s= [111,114]))=true then
  some (decide (s= [111,114]))
  else
  if(decide (s= [97,110,100]))=true then
  some (decide (s= [97,110,100]))
  else
  if(decide (s= [116,114,117,101]))=true then
  some (decide (s= [116,114,117,101]))
  else
  if(decide (s= [102,97,108,115,101]))=true then
  some (decide (s= [102,97,108,115,101]))
  else
  if(decide (s= [115,116,101,97,100,121]))=true then
  some (decide (s= [115,116,101,97,100,121]))
  else
  if(decide (s= [110,111,116]))=true then
  some (decide (s= [110,111,116]))
  else
  if(decide (s= [102,111,114]))=true then
  some (decide (s= [102,111,114]))
  else
  if(decide (s= [119,105,116,104,105,110]))=true then
  some (decide (s= [119,105,116,104,105,110]))
  else
  if(decide (s= [99,111,117,110,116]))=true then
  some (decide (s= [99,111,117,110,116]))
  else
  if(decide (s= [111,102]))=true then
  some (decide (s= [111,102]))
  else
  if(decide (s= [114,105,115,101,115]))=true then
  some (decide (s= [114,105,115,101,115]))
  else
  some (decide (s= [115,105,110,99,101]))):Option ((Bool))).bind (t1 fun(v:Bool)=>
  if v=true then
  some true
  else
  some false)
noncomputable def Za0(c_:Int):Option Bool:=
  some ((((decide (97≤c_))&&(decide (c_≤122))) || ((decide (48≤c_))&&(decide (c_≤57)))) || (decide (c_=45)))
noncomputable def XU(s:Str)(i:Int):Option ((Int) ⊕ (Bool) ⊕ (Unit)):=
  if(decide (i<(s.length:Int)))=true then
  (Zaz s i).bind fun b3=>
  (Za0 b3).bind fun y3=>
  if(!y3)=true then
  some (.inr (.inl false))
  else
  some (.inl (i64 (i+1)))
  else
  some (.inr (.inr ()))
noncomputable def Zbh(s:Str):Option Bool:=
  (Zao (s.length:Int) 1 30).bind fun y=>
  (gd ((!y)==false) 0 (Zaz s 0)).bind fun b=>
  (gd (((!y) || (decide (b<97)))==false) 0 (Zaz s 0)).bind fun b2=>
  (gd ((((!y) || (decide (b<97))) || (decide (122<b2)))==false) false (Zbr s)).bind fun y2=>
  if((((!y) || (decide (b<97))) || (decide (122<b2))) || y2)=true then
  some false
  else
  ((loop (t1 (XU s)) 0):Option ((Bool) ⊕ (Unit))).bind (Sum.elim (fun q'=>some q') (t0 (some true)))
noncomputable def Zt(s:List api_Track)(f:api_Track→Option Bool)(i:Int):Option ((Int) ⊕ (Int) ⊕ (Unit)):=
  if(decide (i<(s.length:Int)))=true then
  (idx s i).bind fun x=>
  (f x).bind fun y=>
  if y=true then
  some (.inr (.inl i))
  else
  some (.inl (i64 (i+1)))
  else
  some (.inr (.inr ()))
noncomputable def ZJ(s:List api_Track)(f:api_Track→Option Bool):Option Int:=
  ((loop (t1 (Zt s f)) 0):Option ((Int) ⊕ (Unit))).bind (Sum.elim (fun q'=>some q') (t0 (some (-1))))
noncomputable def ZF(s:List api_Track)(f:api_Track→Option Bool):Option Bool:=
  (ZJ s f).bind fun y=>
  some (decide (0≤y))
noncomputable def XQ(x:api_Track)(c0:api_Track):Option Bool:=
  some (decide (x.Name=c0.Name))
noncomputable def Jf(n:Int)(low:Int)(high:Int):Option Bool:=
  some ((decide (low≤n))&&(decide (n≤high)))
noncomputable def JA(s:api_Series)(i:Int):Option ((Int) ⊕ (Int×Int) ⊕ (Unit)):=
  if(decide (i<(s.Samples.length:Int)))=true then
  (idx s.Samples i).bind fun x=>
  (Jf x.At 0 1099511627776).bind fun y2=>
  (gd ((!y2)==false) false (Jf x.N (-1125899906842624) 1125899906842624)).bind fun y3=>
  (gd (((!y2) || (!y3))==false) false (Jf x.Mark 0 4)).bind fun y4=>
  if(((!y2) || (!y3)) || (!y4))=true then
  some (.inr (.inl (i,9)))
  else
  if((!decide (x.N=0))&&(decide (x.Mark≤1)))=true then
  some (.inr (.inl (i,2)))
  else
  (gd ((decide (0<i))==true) (api_Sample.mk 0 0 0) (idx s.Samples (i64 (i-1)))).bind fun x2=>
  if((decide (0<i))&&(decide (x.At≤x2.At)))=true then
  some (.inr (.inl (i,10)))
  else
  some (.inl (i64 (i+1)))
  else
  some (.inr (.inr ()))
noncomputable def Zba(s:api_Series):Option (Int×Int):=
  (Jf s.Den 1 1000000).bind fun y=>
  if(!y)=true then
  some ((-1),9)
  else
  if(decide (20000<(s.Samples.length:Int)))=true then
  some ((-1),3)
  else
  ((loop (t1 (JA s)) 0):Option ((Int×Int) ⊕ (Unit))).bind (Sum.elim (fun q'=>some q') (t0 (some ((-1),0))))
noncomputable def Zbf(s:api_Series):Option Int:=
  (Zba s).bind fun y=>
  some y.2
noncomputable def QD(l:List api_Track)(i:Int):Option ((Int) ⊕ (Int) ⊕ (Unit)):=
  if(decide (i<(l.length:Int)))=true then
  (idx l i).bind fun x=>
  (Zbh x.Name).bind fun y=>
  if(!y)=true then
  some (.inr (.inl 8))
  else
  (slc l 0 i).bind fun l2=>
  (ZF l2 (fun z0=>XQ z0 x)).bind fun y2=>
  if y2=true then
  some (.inr (.inl 5))
  else
  (Zbf x.Series).bind fun y3=>
  if(!decide (y3=0))=true then
  some (.inr (.inl y3))
  else
  (Zao x.Long 0 1099511627776).bind fun y4=>
  if(!y4)=true then
  some (.inr (.inl 9))
  else
  some (.inl (i64 (i+1)))
  else
  some (.inr (.inr ()))
noncomputable def XK(l:List api_Track):Option Int:=
  if(decide (50<(l.length:Int)))=true then
  some 3
  else
  ((loop (t1 (QD l)) 0):Option ((Int) ⊕ (Unit))).bind (Sum.elim (fun q'=>some q') (t0 (some 0)))
noncomputable def JC(t:api_Track)(c0:api_Instrument):Option Bool:=
  some (decide (t.Name=c0.Track))
noncomputable def Q4(l:List api_Track)(i:api_Instrument):Option Int:=
  (ZJ l (fun z0=>JC z0 i)).bind fun y=>
  some y
noncomputable def XL(i:api_Instrument)(c0:List api_Track):Option Bool:=
  (Q4 c0 i).bind fun y=>
  some (decide (y<0))
noncomputable def Jy(p:api_Panel)(l:List api_Track):Option Int:=
  (Zb3 p).bind fun y=>
  if(!decide (y=0))=true then
  some y
  else
  (XK l).bind fun y2=>
  if(!decide (y2=0))=true then
  some y2
  else
  (Zs p.Instruments (fun z0=>XL z0 l)).bind fun y3=>
  if y3=true then
  some 4
  else
  some 0
noncomputable def Q3(y:List api_Instrument)(Instruments2:List api_Instrument)(i:Int):Option (((List api_Instrument)×Int) ⊕ ((List api_Instrument))):=
  if(decide (i<(y.length:Int)))=true then
  (idx Instruments2 i).bind fun x=>
  (ZaX x.Zones).bind fun y2=>
  (idx Instruments2 i).bind fun x2=>
  some (.inl ((Instruments2.set i.toNat (api_Instrument.mk x2.Kind x2.Name x2.Track x2.Places x2.Low x2.High x2.Steps y2 x2.Op x2.N x2.Latch x2.Size)),(i64 (i+1))))
  else
  some (.inr Instruments2)
noncomputable def XT(p:api_Panel):Option api_Panel:=
  (ZaX p.Instruments).bind fun y=>
  ((loop (t2 (Q3 y)) (y,0)):Option (((List api_Instrument)))).bind (t1 fun(Instruments:List api_Instrument)=>
  some (api_Panel.mk Instruments))
noncomputable def QN(y:List api_Track)(out2:List api_Track)(i:Int):Option (((List api_Track)×Int) ⊕ ((List api_Track))):=
  if(decide (i<(y.length:Int)))=true then
  (idx out2 i).bind fun x=>
  (ZaX x.Series.Samples).bind fun y2=>
  (idx out2 i).bind fun x2=>
  some (.inl ((out2.set i.toNat (api_Track.mk x2.Name (api_Series.mk x2.Series.Den y2) x2.Long)),(i64 (i+1))))
  else
  some (.inr out2)
noncomputable def Xn(l:List api_Track):Option (List api_Track):=
  (ZaX l).bind fun y=>
  ((loop (t2 (QN y)) (y,0)):Option (((List api_Track)))).bind (t1 fun(out:List api_Track)=>
  some out)
noncomputable def XS(p:api_Panel):Option api_PanelState:=
  (mks (p.Instruments.length:Int) (api_Memo.mk false false 0 0 [])).bind fun l=>
  some (api_PanelState.mk (-1) l)
noncomputable def Zad(p:api_Panel)(l:List api_Track)(keep:Int):Option ((Int) ⊕ (panel_Replay×Int)):=
  (Jy p l).bind fun y=>
  if(!decide (y=0))=true then
  some (Sum.inl y)
  else
  (ZM keep 1 1000).bind fun y2=>
  if(!y2)=true then
  some (Sum.inl 9)
  else
  (XT p).bind fun y3=>
  (Xn l).bind fun y4=>
  (XS p).bind fun y5=>
  some (Sum.inr ((panel_Replay.mk y3 y4 keep y5 [] []),0))
noncomputable def Z0(n:Int)(low:Int)(high:Int):Option Bool:=
  some ((decide (n<low)) || (decide (high<n)))
noncomputable def ZaM(s:Str)(i:Int):Option ((Int) ⊕ (Bool) ⊕ (Unit)):=
  if(decide (i<(s.length:Int)))=true then
  (Zaz s i).bind fun b=>
  if(!((((decide (97≤b))&&(decide (b≤122))) || ((decide (48≤b))&&(decide (b≤57)))) || (decide (b=45))))=true then
  some (.inr (.inl false))
  else
  some (.inl (i64 (i+1)))
  else
  some (.inr (.inr ()))
noncomputable def ZcM(s:Str):Option Bool:=
  ((loop (t1 (ZaM s)) 0):Option ((Bool) ⊕ (Unit))).bind (Sum.elim (fun q'=>some q') (t0 (some ((decide (1≤(s.length:Int)))&&(decide ((s.length:Int)≤30))))))
noncomputable def ZcL(kind:Int)(l:List Int)(i:Int):Option ((Int) ⊕ (Bool) ⊕ (Unit)):=
  if(decide (i<(l.length:Int)))=true then
  (idx l i).bind fun x=>
  if(decide (x=kind))=true then
  some (.inr (.inl true))
  else
  some (.inl (i64 (i+1)))
  else
  some (.inr (.inr ()))
noncomputable def Zfw(kind:Int)(l:List Int):Option Bool:=
  ((loop (t1 (ZcL kind l)) 0):Option ((Bool) ⊕ (Unit))).bind (Sum.elim (fun q'=>some q') (t0 (some false)))
noncomputable def ZdR(i:api_Instrument):Option Bool:=
  (gd ((!decide (i.Places=0))==true) false (Zfw i.Kind ([1,4,6]:List Int))).bind fun y=>
  if((!decide (i.Places=0))&&(!y))=true then
  some true
  else
  if((!(decide (i.Kind=2)))&&((((!decide (i.Low=0)) || (!decide (i.High=0))) || (!decide (i.Steps=0))) || (decide (0<(i.Zones.length:Int)))))=true then
  some true
  else
  (gd (((!decide (i.Op=0)) || (!decide (i.N=0)))==true) false (Zfw i.Kind ([3,5]:List Int))).bind fun y2=>
  if(((!decide (i.Op=0)) || (!decide (i.N=0)))&&(!y2))=true then
  some true
  else
  if(i.Latch&&(!decide (i.Kind=3)))=true then
  some true
  else
  some ((!decide (i.Size=0))&&(!decide (i.Kind=6)))
noncomputable def Jv(i:api_Instrument)(i2:Int):Option ((Int) ⊕ (Int) ⊕ (Unit)):=
  if(decide (i2<(i.Zones.length:Int)))=true then
  (idx i.Zones i2).bind fun x=>
  (ZcM x.Name).bind fun y4=>
  if(!y4)=true then
  some (.inr (.inl 8))
  else
  if(decide (x.To<x.From))=true then
  some (.inr (.inl 9))
  else
  (gd ((decide (0<i2))==true) (api_Zone.mk 0 0 []) (idx i.Zones (i64 (i2-1)))).bind fun x2=>
  if((decide (0<i2))&&(decide (x.From≤x2.To)))=true then
  some (.inr (.inl 10))
  else
  some (.inl (i64 (i2+1)))
  else
  some (.inr (.inr ()))
noncomputable def ZbZ(i:api_Instrument):Option Int:=
  (gd ((decide (i.High≤i.Low))==false) false (Z0 i.Low (-1125899906842624) 1125899906842624)).bind fun y=>
  (gd (((decide (i.High≤i.Low)) || y)==false) false (Z0 i.High (-1125899906842624) 1125899906842624)).bind fun y2=>
  (gd ((((decide (i.High≤i.Low)) || y) || y2)==false) false (Z0 i.Steps 1 1000)).bind fun y3=>
  if((((decide (i.High≤i.Low)) || y) || y2) || y3)=true then
  some 9
  else
  if(decide (10<(i.Zones.length:Int)))=true then
  some 3
  else
  ((loop (t1 (Jv i)) 0):Option ((Int) ⊕ (Unit))).bind (Sum.elim (fun q'=>some q') (t0 (some 0)))
noncomputable def Jp(i:api_Instrument):Option Int:=
  (Z0 i.Kind 1 6).bind fun y=>
  if y=true then
  some 7
  else
  (ZcM i.Name).bind fun y2=>
  if(((!y2) || (decide (i.Track= []))) || (decide (30<(i.Track.length:Int))))=true then
  some 8
  else
  (ZdR i).bind fun y3=>
  if y3=true then
  some 2
  else
  (Z0 i.Places 0 6).bind fun y4=>
  if y4=true then
  some 9
  else
  if(decide (i.Kind=2))=true then
  (ZbZ i).bind fun y5=>
  some y5
  else
  ((if(decide (i.Kind=3))=true then
  some (decide (i.Kind=3))
  else
  some (decide (i.Kind=5))):Option ((Bool))).bind (t1 fun(v:Bool)=>
  if v=true then
  (Z0 i.Op 1 6).bind fun y6=>
  if y6=true then
  some 7
  else
  (Z0 i.N (-1125899906842624) 1125899906842624).bind fun y7=>
  if y7=true then
  some 9
  else
  some 0
  else
  if(decide (i.Kind=6))=true then
  (Z0 i.Size 1 50).bind fun y8=>
  if y8=true then
  some 9
  else
  some 0
  else
  some 0)
noncomputable def Zaw(x:api_Instrument)(l:List api_Instrument)(i2:Int):Option ((Int) ⊕ (Int) ⊕ (Unit)):=
  if(decide (i2<(l.length:Int)))=true then
  (idx l i2).bind fun x2=>
  if(decide (x2.Name=x.Name))=true then
  some (.inr (.inl 5))
  else
  some (.inl (i64 (i2+1)))
  else
  some (.inr (.inr ()))
noncomputable def ZbK(p:api_Panel)(i:Int):Option ((Int) ⊕ (Int) ⊕ (Unit)):=
  if(decide (i<(p.Instruments.length:Int)))=true then
  (((idx p.Instruments i).bind fun x=>
  (Jp x).bind fun y=>
  if(!decide (y=0))=true then
  some (.inl y)
  else
  (slc p.Instruments 0 i).bind fun l=>
  loop (t1 (Zaw x l)) 0):Option ((Int) ⊕ (Unit))).bind (Sum.elim (fun q'=>some (.inr (.inl q'))) (t0 (some (.inl (i64 (i+1))))))
  else
  some (.inr (.inr ()))
noncomputable def Zdk(p:api_Panel):Option Int:=
  if(decide (100<(p.Instruments.length:Int)))=true then
  some 3
  else
  ((loop (t1 (ZbK p)) 0):Option ((Int) ⊕ (Unit))).bind (Sum.elim (fun q'=>some q') (t0 (some 0)))
noncomputable def Zf3:Option (List Str):=
  some ([[112,104,97,115,101],[109,111,118,101],[114,117,108,101],[105,102],[111,114],[97,110,100],[116,114,117,101],[102,97,108,115,101],[115,116,101,97,100,121],[110,111,116],[102,111,114],[119,105,116,104,105,110],[99,111,117,110,116],[111,102],[114,105,115,101,115],[115,105,110,99,101]]:List Str)
noncomputable def ZaH(s:Str)(y:(List Str))(i:Int):Option ((Int) ⊕ (Bool) ⊕ (Unit)):=
  if(decide (i<(y.length:Int)))=true then
  (idx y i).bind fun x=>
  if(decide (x=s))=true then
  some (.inr (.inl true))
  else
  some (.inl (i64 (i+1)))
  else
  some (.inr (.inr ()))
noncomputable def Zcs(s:Str):Option Bool:=
  (Zf3).bind fun y=>
  ((loop (t1 (ZaH s y)) 0):Option ((Bool) ⊕ (Unit))).bind (Sum.elim (fun q'=>some q') (t0 (some false)))
noncomputable def ZaQ(s:Str)(i:Int):Option ((Int) ⊕ (Bool) ⊕ (Unit)):=
  if(decide (i<(s.length:Int)))=true then
  (Zaz s i).bind fun b=>
  if(!(((decide (97≤b))&&(decide (b≤122))) || ((decide (0<i))&&(((decide (48≤b))&&(decide (b≤57))) || (decide (b=45))))))=true then
  some (.inr (.inl false))
  else
  some (.inl (i64 (i+1)))
  else
  some (.inr (.inr ()))
noncomputable def ZdT(s:Str):Option Bool:=
  ((loop (t1 (ZaQ s)) 0):Option ((Bool) ⊕ (Unit))).bind (Sum.elim (fun q'=>some q') (t0 ((gd (((!decide (s= []))&&(decide ((s.length:Int)≤30)))==true) false (Zcs s)).bind fun y=>
  some (((!decide (s= []))&&(decide ((s.length:Int)≤30)))&&(!y)))))
noncomputable def Jc(n:Int)(low:Int)(high:Int):Option Bool:=
  some ((decide (n<low)) || (decide (high<n)))
noncomputable def ZdI(mark:Int):Option Bool:=
  some (decide (2≤mark))
noncomputable def ZaK(s:api_Sample):Option Int:=
  (Jc s.At 0 1099511627776).bind fun y=>
  (gd (y==false) false (Jc s.N (-1125899906842624) 1125899906842624)).bind fun y2=>
  (gd ((y || y2)==false) false (Jc s.Mark 0 4)).bind fun y3=>
  if((y || y2) || y3)=true then
  some 9
  else
  (gd ((!decide (s.N=0))==true) false (ZdI s.Mark)).bind fun y4=>
  if((!decide (s.N=0))&&(!y4))=true then
  some 2
  else
  some 0
noncomputable def Zcv(s:api_Series)(i:Int):Option ((Int) ⊕ (Int×Int) ⊕ (Unit)):=
  if(decide (i<(s.Samples.length:Int)))=true then
  (idx s.Samples i).bind fun x=>
  (ZaK x).bind fun y2=>
  if(!decide (y2=0))=true then
  some (.inr (.inl (i,y2)))
  else
  (gd ((decide (0<i))==true) (api_Sample.mk 0 0 0) (idx s.Samples i)).bind fun x2=>
  (gd ((decide (0<i))==true) (api_Sample.mk 0 0 0) (idx s.Samples (i64 (i-1)))).bind fun x3=>
  if((decide (0<i))&&(decide (x2.At≤x3.At)))=true then
  some (.inr (.inl (i,10)))
  else
  some (.inl (i64 (i+1)))
  else
  some (.inr (.inr ()))
noncomputable def Zey(s:api_Series):Option (Int×Int):=
  (Jc s.Den 1 1000000).bind fun y=>
  if y=true then
  some ((-1),9)
  else
  if(decide (20000<(s.Samples.length:Int)))=true then
  some ((-1),3)
  else
  ((loop (t1 (Zcv s)) 0):Option ((Int×Int) ⊕ (Unit))).bind (Sum.elim (fun q'=>some q') (t0 (some ((-1),0))))
noncomputable def Zdz(s:api_Series):Option Int:=
  (Zey s).bind fun y=>
  some y.2
noncomputable def Zek(n:Int)(low:Int)(high:Int):Option Bool:=
  some ((decide (n<low)) || (decide (high<n)))
noncomputable def Xc(l:List api_Track)(i:Int)(k:Int):Option ((Int) ⊕ (Int) ⊕ (Unit)):=
  if(decide (k<i))=true then
  (idx l k).bind fun x2=>
  (idx l i).bind fun x3=>
  if(decide (x2.Name=x3.Name))=true then
  some (.inr (.inl 5))
  else
  some (.inl (i64 (k+1)))
  else
  some (.inr (.inr ()))
noncomputable def XR(l:List api_Track)(i:Int):Option ((Int) ⊕ (Int) ⊕ (Unit)):=
  if(decide (i<(l.length:Int)))=true then
  (idx l i).bind fun x=>
  (ZdT x.Name).bind fun y=>
  if(!y)=true then
  some (.inr (.inl 8))
  else
  ((loop (t1 (Xc l i)) 0):Option ((Int) ⊕ (Unit))).bind (Sum.elim (fun q'=>some (.inr (.inl q'))) (t0 ((idx l i).bind fun x4=>
  (Zdz x4.Series).bind fun y2=>
  if(!decide (y2=0))=true then
  some (.inr (.inl y2))
  else
  (idx l i).bind fun x5=>
  (Zek x5.Long 0 1099511627776).bind fun y3=>
  if y3=true then
  some (.inr (.inl 9))
  else
  some (.inl (i64 (i+1))))))
  else
  some (.inr (.inr ()))
noncomputable def ZaS(l:List api_Track):Option Int:=
  if(decide (50<(l.length:Int)))=true then
  some 3
  else
  ((loop (t1 (XR l)) 0):Option ((Int) ⊕ (Unit))).bind (Sum.elim (fun q'=>some q') (t0 (some 0)))
noncomputable def ZbF(l:List api_Track)(name:Str)(i:Int):Option ((Int) ⊕ (api_Track×Bool) ⊕ (Unit)):=
  if(decide (i<(l.length:Int)))=true then
  (idx l i).bind fun x=>
  if(decide (x.Name=name))=true then
  some (.inr (.inl (x,true)))
  else
  some (.inl (i64 (i+1)))
  else
  some (.inr (.inr ()))
noncomputable def ZaC(l:List api_Track)(name:Str):Option (api_Track×Bool):=
  ((loop (t1 (ZbF l name)) 0):Option ((api_Track×Bool) ⊕ (Unit))).bind (Sum.elim (fun q'=>some q') (t0 (some ((api_Track.mk [] (api_Series.mk 0 []) 0),false))))
noncomputable def ZbG(p:api_Panel)(l:List api_Track)(i:Int):Option ((Int) ⊕ (Int) ⊕ (Unit)):=
  if(decide (i<(p.Instruments.length:Int)))=true then
  (idx p.Instruments i).bind fun x=>
  (ZaC l x.Track).bind fun y3=>
  if(!y3.2)=true then
  some (.inr (.inl 4))
  else
  some (.inl (i64 (i+1)))
  else
  some (.inr (.inr ()))
noncomputable def ZeJ(p:api_Panel)(l:List api_Track):Option Int:=
  (Zdk p).bind fun y=>
  if(!decide (y=0))=true then
  some y
  else
  (ZaS l).bind fun y2=>
  if(!decide (y2=0))=true then
  some y2
  else
  ((loop (t1 (ZbG p l)) 0):Option ((Int) ⊕ (Unit))).bind (Sum.elim (fun q'=>some q') (t0 (some 0)))
noncomputable def Zdw(p:api_Panel):Option (api_PanelState×Int):=
  (Zdk p).bind fun y=>
  if(!decide (y=0))=true then
  some ((api_PanelState.mk 0 []),y)
  else
  (mks (p.Instruments.length:Int) (api_Memo.mk false false 0 0 [])).bind fun l=>
  some ((api_PanelState.mk (-1) l),0)
noncomputable def ZdP(p:api_Panel)(l:List api_Track)(keep:Int):Option ((Int) ⊕ (ref8_Replay×Int)):=
  (ZeJ p l).bind fun y=>
  if(!decide (y=0))=true then
  some (Sum.inl y)
  else
  (Z0 keep 1 1000).bind fun y2=>
  if y2=true then
  some (Sum.inl 9)
  else
  (Zdw p).bind fun y3=>
  some (Sum.inr ((ref8_Replay.mk p l keep y3.1 [] []),0))
noncomputable def Zy(x:List api_Sample)(target:Int)(cmp:api_Sample→Int→Option Int)(i2:Int)(j:Int):Option ((Int×Int) ⊕ (Int)):=
  if(decide (i2<j))=true then
  (shr .u64 (u64 (i64 (i2+j))) 1).bind fun q=>
  (idx x (i64 q)).bind fun x2=>
  (cmp x2 target).bind fun y=>
  if(decide (y<0))=true then
  some (.inl ((i64 ((i64 q)+1)),j))
  else
  some (.inl (i2,(i64 q)))
  else
  some (.inr i2)
noncomputable def ZC(x:List api_Sample)(target:Int)(cmp:api_Sample→Int→Option Int):Option (Int×Bool):=
  ((loop (t2 (Zy x target cmp)) (0,(x.length:Int))):Option ((Int))).bind (t1 fun(i:Int)=>
  (gd ((decide (i<(x.length:Int)))==true) (api_Sample.mk 0 0 0) (idx x i)).bind fun x3=>
  (gd ((decide (i<(x.length:Int)))==true) 0 (cmp x3 target)).bind fun y2=>
  some (i,((decide (i<(x.length:Int)))&&(decide (y2=0)))))
noncomputable def Xh(x:api_Sample)(at_:Int):Option Int:=
  some (i64 (x.At-at_))
noncomputable def ZaB(s:api_Series)(at_:Int):Option Int:=
  (ZC s.Samples at_ (fun z0 z1=>Xh z0 z1)).bind fun y=>
  if y.2=true then
  some y.1
  else
  some (i64 (y.1-1))
noncomputable def Zci(x:api_Sample):Option Bool:=
  some (decide (3≤x.Mark))
noncomputable def Zcc(s:api_Series)(at_:Int)(long:Int):Option (api_Sample×Bool):=
  (ZaB s at_).bind fun y=>
  (gd ((decide (y<0))==false) (api_Sample.mk 0 0 0) (idx s.Samples y)).bind fun x=>
  (gd ((decide (y<0))==false) false (Zci x)).bind fun y2=>
  (gd (((decide (y<0)) || (!y2))==false) (api_Sample.mk 0 0 0) (idx s.Samples y)).bind fun x2=>
  if(((decide (y<0)) || (!y2)) || (decide (long<(i64 (at_-x2.At)))))=true then
  some ((api_Sample.mk 0 0 0),false)
  else
  (idx s.Samples y).bind fun x3=>
  some (x3,true)
noncomputable def ZcR(s:api_Series)(at_:Int)(long:Int):Option (api_Sample×Bool):=
  (Zcc s at_ long).bind fun y=>
  some (y.1,y.2)
noncomputable def Zak(t:api_Track)(frame:Int):Option (api_Sample×Bool):=
  (ZcR t.Series (i64 ((i64 ((i64 (64*frame))+64))-1)) t.Long).bind fun y=>
  some (y.1,y.2)
noncomputable def Za3(op:Int)(a:Int)(b:Int):Option Bool:=
  if(decide (op=1))=true then
  some (decide (a<b))
  else
  if(decide (op=2))=true then
  some (decide (a≤b))
  else
  if(decide (op=3))=true then
  some (decide (a=b))
  else
  if(decide (op=4))=true then
  some (!decide (a=b))
  else
  if(decide (op=5))=true then
  some (decide (b≤a))
  else
  some (decide (b<a))
noncomputable def Xl(out2:List Int)(i:Int):Option (((List Int)×Int) ⊕ ((List Int))):=
  if(decide ((i64 (i+2))≤(out2.length:Int)))=true then
  (slp out2 i (i64 (i+2))).bind fun u=>
  (ck (decide (2≤Int.toNat ((i64 (i+2))-i)))).bind fun u2=>
  (ck (decide ((0:Int)≤1)&&decide (1<(2:Int)))).bind fun u3=>
  (idx out2 (i+1)).bind fun x=>
  (ck (decide ((0:Int)≤0)&&decide (0<(2:Int)))).bind fun u4=>
  (idx out2 (i+0)).bind fun x2=>
  some (.inl ((out2.set (i+0).toNat x),(i64 (i+1))))
  else
  some (.inr out2)
noncomputable def ZaA(tape:List Int)(size:Int)(n:Int):Option (List Int):=
  (ZaX tape).bind fun y=>
  (app y ([n]:List Int)).bind fun l=>
  if(decide ((l.length:Int)≤size))=true then
  some l
  else
  ((loop (t2 (Xl)) (l,0)):Option (((List Int)))).bind (t1 fun(out:List Int)=>
  (slc out 0 (i64 ((out.length:Int)-1))).bind fun l2=>
  some l2)
noncomputable def Xj(i:api_Instrument)(m:api_Memo)(n:Int)(known:Bool):Option api_Memo:=
  (gd ((known&&((decide (i.Kind=3)) || (decide (i.Kind=5))))==true) false (Za3 i.Op n i.N)).bind fun y=>
  ((if(decide (i.Kind=3))=true then
  some (api_Memo.mk (((known&&((decide (i.Kind=3)) || (decide (i.Kind=5))))&&y) || (i.Latch&&m.Lit)) m.Some m.N m.Count m.Tape)
  else
  if(decide (i.Kind=5))=true then
  if(((known&&((decide (i.Kind=3)) || (decide (i.Kind=5))))&&y)&&(!m.Lit))=true then
  some (api_Memo.mk ((known&&((decide (i.Kind=3)) || (decide (i.Kind=5))))&&y) m.Some m.N (i64 (m.Count+1)) m.Tape)
  else
  some (api_Memo.mk ((known&&((decide (i.Kind=3)) || (decide (i.Kind=5))))&&y) m.Some m.N m.Count m.Tape)
  else
  if((decide (i.Kind=4))&&known)=true then
  ((if m.Some=true then
  some (max n m.N)
  else
  some n):Option ((Int))).bind (t1 fun(n2:Int)=>
  some (api_Memo.mk m.Lit true n2 m.Count m.Tape))
  else
  if((decide (i.Kind=6))&&known)=true then
  (ZaA m.Tape i.Size n).bind fun y2=>
  some (api_Memo.mk m.Lit m.Some m.N m.Count y2)
  else
  some m):Option ((api_Memo))).bind (t1 fun(m2:api_Memo)=>
  some m2)
noncomputable def Xr(p:api_Panel)(l:List api_Track)(s:api_PanelState)(Memos2:List api_Memo)(i:Int):Option (((List api_Memo)×Int) ⊕ ((List api_Memo))):=
  if(decide (i<(p.Instruments.length:Int)))=true then
  (idx p.Instruments i).bind fun x=>
  (Q4 l x).bind fun y=>
  (idx l y).bind fun x2=>
  (Zak x2 (i64 (s.Frame+1))).bind fun y2=>
  (idx s.Memos i).bind fun x3=>
  (ZaX x3.Tape).bind fun y3=>
  (Xj x (api_Memo.mk x3.Lit x3.Some x3.N x3.Count y3) y2.1.N y2.2).bind fun y4=>
  (app Memos2 ([y4]:List api_Memo)).bind fun l2=>
  some (.inl (l2,(i64 (i+1))))
  else
  some (.inr Memos2)
noncomputable def Jb(p:api_Panel)(l:List api_Track)(s:api_PanelState):Option api_PanelState:=
  ((loop (t2 (Xr p l s)) ([],0)):Option (((List api_Memo)))).bind (t1 fun(Memos:List api_Memo)=>
  some (api_PanelState.mk (i64 (s.Frame+1)) Memos))
noncomputable def Zbx(places:Int)(scale2:Int)(i:Int):Option ((Int×Int) ⊕ (Int)):=
  if(decide (i<places))=true then
  some (.inl ((i64 (scale2*10)),(i64 (i+1))))
  else
  some (.inr scale2)
noncomputable def XM(n:Int)(den:Int)(places:Int):Option Str:=
  (quo .i64 (max n (i64 (-n))) den).bind fun q=>
  ((loop (t2 (Zbx places)) (1,0)):Option ((Int))).bind (t1 fun(scale:Int)=>
  (rem (max n (i64 (-n))) den).bind fun q2=>
  (quo .i64 (i64 ((i64 ((i64 (q2*scale))*2))+den)) (i64 (2*den))).bind fun q3=>
  ((if(decide (q3=scale))=true then
  some ((i64 (q+1)),0)
  else
  some (q,q3)):Option ((Int×Int))).bind (t2 fun(whole:Int) (part:Int)=>
  (itoa whole).bind fun y=>
  ((if(decide (0<places))=true then
  (itoa (i64 (scale+part))).bind fun y2=>
  (slc y2 1 (y2.length:Int)).bind fun s=>
  (cat [46] s).bind fun s2=>
  (cat y s2).bind fun s3=>
  some s3
  else
  some y):Option ((Str))).bind (t1 fun(out:Str)=>
  if((decide (n<0))&&((decide (0<whole)) || (decide (0<part))))=true then
  (cat [45] out).bind fun s4=>
  some s4
  else
  some out)))
noncomputable def Zbb(i:api_Instrument)(n:Int):Option Int:=
  if(decide (n≤i.Low))=true then
  some 0
  else
  if(decide (i.High≤n))=true then
  some i.Steps
  else
  (quo .i64 (i64 ((i64 (n-i.Low))*i.Steps)) (i64 (i.High-i.Low))).bind fun q=>
  some q
noncomputable def XV(i:api_Instrument)(n:Int)(i2:Int):Option ((Int) ⊕ (Str) ⊕ (Unit)):=
  if(decide (i2<(i.Zones.length:Int)))=true then
  (idx i.Zones i2).bind fun x=>
  (ZM n x.From x.To).bind fun y=>
  if y=true then
  some (.inr (.inl x.Name))
  else
  some (.inl (i64 (i2+1)))
  else
  some (.inr (.inr ()))
noncomputable def Zal(i:api_Instrument)(n:Int):Option Str:=
  ((loop (t1 (XV i n)) 0):Option ((Str) ⊕ (Unit))).bind (Sum.elim (fun q'=>some q') (t0 (some [])))
noncomputable def JQ(i:api_Instrument)(m:api_Memo)(den:Int)(l2:List Str)(i2:Int):Option (((List Str)×Int) ⊕ ((List Str))):=
  if(decide (i2<(m.Tape.length:Int)))=true then
  (idx m.Tape i2).bind fun x2=>
  (XM x2 den i.Places).bind fun y6=>
  (app l2 ([y6]:List Str)).bind fun l3=>
  some (.inl (l3,(i64 (i2+1))))
  else
  some (.inr l2)
noncomputable def Zbq(i:api_Instrument)(m:api_Memo)(den:Int)(x:api_Sample)(known:Bool):Option api_Face:=
  ((if(decide (i.Kind=1))=true then
  if known=true then
  (XM x.N den i.Places).bind fun y=>
  some (api_Face.mk y 0 m.Lit x.Mark)
  else
  some (api_Face.mk [45,45,45] 0 m.Lit x.Mark)
  else
  if(decide (i.Kind=2))=true then
  if known=true then
  (Zbb i x.N).bind fun y2=>
  (Zal i x.N).bind fun y3=>
  some (api_Face.mk y3 y2 m.Lit x.Mark)
  else
  some (api_Face.mk [45,45,45] 0 m.Lit x.Mark)
  else
  if(decide (i.Kind=3))=true then
  if m.Lit=true then
  some (api_Face.mk [111,110] 0 m.Lit x.Mark)
  else
  if known=true then
  some (api_Face.mk [111,102,102] 0 m.Lit x.Mark)
  else
  some (api_Face.mk [45,45,45] 0 m.Lit x.Mark)
  else
  if(decide (i.Kind=4))=true then
  if m.Some=true then
  (XM m.N den i.Places).bind fun y4=>
  some (api_Face.mk y4 0 m.Lit x.Mark)
  else
  some (api_Face.mk [45,45,45] 0 m.Lit x.Mark)
  else
  if(decide (i.Kind=5))=true then
  (itoa m.Count).bind fun y5=>
  some (api_Face.mk y5 0 m.Lit x.Mark)
  else
  if(decide (i.Kind=6))=true then
  ((loop (t2 (JQ i m den)) ([],0)):Option (((List Str)))).bind (t1 fun(l:List Str)=>
  if(decide (0<(l.length:Int)))=true then
  (Zkg l [32]).bind fun y7=>
  some (api_Face.mk y7 0 m.Lit x.Mark)
  else
  some (api_Face.mk [45,45,45] 0 m.Lit x.Mark))
  else
  some (api_Face.mk [45,45,45] 0 m.Lit x.Mark)):Option ((api_Face))).bind (t1 fun(out:api_Face)=>
  some out)
noncomputable def Jl(p:api_Panel)(l:List api_Track)(s:api_PanelState)(out2:List api_Face)(i:Int):Option (((List api_Face)×Int) ⊕ ((List api_Face))):=
  if(decide (i<(p.Instruments.length:Int)))=true then
  (idx p.Instruments i).bind fun x=>
  (Q4 l x).bind fun y=>
  (idx l y).bind fun x2=>
  ((if(decide (0≤s.Frame))=true then
  (Zak x2 s.Frame).bind fun y2=>
  some (y2.1,y2.2)
  else
  some ((api_Sample.mk 0 0 0),false)):Option ((api_Sample×Bool))).bind (t2 fun(x3:api_Sample) (known:Bool)=>
  (idx s.Memos i).bind fun x4=>
  (Zbq x x4 x2.Series.Den x3 known).bind fun y3=>
  (app out2 ([y3]:List api_Face)).bind fun l2=>
  some (.inl (l2,(i64 (i+1)))))
  else
  some (.inr out2)
noncomputable def Zb2(p:api_Panel)(l:List api_Track)(s:api_PanelState):Option (List api_Face):=
  ((loop (t2 (Jl p l s)) ([],0)):Option (((List api_Face)))).bind (t1 fun(out:List api_Face)=>
  some out)
noncomputable def Xk(r_:panel_Replay):Option (List api_Face):=
  (Zb2 r_.p r_.l r_.state).bind fun y=>
  some y
noncomputable def Zv(x:List api_PanelState)(target:Int)(cmp:api_PanelState→Int→Option Int)(i2:Int)(j:Int):Option ((Int×Int) ⊕ (Int)):=
  if(decide (i2<j))=true then
  (shr .u64 (u64 (i64 (i2+j))) 1).bind fun q=>
  (idx x (i64 q)).bind fun x2=>
  (cmp x2 target).bind fun y=>
  if(decide (y<0))=true then
  some (.inl ((i64 ((i64 q)+1)),j))
  else
  some (.inl (i2,(i64 q)))
  else
  some (.inr i2)
noncomputable def ZA(x:List api_PanelState)(target:Int)(cmp:api_PanelState→Int→Option Int):Option (Int×Bool):=
  ((loop (t2 (Zv x target cmp)) (0,(x.length:Int))):Option ((Int))).bind (t1 fun(i:Int)=>
  (gd ((decide (i<(x.length:Int)))==true) (api_PanelState.mk 0 []) (idx x i)).bind fun x3=>
  (gd ((decide (i<(x.length:Int)))==true) 0 (cmp x3 target)).bind fun y2=>
  some (i,((decide (i<(x.length:Int)))&&(decide (y2=0)))))
noncomputable def Qs(s:api_PanelState)(frame:Int):Option Int:=
  some (i64 (s.Frame-frame))
noncomputable def Qb(r_:panel_Replay)(frame:Int):Option (Int×Bool):=
  (ZA r_.kept frame (fun z0 z1=>Qs z0 z1)).bind fun y=>
  some (y.1,y.2)
noncomputable def QF(y:List api_Memo)(Memos2:List api_Memo)(i:Int):Option (((List api_Memo)×Int) ⊕ ((List api_Memo))):=
  if(decide (i<(y.length:Int)))=true then
  (idx Memos2 i).bind fun x=>
  (ZaX x.Tape).bind fun y2=>
  (idx Memos2 i).bind fun x2=>
  some (.inl ((Memos2.set i.toNat (api_Memo.mk x2.Lit x2.Some x2.N x2.Count y2)),(i64 (i+1))))
  else
  some (.inr Memos2)
noncomputable def Qk(s:api_PanelState):Option api_PanelState:=
  (ZaX s.Memos).bind fun y=>
  ((loop (t2 (QF y)) (y,0)):Option (((List api_Memo)))).bind (t1 fun(Memos:List api_Memo)=>
  some (api_PanelState.mk s.Frame Memos))
noncomputable def XG(r_:panel_Replay)(n:Int)(state:api_PanelState)(kept:List api_PanelState)(i:Int):Option ((api_PanelState×(List api_PanelState)×Int) ⊕ (panel_Replay)):=
  if(decide (i<n))=true then
  (((Jb r_.p r_.l state).bind fun y=>
  (rem y.Frame r_.keep).bind fun q=>
  if(!decide (q=(i64 (r_.keep-1))))=true then
  some (y.Frame,y.Memos,kept)
  else
  (Qb (panel_Replay.mk r_.p r_.l r_.keep y kept r_.marks) y.Frame).bind fun y2=>
  if(!y2.2)=true then
  (Qk y).bind fun y3=>
  (ins kept y2.1 ([y3]:List api_PanelState)).bind fun l=>
  some (y.Frame,y.Memos,l)
  else
  some (y.Frame,y.Memos,kept)):Option ((Int×(List api_Memo)×(List api_PanelState)))).bind (t3 fun(Frame:Int) (Memos:List api_Memo) (kept2:List api_PanelState)=>
  some (.inl ((api_PanelState.mk Frame Memos),kept2,(i64 (i+1)))))
  else
  some (.inr (panel_Replay.mk r_.p r_.l r_.keep state kept r_.marks))
noncomputable def Xu(r_:panel_Replay)(n:Int):Option panel_Replay:=
  loop (t3 (XG r_ n)) (r_.state,r_.kept,0)
noncomputable def Qc(r_:panel_Replay)(n:Int):Option (Int×panel_Replay):=
  if((decide (n<0)) || (decide ((i64 (19999-r_.state.Frame))<n)))=true then
  some (9,r_)
  else
  (Xu r_ n).bind fun y=>
  some (0,y)
noncomputable def X5:Option Bool:=
  (Zad (api_Panel.mk ([(api_Instrument.mk 1 [97] [116] 1 0 0 0 [] 0 0 false 0)]:List api_Instrument)) ([(api_Track.mk [116] (api_Series.mk 2 ([(api_Sample.mk 70 (-3) 4)]:List api_Sample)) 100)]:List api_Track) 1).bind (Sum.elim (fun y=>
  (gd ((!decide (y=0))==false) () (none:Option Unit)).bind fun u=>
  if((!decide (y=0)) || (!decide (0=0)))=true then
  some false
  else
  none) (fun y=>
  ((if((!decide (y.2=0))==false)=true then
  (Qc y.1 2).bind fun y2=>
  if(false || (!decide (y2.1=0)))=true then
  some (.inl false)
  else
  some (.inr (y2.2.p,y2.2.l,y2.2.keep,y2.2.state,y2.2.kept,y2.2.marks))
  else
  (gd (true==false) () (none:Option Unit)).bind fun u2=>
  if(true || false)=true then
  some (.inl false)
  else
  some (.inr (y.1.p,y.1.l,y.1.keep,y.1.state,y.1.kept,y.1.marks))):Option ((Bool) ⊕ (api_Panel×(List api_Track)×Int×api_PanelState×(List api_PanelState)×(List api_Bookmark)))).bind (Sum.elim (fun q'=>some q') (t6 fun(p:api_Panel) (l:List api_Track) (keep:Int) (state:api_PanelState) (kept:List api_PanelState) (marks:List api_Bookmark)=>
  (Xk (panel_Replay.mk p l keep state kept marks)).bind fun y3=>
  (gd ((decide ((y3.length:Int)=1))==true) (api_Face.mk [] 0 false 0) (idx y3 0)).bind fun x=>
  some ((decide ((y3.length:Int)=1))&&(decide (x.Text= [45,49,46,53])&&(decide (x.Needle=0)&&((x.Lit==false)&&(decide (x.Mark=4)&&true)))))))))
noncomputable def Xd(s:api_PanelState)(c0:Int)(c1:api_PanelState):Option api_PanelState:=
  if((decide (s.Frame≤c0))&&(decide (c1.Frame<s.Frame)))=true then
  (Qk s).bind fun y=>
  some y
  else
  some c1
noncomputable def ZfZ(mark:Int):Option Bool:=
  some (decide (3≤mark))
noncomputable def Zdg(s:api_Series)(at_:Int)(low2:Int)(high:Int):Option ((Int×Int) ⊕ (Int)):=
  if(decide (low2<high))=true then
  (quo .i64 (i64 (low2+high)) 2).bind fun q=>
  (idx s.Samples q).bind fun x=>
  if(decide (x.At≤at_))=true then
  some (.inl ((i64 (q+1)),high))
  else
  some (.inl (low2,q))
  else
  some (.inr low2)
noncomputable def ZfF(s:api_Series)(at_:Int)(long:Int):Option (api_Sample×Bool):=
  ((loop (t2 (Zdg s at_)) (0,(s.Samples.length:Int))):Option ((Int))).bind (t1 fun(low:Int)=>
  if(decide (low=0))=true then
  some ((api_Sample.mk 0 0 0),false)
  else
  (idx s.Samples (i64 (low-1))).bind fun x2=>
  (ZfZ x2.Mark).bind fun y=>
  if((!y) || (decide (long<(i64 (at_-x2.At)))))=true then
  some ((api_Sample.mk 0 0 0),false)
  else
  some (x2,true))
noncomputable def ZfP(s:api_Series)(at_:Int)(long:Int):Option (api_Sample×Bool×Int):=
  (Zdz s).bind fun y=>
  if(!decide (y=0))=true then
  some ((api_Sample.mk 0 0 0),false,y)
  else
  (Jc at_ 0 1099511627776).bind fun y2=>
  (gd (y2==false) false (Jc long 0 1099511627776)).bind fun y3=>
  if(y2 || y3)=true then
  some ((api_Sample.mk 0 0 0),false,9)
  else
  (ZfF s at_ long).bind fun y4=>
  some (y4.1,y4.2,0)
noncomputable def Zbo(t:api_Track)(frame:Int):Option (api_Sample×Bool):=
  (ZfP t.Series (i64 ((i64 (64*frame))+63)) t.Long).bind fun y=>
  some (y.1,y.2.1)
noncomputable def Zdv(op:Int)(a:Int)(b:Int):Option Bool:=
  if(decide (op=1))=true then
  some (decide (a<b))
  else
  if(decide (op=2))=true then
  some (decide (a≤b))
  else
  if(decide (op=3))=true then
  some (decide (a=b))
  else
  if(decide (op=4))=true then
  some (!decide (a=b))
  else
  if(decide (op=5))=true then
  some (decide (b≤a))
  else
  some (decide (b<a))
noncomputable def Zcz(i:api_Instrument)(m:api_Memo)(s:api_Sample)(known:Bool):Option api_Memo:=
  (app ([]:List Int) m.Tape).bind fun l=>
  ((if((decide (i.Kind=3))&&known)=true then
  (Zdv i.Op s.N i.N).bind fun y=>
  some ((y || (i.Latch&&m.Lit)),m.Some,m.N,m.Count,l)
  else
  if(decide (i.Kind=3))=true then
  some ((m.Lit&&i.Latch),m.Some,m.N,m.Count,l)
  else
  if((decide (i.Kind=5))&&known)=true then
  (Zdv i.Op s.N i.N).bind fun y2=>
  if(y2&&(!m.Lit))=true then
  some (y2,m.Some,m.N,(i64 (m.Count+1)),l)
  else
  some (y2,m.Some,m.N,m.Count,l)
  else
  if(decide (i.Kind=5))=true then
  some (false,m.Some,m.N,m.Count,l)
  else
  if((decide (i.Kind=4))&&known)=true then
  if((!m.Some) || (decide (m.N<s.N)))=true then
  some (m.Lit,true,s.N,m.Count,l)
  else
  some (m.Lit,true,m.N,m.Count,l)
  else
  if((decide (i.Kind=6))&&known)=true then
  (app l ([s.N]:List Int)).bind fun l2=>
  if(decide (i.Size<(l2.length:Int)))=true then
  (slc l2 1 (l2.length:Int)).bind fun l3=>
  some (m.Lit,m.Some,m.N,m.Count,l3)
  else
  some (m.Lit,m.Some,m.N,m.Count,l2)
  else
  some (m.Lit,m.Some,m.N,m.Count,l)):Option ((Bool×Bool×Int×Int×(List Int)))).bind (t5 fun(Lit:Bool) (Some:Bool) (N:Int) (Count:Int) (Tape:List Int)=>
  some (api_Memo.mk Lit Some N Count Tape))
noncomputable def Zag(p:api_Panel)(l:List api_Track)(s:api_PanelState)(Memos2:List api_Memo)(i:Int):Option (((List api_Memo)×Int) ⊕ ((List api_Memo))):=
  if(decide (i<(p.Instruments.length:Int)))=true then
  (idx p.Instruments i).bind fun x=>
  (ZaC l x.Track).bind fun y=>
  (Zbo y.1 (i64 (s.Frame+1))).bind fun y2=>
  (idx s.Memos i).bind fun x2=>
  (Zcz x x2 y2.1 y2.2).bind fun y3=>
  (app Memos2 ([y3]:List api_Memo)).bind fun l2=>
  some (.inl (l2,(i64 (i+1))))
  else
  some (.inr Memos2)
noncomputable def Zck(p:api_Panel)(l:List api_Track)(s:api_PanelState):Option api_PanelState:=
  ((loop (t2 (Zag p l s)) ([],0)):Option (((List api_Memo)))).bind (t1 fun(Memos:List api_Memo)=>
  some (api_PanelState.mk (i64 (s.Frame+1)) Memos))
noncomputable def Qu(r_:panel_Replay)(n:Int)(state:api_PanelState)(kept:List api_PanelState)(i:Int):Option ((api_PanelState×(List api_PanelState)×Int) ⊕ (panel_Replay)):=
  if(decide (i<n))=true then
  (((Jb r_.p r_.l state).bind fun y=>
  (rem y.Frame r_.keep).bind fun q=>
  if(!decide (q=(i64 (r_.keep-1))))=true then
  some (y.Frame,y.Memos,kept)
  else
  (Qb (panel_Replay.mk r_.p r_.l r_.keep y kept r_.marks) y.Frame).bind fun y2=>
  if(!y2.2)=true then
  (Qk y).bind fun y3=>
  (ins kept y2.1 ([y3]:List api_PanelState)).bind fun l=>
  some (y.Frame,y.Memos,l)
  else
  some (y.Frame,y.Memos,kept)):Option ((Int×(List api_Memo)×(List api_PanelState)))).bind (t3 fun(Frame2:Int) (Memos2:List api_Memo) (kept2:List api_PanelState)=>
  some (.inl ((api_PanelState.mk Frame2 Memos2),kept2,(i64 (i+1)))))
  else
  some (.inr (panel_Replay.mk r_.p r_.l r_.keep state kept r_.marks))
noncomputable def Qy(r_:panel_Replay)(n:Int):Option panel_Replay:=
  loop (t3 (Qu r_ n)) (r_.state,r_.kept,0)
noncomputable def Qd(r_:panel_Replay)(frame:Int):Option (Int×Int×panel_Replay):=
  (ZM frame (-1) 19999).bind fun y=>
  if(!y)=true then
  some (0,9,r_)
  else
  (XS r_.p).bind fun y2=>
  (Qb r_ frame).bind fun y3=>
  ((if y3.2=true then
  some (i64 (y3.1+1))
  else
  some y3.1):Option ((Int))).bind (t1 fun(i:Int)=>
  ((if(decide (0<i))=true then
  (idx r_.kept (i64 (i-1))).bind fun x=>
  (Xd x frame y2).bind fun y4=>
  some (y4.Frame,y4.Memos)
  else
  some (y2.Frame,y2.Memos)):Option ((Int×(List api_Memo)))).bind (t2 fun(Frame:Int) (Memos:List api_Memo)=>
  (Xd r_.state frame (api_PanelState.mk Frame Memos)).bind fun y5=>
  (Qy (panel_Replay.mk r_.p r_.l r_.keep y5 r_.kept r_.marks) (i64 (frame-y5.Frame))).bind fun y6=>
  some ((i64 (frame-y5.Frame)),0,y6)))
noncomputable def XH(s:api_PanelState)(Memos2:List api_Memo)(i:Int):Option (((List api_Memo)×Int) ⊕ ((List api_Memo))):=
  if(decide (i<(s.Memos.length:Int)))=true then
  (idx s.Memos i).bind fun x=>
  (app ([]:List Int) x.Tape).bind fun l=>
  (app Memos2 ([(api_Memo.mk x.Lit x.Some x.N x.Count l)]:List api_Memo)).bind fun l2=>
  some (.inl (l2,(i64 (i+1))))
  else
  some (.inr Memos2)
noncomputable def Xf(s:api_PanelState):Option api_PanelState:=
  ((loop (t2 (XH s)) ([],0)):Option (((List api_Memo)))).bind (t1 fun(Memos:List api_Memo)=>
  some (api_PanelState.mk s.Frame Memos))
noncomputable def ZaG(r_:panel_Replay)(i2:Int):Option ((Int) ⊕ (Int)):=
  (gd ((decide (0<i2))==true) (api_Bookmark.mk 0 []) (idx r_.marks (i64 (i2-1)))).bind fun x=>
  if((decide (0<i2))&&(decide (r_.state.Frame<x.Frame)))=true then
  some (.inl (i64 (i2-1)))
  else
  some (.inr i2)
noncomputable def QC(r_:panel_Replay)(text:Str):Option (Int×panel_Replay):=
  if(decide (r_.state.Frame<0))=true then
  some (11,r_)
  else
  if((decide (100<(text.length:Int))) || (decide (100≤(r_.marks.length:Int))))=true then
  some (3,r_)
  else
  ((loop (t1 (ZaG r_)) (r_.marks.length:Int)):Option ((Int))).bind (t1 fun(i:Int)=>
  (ins r_.marks i ([(api_Bookmark.mk r_.state.Frame text)]:List api_Bookmark)).bind fun l=>
  some (0,(panel_Replay.mk r_.p r_.l r_.keep r_.state r_.kept l)))
noncomputable def QZ(r_:panel_Replay)(back:Bool)(to2:Int)(found2:Bool)(i:Int):Option ((Int×Bool×Int) ⊕ (Int×Bool)):=
  if(decide (i<(r_.marks.length:Int)))=true then
  (idx r_.marks i).bind fun x=>
  if((back&&(decide (x.Frame<r_.state.Frame))) || (((!back)&&(decide (r_.state.Frame<x.Frame)))&&(!found2)))=true then
  some (.inl (x.Frame,true,(i64 (i+1))))
  else
  some (.inl (to2,found2,(i64 (i+1))))
  else
  some (.inr (to2,found2))
noncomputable def Q2(r_:panel_Replay)(back:Bool):Option (Int×Bool×Int×panel_Replay):=
  ((loop (t3 (QZ r_ back)) (0,false,0)):Option ((Int×Bool))).bind (t2 fun(to:Int) (found:Bool)=>
  if(!found)=true then
  some (0,false,0,r_)
  else
  (Qd r_ to).bind fun y=>
  some (to,true,y.2.1,y.2.2))
noncomputable def Zap(r_:ref8_Replay)(y:api_PanelState)(at_2:Int):Option ((Int) ⊕ (Int)):=
  (gd ((decide (0<at_2))==true) (api_PanelState.mk 0 []) (idx r_.kept (i64 (at_2-1)))).bind fun x=>
  if((decide (0<at_2))&&(decide (y.Frame<x.Frame)))=true then
  some (.inl (i64 (at_2-1)))
  else
  some (.inr at_2)
noncomputable def XO(r_:ref8_Replay):Option ref8_Replay:=
  (Zck r_.p r_.l r_.state).bind fun y=>
  (rem y.Frame r_.keep).bind fun q=>
  if(!decide (q=(i64 (r_.keep-1))))=true then
  some (ref8_Replay.mk r_.p r_.l r_.keep y r_.kept r_.marks)
  else
  ((loop (t1 (Zap r_ y)) (r_.kept.length:Int)):Option ((Int))).bind (t1 fun(at_:Int)=>
  (gd ((decide (0<at_))==true) (api_PanelState.mk 0 []) (idx r_.kept (i64 (at_-1)))).bind fun x2=>
  if((decide (0<at_))&&(decide (x2.Frame=y.Frame)))=true then
  some (ref8_Replay.mk r_.p r_.l r_.keep y r_.kept r_.marks)
  else
  (app r_.kept ([(api_PanelState.mk 0 [])]:List api_PanelState)).bind fun l=>
  (slq l (i64 (at_+1)) (l.length:Int)).bind fun u=>
  (slq l at_ (l.length:Int)).bind fun u2=>
  (Xf y).bind fun y2=>
  (idx (cpy l (i64 (at_+1)).toNat (Int.toNat ((l.length:Int)-(i64 (at_+1)))) at_.toNat (Int.toNat ((l.length:Int)-at_))) at_).bind fun x3=>
  some (ref8_Replay.mk r_.p r_.l r_.keep y ((cpy l (i64 (at_+1)).toNat (Int.toNat ((l.length:Int)-(i64 (at_+1)))) at_.toNat (Int.toNat ((l.length:Int)-at_))).set at_.toNat y2) r_.marks))
noncomputable def Zbd(n:Int)(p2:api_Panel)(l2:List api_Track)(keep2:Int)(state2:api_PanelState)(kept2:List api_PanelState)(marks2:List api_Bookmark)(i:Int):Option ((api_Panel×(List api_Track)×Int×api_PanelState×(List api_PanelState)×(List api_Bookmark)×Int) ⊕ (api_Panel×(List api_Track)×Int×api_PanelState×(List api_PanelState)×(List api_Bookmark))):=
  if(decide (i<n))=true then
  (XO (ref8_Replay.mk p2 l2 keep2 state2 kept2 marks2)).bind fun y=>
  some (.inl (y.p,y.l,y.keep,y.state,y.kept,y.marks,(i64 (i+1))))
  else
  some (.inr (p2,l2,keep2,state2,kept2,marks2))
noncomputable def Xb(r_:ref8_Replay)(n:Int):Option (Int×ref8_Replay):=
  if((decide (n<0)) || (decide ((i64 (19999-r_.state.Frame))<n)))=true then
  some (9,r_)
  else
  ((loop (t7 (Zbd n)) (r_.p,r_.l,r_.keep,r_.state,r_.kept,r_.marks,0)):Option ((api_Panel×(List api_Track)×Int×api_PanelState×(List api_PanelState)×(List api_Bookmark)))).bind (t6 fun(p:api_Panel) (l:List api_Track) (keep:Int) (state:api_PanelState) (kept:List api_PanelState) (marks:List api_Bookmark)=>
  some (0,(ref8_Replay.mk p l keep state kept marks)))
noncomputable def Q6(r_:ref8_Replay)(frame:Int)(best3:api_PanelState)(i:Int):Option ((api_PanelState×Int) ⊕ (api_PanelState)):=
  if(decide (i<(r_.kept.length:Int)))=true then
  (idx r_.kept i).bind fun x=>
  if((decide (x.Frame≤frame))&&(decide (best3.Frame<x.Frame)))=true then
  some (.inl (x,(i64 (i+1))))
  else
  some (.inl (best3,(i64 (i+1))))
  else
  some (.inr best3)
noncomputable def JN(frame:Int)(best2:api_PanelState)(p2:api_Panel)(l2:List api_Track)(keep2:Int)(state2:api_PanelState)(kept2:List api_PanelState)(marks2:List api_Bookmark)(i2:Int):Option ((api_Panel×(List api_Track)×Int×api_PanelState×(List api_PanelState)×(List api_Bookmark)×Int) ⊕ (api_Panel×(List api_Track)×Int×api_PanelState×(List api_PanelState)×(List api_Bookmark))):=
  if(decide (i2<(i64 (frame-best2.Frame))))=true then
  (XO (ref8_Replay.mk p2 l2 keep2 state2 kept2 marks2)).bind fun y4=>
  some (.inl (y4.p,y4.l,y4.keep,y4.state,y4.kept,y4.marks,(i64 (i2+1))))
  else
  some (.inr (p2,l2,keep2,state2,kept2,marks2))
noncomputable def Qt(r_:ref8_Replay)(frame:Int):Option (Int×Int×ref8_Replay):=
  (Z0 frame (-1) 19999).bind fun y=>
  if y=true then
  some (0,9,r_)
  else
  (Zdw r_.p).bind fun y2=>
  ((if((decide (r_.state.Frame≤frame))&&(decide (y2.1.Frame<r_.state.Frame)))=true then
  some r_.state
  else
  some y2.1):Option ((api_PanelState))).bind (t1 fun(best:api_PanelState)=>
  ((loop (t2 (Q6 r_ frame)) (best,0)):Option ((api_PanelState))).bind (t1 fun(best2:api_PanelState)=>
  (Xf best2).bind fun y3=>
  ((loop (t7 (JN frame best2)) (r_.p,r_.l,r_.keep,y3,r_.kept,r_.marks,0)):Option ((api_Panel×(List api_Track)×Int×api_PanelState×(List api_PanelState)×(List api_Bookmark)))).bind (t6 fun(p:api_Panel) (l:List api_Track) (keep:Int) (state:api_PanelState) (kept:List api_PanelState) (marks:List api_Bookmark)=>
  some ((i64 (frame-best2.Frame)),0,(ref8_Replay.mk p l keep state kept marks)))))
noncomputable def Zbc(r_:ref8_Replay)(at_2:Int):Option ((Int) ⊕ (Int)):=
  (gd ((decide (0<at_2))==true) (api_Bookmark.mk 0 []) (idx r_.marks (i64 (at_2-1)))).bind fun x=>
  if((decide (0<at_2))&&(decide (r_.state.Frame<x.Frame)))=true then
  some (.inl (i64 (at_2-1)))
  else
  some (.inr at_2)
noncomputable def QM(r_:ref8_Replay)(text:Str):Option (Int×ref8_Replay):=
  if(decide (r_.state.Frame<0))=true then
  some (11,r_)
  else
  if((decide (100<(text.length:Int))) || (decide (100≤(r_.marks.length:Int))))=true then
  some (3,r_)
  else
  ((loop (t1 (Zbc r_)) (r_.marks.length:Int)):Option ((Int))).bind (t1 fun(at_:Int)=>
  (app r_.marks ([(api_Bookmark.mk r_.state.Frame text)]:List api_Bookmark)).bind fun l=>
  (slq l (i64 (at_+1)) (l.length:Int)).bind fun u=>
  (slq l at_ (l.length:Int)).bind fun u2=>
  (idx (cpy l (i64 (at_+1)).toNat (Int.toNat ((l.length:Int)-(i64 (at_+1)))) at_.toNat (Int.toNat ((l.length:Int)-at_))) at_).bind fun x2=>
  some (0,(ref8_Replay.mk r_.p r_.l r_.keep r_.state r_.kept ((cpy l (i64 (at_+1)).toNat (Int.toNat ((l.length:Int)-(i64 (at_+1)))) at_.toNat (Int.toNat ((l.length:Int)-at_))).set at_.toNat (api_Bookmark.mk r_.state.Frame text)))))
noncomputable def Q8(r_:ref8_Replay)(back:Bool)(best2:Int)(i:Int):Option ((Int×Int) ⊕ (Int)):=
  if(decide (i<(r_.marks.length:Int)))=true then
  (idx r_.marks i).bind fun x=>
  ((if(back&&(decide (x.Frame<r_.state.Frame)))=true then
  some x.Frame
  else
  some best2):Option ((Int))).bind (t1 fun(best3:Int)=>
  if(((!back)&&(decide (r_.state.Frame<x.Frame)))&&(decide (best3<0)))=true then
  some (.inl (x.Frame,(i64 (i+1))))
  else
  some (.inl (best3,(i64 (i+1)))))
  else
  some (.inr best2)
noncomputable def XP(r_:ref8_Replay)(back:Bool):Option (Int×Bool×Int×ref8_Replay):=
  ((loop (t2 (Q8 r_ back)) ((-1),0)):Option ((Int))).bind (t1 fun(best:Int)=>
  if(decide (best<0))=true then
  some (0,false,0,r_)
  else
  (Qt r_ best).bind fun y=>
  some (best,true,y.2.1,y.2.2))
noncomputable def Zbp(r_:panel_Replay):Option Int:=
  some r_.state.Frame
noncomputable def ZbT(r_:ref8_Replay):Option Int:=
  some r_.state.Frame
noncomputable def Zbm(r_:panel_Replay):Option api_PanelState:=
  (Qk r_.state).bind fun y=>
  some y
noncomputable def ZbV(r_:ref8_Replay):Option api_PanelState:=
  (Xf r_.state).bind fun y=>
  some y
noncomputable def ZD(s1:List api_Memo)(s2:List api_Memo)(eq:api_Memo→api_Memo→Option Bool)(i:Int):Option ((Int) ⊕ (Bool) ⊕ (Unit)):=
  if(decide (i<(s1.length:Int)))=true then
  (idx s1 i).bind fun x=>
  (idx s2 i).bind fun x2=>
  (eq x x2).bind fun y=>
  if(!y)=true then
  some (.inr (.inl false))
  else
  some (.inl (i64 (i+1)))
  else
  some (.inr (.inr ()))
noncomputable def ZW(s1:List api_Memo)(s2:List api_Memo)(eq:api_Memo→api_Memo→Option Bool):Option Bool:=
  if(!decide ((s1.length:Int)=(s2.length:Int)))=true then
  some false
  else
  ((loop (t1 (ZD s1 s2 eq)) 0):Option ((Bool) ⊕ (Unit))).bind (Sum.elim (fun q'=>some q') (t0 (some true)))
noncomputable def QY(s1:List Int)(s2:List Int)(i:Int):Option ((Int) ⊕ (Bool) ⊕ (Unit)):=
  if(decide (i<(s1.length:Int)))=true then
  (idx s1 i).bind fun x=>
  (idx s2 i).bind fun x2=>
  if(!decide (x=x2))=true then
  some (.inr (.inl false))
  else
  some (.inl (i64 (i+1)))
  else
  some (.inr (.inr ()))
noncomputable def Xo(s1:List Int)(s2:List Int):Option Bool:=
  if(!decide ((s1.length:Int)=(s2.length:Int)))=true then
  some false
  else
  ((loop (t1 (QY s1 s2)) 0):Option ((Bool) ⊕ (Unit))).bind (Sum.elim (fun q'=>some q') (t0 (some true)))
noncomputable def ZbJ(a:api_Memo)(b:api_Memo):Option Bool:=
  (gd (((((a.Lit==b.Lit)&&(a.Some==b.Some))&&(decide (a.N=b.N)))&&(decide (a.Count=b.Count)))==true) false (Xo a.Tape b.Tape)).bind fun y=>
  some (((((a.Lit==b.Lit)&&(a.Some==b.Some))&&(decide (a.N=b.N)))&&(decide (a.Count=b.Count)))&&y)
noncomputable def Zb0(a:api_PanelState)(b:api_PanelState):Option Bool:=
  (gd ((decide (a.Frame=b.Frame))==true) false (ZW a.Memos b.Memos (fun z0 z1=>ZbJ z0 z1))).bind fun y=>
  some ((decide (a.Frame=b.Frame))&&y)
noncomputable def ZeV(places:Int)(unit2:Int)(i:Int):Option ((Int×Int) ⊕ (Int)):=
  if(decide (i<places))=true then
  some (.inl ((i64 (unit2*10)),(i64 (i+1))))
  else
  some (.inr unit2)
noncomputable def Zas(n:Int)(den:Int)(places:Int):Option Str:=
  ((if(decide (n<0))=true then
  some ((i64 (-n)),[45])
  else
  some (n,[])):Option ((Int×Str))).bind (t2 fun(size:Int) (sign:Str)=>
  ((loop (t2 (ZeV places)) (1,0)):Option ((Int))).bind (t1 fun(unit:Int)=>
  (quo .i64 size den).bind fun q=>
  (rem size den).bind fun q2=>
  (quo .i64 (i64 ((i64 ((i64 (2*unit))*q2))+den)) (i64 (2*den))).bind fun q3=>
  ((if(decide (q3=unit))=true then
  some ((i64 (q+1)),0)
  else
  some (q,q3)):Option ((Int×Int))).bind (t2 fun(whole:Int) (part:Int)=>
  ((if((decide (whole=0))&&(decide (part=0)))=true then
  some []
  else
  some sign):Option ((Str))).bind (t1 fun(sign2:Str)=>
  (itoa whole).bind fun y=>
  ((if(decide (0<places))=true then
  (itoa (i64 (unit+part))).bind fun y2=>
  (slc y2 1 (y2.length:Int)).bind fun s2=>
  (cat [46] s2).bind fun s3=>
  (cat y s3).bind fun s4=>
  some s4
  else
  some y):Option ((Str))).bind (t1 fun(s:Str)=>
  (cat sign2 s).bind fun s5=>
  some s5)))))
noncomputable def Ze2(i:api_Instrument)(n:Int):Option Int:=
  if(decide (n≤i.Low))=true then
  some 0
  else
  if(decide (i.High≤n))=true then
  some i.Steps
  else
  (quo .i64 (i64 ((i64 (n-i.Low))*i.Steps)) (i64 (i.High-i.Low))).bind fun q=>
  some q
noncomputable def Zii(i:api_Instrument)(n:Int)(i2:Int):Option ((Int) ⊕ (Str) ⊕ (Unit)):=
  if(decide (i2<(i.Zones.length:Int)))=true then
  (idx i.Zones i2).bind fun x=>
  if((decide (x.From≤n))&&(decide (n≤x.To)))=true then
  some (.inr (.inl x.Name))
  else
  some (.inl (i64 (i2+1)))
  else
  some (.inr (.inr ()))
noncomputable def ZfN(i:api_Instrument)(n:Int):Option Str:=
  ((loop (t1 (Zii i n)) 0):Option ((Str) ⊕ (Unit))).bind (Sum.elim (fun q'=>some q') (t0 (some [])))
noncomputable def Zbk(i:api_Instrument)(den:Int)(m:api_Memo)(Mark:Int)(Text:Str)(i2:Int):Option ((Str×Int) ⊕ (api_Face)):=
  if(decide (i2<(m.Tape.length:Int)))=true then
  (idx m.Tape i2).bind fun x=>
  if(decide (i2=0))=true then
  (Zas x den i.Places).bind fun y6=>
  some (.inl (y6,(i64 (i2+1))))
  else
  (Zas x den i.Places).bind fun y7=>
  (cat [32] y7).bind fun s2=>
  (cat Text s2).bind fun s3=>
  some (.inl (s3,(i64 (i2+1))))
  else
  some (.inr (api_Face.mk Text 0 false Mark))
noncomputable def Zen(i:api_Instrument)(den:Int)(m:api_Memo)(s:api_Sample)(known:Bool):Option api_Face:=
  ((if known=true then
  some s.Mark
  else
  some 0):Option ((Int))).bind (t1 fun(Mark:Int)=>
  ((if(decide (i.Kind=1))=true then
  if known=true then
  (Zas s.N den i.Places).bind fun y=>
  some (api_Face.mk y 0 false Mark)
  else
  some (api_Face.mk [45,45,45] 0 false Mark)
  else
  if(decide (i.Kind=2))=true then
  if known=true then
  (Ze2 i s.N).bind fun y2=>
  (ZfN i s.N).bind fun y3=>
  some (api_Face.mk y3 y2 false Mark)
  else
  some (api_Face.mk [45,45,45] 0 false Mark)
  else
  if(decide (i.Kind=3))=true then
  if m.Lit=true then
  some (api_Face.mk [111,110] 0 m.Lit Mark)
  else
  if known=true then
  some (api_Face.mk [111,102,102] 0 m.Lit Mark)
  else
  some (api_Face.mk [45,45,45] 0 m.Lit Mark)
  else
  if(decide (i.Kind=4))=true then
  if m.Some=true then
  (Zas m.N den i.Places).bind fun y4=>
  some (api_Face.mk y4 0 false Mark)
  else
  some (api_Face.mk [45,45,45] 0 false Mark)
  else
  if(decide (i.Kind=5))=true then
  (itoa m.Count).bind fun y5=>
  some (api_Face.mk y5 0 m.Lit Mark)
  else
  if(decide (i.Kind=6))=true then
  loop (t2 (Zbk i den m Mark)) ([45,45,45],0)
  else
  some (api_Face.mk [45,45,45] 0 false Mark)):Option ((api_Face))).bind (t1 fun(f:api_Face)=>
  some f))
noncomputable def ZbI(p:api_Panel)(l:List api_Track)(s:api_PanelState)(out2:List api_Face)(i:Int):Option (((List api_Face)×Int) ⊕ ((List api_Face))):=
  if(decide (i<(p.Instruments.length:Int)))=true then
  (idx p.Instruments i).bind fun x=>
  (ZaC l x.Track).bind fun y=>
  ((if(decide (0≤s.Frame))=true then
  (Zbo y.1 s.Frame).bind fun y2=>
  some (y2.1,y2.2)
  else
  some ((api_Sample.mk 0 0 0),false)):Option ((api_Sample×Bool))).bind (t2 fun(x2:api_Sample) (known:Bool)=>
  (idx s.Memos i).bind fun x3=>
  (Zen x y.1.Series.Den x3 x2 known).bind fun y3=>
  (app out2 ([y3]:List api_Face)).bind fun l2=>
  some (.inl (l2,(i64 (i+1)))))
  else
  some (.inr out2)
noncomputable def Zer(p:api_Panel)(l:List api_Track)(s:api_PanelState):Option (List api_Face):=
  ((loop (t2 (ZbI p l s)) ([],0)):Option (((List api_Face)))).bind (t1 fun(out:List api_Face)=>
  some out)
noncomputable def ZbQ(r_:ref8_Replay):Option (List api_Face):=
  (Zer r_.p r_.l r_.state).bind fun y=>
  some y
noncomputable def Z4(s1:List api_Face)(s2:List api_Face)(i:Int):Option ((Int) ⊕ (Bool) ⊕ (Unit)):=
  if(decide (i<(s1.length:Int)))=true then
  (idx s1 i).bind fun x=>
  (idx s2 i).bind fun x2=>
  if(!(decide (x.Text=x2.Text)&&(decide (x.Needle=x2.Needle)&&((x.Lit==x2.Lit)&&(decide (x.Mark=x2.Mark)&&true)))))=true then
  some (.inr (.inl false))
  else
  some (.inl (i64 (i+1)))
  else
  some (.inr (.inr ()))
noncomputable def Qz(s1:List api_Face)(s2:List api_Face):Option Bool:=
  if(!decide ((s1.length:Int)=(s2.length:Int)))=true then
  some false
  else
  ((loop (t1 (Z4 s1 s2)) 0):Option ((Bool) ⊕ (Unit))).bind (Sum.elim (fun q'=>some q') (t0 (some true)))
noncomputable def Zb5(r_:panel_Replay)(out2:List Int)(i:Int):Option (((List Int)×Int) ⊕ ((List Int))):=
  if(decide (i<(r_.kept.length:Int)))=true then
  (idx r_.kept i).bind fun x=>
  (app out2 ([x.Frame]:List Int)).bind fun l=>
  some (.inl (l,(i64 (i+1))))
  else
  some (.inr out2)
noncomputable def Zar(r_:panel_Replay):Option (List Int):=
  ((loop (t2 (Zb5 r_)) ([],0)):Option (((List Int)))).bind (t1 fun(out:List Int)=>
  some out)
noncomputable def Zcl(r_:ref8_Replay)(out2:List Int)(i:Int):Option (((List Int)×Int) ⊕ ((List Int))):=
  if(decide (i<(r_.kept.length:Int)))=true then
  (idx r_.kept i).bind fun x=>
  (app out2 ([x.Frame]:List Int)).bind fun l=>
  some (.inl (l,(i64 (i+1))))
  else
  some (.inr out2)
noncomputable def ZaI(r_:ref8_Replay):Option (List Int):=
  ((loop (t2 (Zcl r_)) ([],0)):Option (((List Int)))).bind (t1 fun(out:List Int)=>
  some out)
noncomputable def JS(r_:panel_Replay):Option (List api_Bookmark):=
  (ZaX r_.marks).bind fun y=>
  some y
noncomputable def Zam(r_:ref8_Replay):Option (List api_Bookmark):=
  (app ([]:List api_Bookmark) r_.marks).bind fun l=>
  some l
noncomputable def ZN(s1:List api_Bookmark)(s2:List api_Bookmark)(i:Int):Option ((Int) ⊕ (Bool) ⊕ (Unit)):=
  if(decide (i<(s1.length:Int)))=true then
  (idx s1 i).bind fun x=>
  (idx s2 i).bind fun x2=>
  if(!(decide (x.Frame=x2.Frame)&&(decide (x.Text=x2.Text)&&true)))=true then
  some (.inr (.inl false))
  else
  some (.inl (i64 (i+1)))
  else
  some (.inr (.inr ()))
noncomputable def Z5(s1:List api_Bookmark)(s2:List api_Bookmark):Option Bool:=
  if(!decide ((s1.length:Int)=(s2.length:Int)))=true then
  some false
  else
  ((loop (t1 (ZN s1 s2)) 0):Option ((Bool) ⊕ (Unit))).bind (Sum.elim (fun q'=>some q') (t0 (some true)))
noncomputable def Zbu(a:panel_Replay)(b:ref8_Replay):Option Bool:=
  (Zbp a).bind fun y=>
  (ZbT b).bind fun y2=>
  if((decide (y=y2))==true)=true then
  (Zbm a).bind fun y3=>
  (ZbV b).bind fun y4=>
  (gd (true==true) false (Zb0 y3 y4)).bind fun y5=>
  if((true&&y5)==true)=true then
  (Xk a).bind fun y6=>
  (ZbQ b).bind fun y7=>
  (gd (true==true) false (Qz y6 y7)).bind fun y8=>
  if((true&&y8)==true)=true then
  (Zar a).bind fun y9=>
  (ZaI b).bind fun y10=>
  (gd (true==true) false (Xo y9 y10)).bind fun y11=>
  if((true&&y11)==true)=true then
  (JS a).bind fun y12=>
  (Zam b).bind fun y13=>
  (gd (true==true) false (Z5 y12 y13)).bind fun y14=>
  some (true&&y14)
  else
  (gd (false==true) () (none:Option Unit)).bind fun u=>
  some (false&&false)
  else
  (gd (false==true) () (none:Option Unit)).bind fun u2=>
  (gd ((false&&false)==true) () (none:Option Unit)).bind fun u3=>
  some ((false&&false)&&false)
  else
  (gd (false==true) () (none:Option Unit)).bind fun u4=>
  (gd ((false&&false)==true) () (none:Option Unit)).bind fun u5=>
  (gd (((false&&false)&&false)==true) () (none:Option Unit)).bind fun u6=>
  some (((false&&false)&&false)&&false)
  else
  (gd (false==true) () (none:Option Unit)).bind fun u7=>
  (gd ((false&&false)==true) () (none:Option Unit)).bind fun u8=>
  (gd (((false&&false)&&false)==true) () (none:Option Unit)).bind fun u9=>
  (gd ((((false&&false)&&false)&&false)==true) () (none:Option Unit)).bind fun u10=>
  some ((((false&&false)&&false)&&false)&&false)
noncomputable def ZaO(deeds:List law8_Deed):Option ((Unit) ⊕ (Unit)):=
  if(decide (0<(deeds.length:Int)))=true then
  (idx deeds 0).bind fun x=>
  if(decide (x.Op=0))=true then
  none
  else
  if(decide (x.Op=1))=true then
  none
  else
  if(decide (x.Op=2))=true then
  none
  else
  none
  else
  some (.inr ())
noncomputable def ZaJ(deeds:List law8_Deed):Option ((Unit) ⊕ (Unit)):=
  if(decide (0<(deeds.length:Int)))=true then
  (idx deeds 0).bind fun x2=>
  if(decide (x2.Op=0))=true then
  none
  else
  if(decide (x2.Op=1))=true then
  none
  else
  if(decide (x2.Op=2))=true then
  none
  else
  none
  else
  some (.inr ())
noncomputable def ZaP(deeds:List law8_Deed)(y:panel_Replay×Int):Option ((Unit) ⊕ (Unit)):=
  if(decide (0<(deeds.length:Int)))=true then
  (idx deeds 0).bind fun x3=>
  if(decide (x3.Op=0))=true then
  none
  else
  if(decide (x3.Op=1))=true then
  (Qd y.1 x3.N).bind fun y9=>
  none
  else
  if(decide (x3.Op=2))=true then
  none
  else
  (Q2 y.1 (decide (x3.Op=4))).bind fun y10=>
  none
  else
  some (.inr ())
noncomputable def Z3(deeds:List law8_Deed)(p2:api_Panel)(l2:List api_Track)(keep2:Int)(state:api_PanelState)(kept:List api_PanelState)(marks:List api_Bookmark)(p3:api_Panel)(l3:List api_Track)(keep3:Int)(state2:api_PanelState)(kept2:List api_PanelState)(marks2:List api_Bookmark)(i:Int):Option ((api_Panel×(List api_Track)×Int×api_PanelState×(List api_PanelState)×(List api_Bookmark)×api_Panel×(List api_Track)×Int×api_PanelState×(List api_PanelState)×(List api_Bookmark)×Int) ⊕ (Bool) ⊕ (Unit)):=
  if(decide (i<(deeds.length:Int)))=true then
  (idx deeds i).bind fun x4=>
  ((if(decide (x4.Op=0))=true then
  (Qc (panel_Replay.mk p2 l2 keep2 state kept marks) x4.N).bind fun y13=>
  (Xb (ref8_Replay.mk p3 l3 keep3 state2 kept2 marks2) x4.N).bind fun y14=>
  some (y13.2.p,y13.2.l,y13.2.keep,y13.2.state,y13.2.kept,y13.2.marks,y14.2.p,y14.2.l,y14.2.keep,y14.2.state,y14.2.kept,y14.2.marks,0,false,y13.1,0,false,y14.1)
  else
  if(decide (x4.Op=1))=true then
  (Qd (panel_Replay.mk p2 l2 keep2 state kept marks) x4.N).bind fun y15=>
  (Qt (ref8_Replay.mk p3 l3 keep3 state2 kept2 marks2) x4.N).bind fun y16=>
  some (y15.2.2.p,y15.2.2.l,y15.2.2.keep,y15.2.2.state,y15.2.2.kept,y15.2.2.marks,y16.2.2.p,y16.2.2.l,y16.2.2.keep,y16.2.2.state,y16.2.2.kept,y16.2.2.marks,y15.1,false,y15.2.1,y16.1,false,y16.2.1)
  else
  if(decide (x4.Op=2))=true then
  (QC (panel_Replay.mk p2 l2 keep2 state kept marks) x4.Text).bind fun y17=>
  (QM (ref8_Replay.mk p3 l3 keep3 state2 kept2 marks2) x4.Text).bind fun y18=>
  some (y17.2.p,y17.2.l,y17.2.keep,y17.2.state,y17.2.kept,y17.2.marks,y18.2.p,y18.2.l,y18.2.keep,y18.2.state,y18.2.kept,y18.2.marks,0,false,y17.1,0,false,y18.1)
  else
  (Q2 (panel_Replay.mk p2 l2 keep2 state kept marks) (decide (x4.Op=4))).bind fun y19=>
  (XP (ref8_Replay.mk p3 l3 keep3 state2 kept2 marks2) (decide (x4.Op=4))).bind fun y20=>
  some (y19.2.2.2.p,y19.2.2.2.l,y19.2.2.2.keep,y19.2.2.2.state,y19.2.2.2.kept,y19.2.2.2.marks,y20.2.2.2.p,y20.2.2.2.l,y20.2.2.2.keep,y20.2.2.2.state,y20.2.2.2.kept,y20.2.2.2.marks,y19.1,y19.2.1,y19.2.2.1,y20.1,y20.2.1,y20.2.2.1)):Option ((api_Panel×(List api_Track)×Int×api_PanelState×(List api_PanelState)×(List api_Bookmark)×api_Panel×(List api_Track)×Int×api_PanelState×(List api_PanelState)×(List api_Bookmark)×Int×Bool×Int×Int×Bool×Int))).bind (t18 fun(p4:api_Panel) (l4:List api_Track) (keep4:Int) (state3:api_PanelState) (kept3:List api_PanelState) (marks3:List api_Bookmark) (p5:api_Panel) (l5:List api_Track) (keep5:Int) (state4:api_PanelState) (kept4:List api_PanelState) (marks4:List api_Bookmark) (n:Int) (ok:Bool) (e:Int) (m:Int) (is:Bool) (f:Int)=>
  if((((!decide (n=m)) || (!(ok==is))) || (!decide (e=f)))==false)=true then
  (Zbu (panel_Replay.mk p4 l4 keep4 state3 kept3 marks3) (ref8_Replay.mk p5 l5 keep5 state4 kept4 marks4)).bind fun y21=>
  if(false || (!y21))=true then
  some (.inr (.inl false))
  else
  some (.inl (p4,l4,keep4,state3,kept3,marks3,p5,l5,keep5,state4,kept4,marks4,(i64 (i+1))))
  else
  (gd (true==false) () (none:Option Unit)).bind fun u=>
  if(true || false)=true then
  some (.inr (.inl false))
  else
  some (.inl (p4,l4,keep4,state3,kept3,marks3,p5,l5,keep5,state4,kept4,marks4,(i64 (i+1)))))
  else
  some (.inr (.inr ()))
noncomputable def Xy(p:api_Panel)(l:List api_Track)(keep:Int)(deeds:List law8_Deed):Option Bool:=
  (Zad p l keep).bind (Sum.elim (fun y=>
  (ZdP p l keep).bind (Sum.elim (fun y2=>
  if((!decide (y=y2)) || (!decide (y=0)))=true then
  (gd ((decide (y=y2))==true) false X5).bind fun y3=>
  some ((decide (y=y2))&&y3)
  else
  ((loop (t0 (ZaO deeds)) ()):Option ((Unit))).bind (t0 ((X5).bind fun y4=>
  some y4))) (fun y2=>
  if((!decide (y=y2.2)) || (!decide (y=0)))=true then
  (gd ((decide (y=y2.2))==true) false X5).bind fun y5=>
  some ((decide (y=y2.2))&&y5)
  else
  ((loop (t0 (ZaJ deeds)) ()):Option ((Unit))).bind (t0 ((X5).bind fun y6=>
  some y6))))) (fun y=>
  (ZdP p l keep).bind (Sum.elim (fun y7=>
  if((!decide (y.2=y7)) || (!decide (y.2=0)))=true then
  (gd ((decide (y.2=y7))==true) false X5).bind fun y8=>
  some ((decide (y.2=y7))&&y8)
  else
  ((loop (t0 (ZaP deeds y)) ()):Option ((Unit))).bind (t0 ((X5).bind fun y11=>
  some y11))) (fun y7=>
  if((!decide (y.2=y7.2)) || (!decide (y.2=0)))=true then
  (gd ((decide (y.2=y7.2))==true) false X5).bind fun y12=>
  some ((decide (y.2=y7.2))&&y12)
  else
  ((loop (t13 (Z3 deeds)) (y.1.p,y.1.l,y.1.keep,y.1.state,y.1.kept,y.1.marks,y7.1.p,y7.1.l,y7.1.keep,y7.1.state,y7.1.kept,y7.1.marks,0)):Option ((Bool) ⊕ (Unit))).bind (Sum.elim (fun q'=>some q') (t0 ((X5).bind fun y22=>
  some y22)))))))
end Go.Vx
