/- A text of the proof: a verified executor of the program form, or the contracts of the functions that the law reaches. -/
import Derived.Test.YtailpehcgelmdaaGreatDoorShLib
set_option linter.all false
namespace Go.Vx
open Go Go.RowKit
set_option linter.unusedVariables false
structure api_Zone where
  From : Int
  To : Int
  Name : Str
structure api_Instrument where
  Kind : Int
  Name : Str
  Track : Str
  Places : Int
  Low : Int
  High : Int
  Steps : Int
  Zones : List api_Zone
  Op : Int
  N : Int
  Latch : Bool
  Size : Int
structure api_Panel where
  Instruments : List api_Instrument
structure api_Sample where
  At : Int
  N : Int
  Mark : Int
structure api_Series where
  Den : Int
  Samples : List api_Sample
structure api_Track where
  Name : Str
  Series : api_Series
  Long : Int
structure api_Memo where
  Lit : Bool
  Some : Bool
  N : Int
  Count : Int
  Tape : List Int
structure api_PanelState where
  Frame : Int
  Memos : List api_Memo
structure api_Face where
  Text : Str
  Needle : Int
  Lit : Bool
  Mark : Int
structure strings_Builder where
  addr : Unit
  buf : List Int
structure api_Bookmark where
  Frame : Int
  Text : Str
structure panel_Replay where
  p : api_Panel
  l : List api_Track
  keep : Int
  state : api_PanelState
  kept : List api_PanelState
  marks : List api_Bookmark

noncomputable def ZV (n : Int) (low : Int) (high : Int) : Option Bool :=
  some ((decide (low ≤ n)) && (decide (n ≤ high)))

noncomputable def XC (c_ : Int) (s3 : Str) : Option ((Str) ⊕ (Str)) :=
  (gd ((decide (0 < (s3.length : Int))) == true) 0 (JQ s3 (i64 ((s3.length : Int) - 1)))).bind fun b =>
  if ((decide (0 < (s3.length : Int))) && (decide (b = c_))) = true then
  (slc s3 0 (i64 ((s3.length : Int) - 1))).bind fun s4 =>
  some (.inl s4)
  else
  some (.inr s3)

noncomputable def Xs (s : Str) (c_ : Int) : Option Str :=
  ((loop (t1 (XC c_)) s) : Option ((Str))).bind (t1 fun (s2 : Str) =>
  some s2)

noncomputable def XR (c_ : Int) (s3 : Str) : Option ((Str) ⊕ (Str)) :=
  (gd ((decide (0 < (s3.length : Int))) == true) 0 (JQ s3 0)).bind fun b =>
  if ((decide (0 < (s3.length : Int))) && (decide (b = c_))) = true then
  (slc s3 1 (s3.length : Int)).bind fun s4 =>
  some (.inl s4)
  else
  some (.inr s3)

noncomputable def XM (s : Str) (c_ : Int) : Option Str :=
  ((loop (t1 (XR c_)) s) : Option ((Str))).bind (t1 fun (s2 : Str) =>
  some s2)

noncomputable def XT (chars : Str) (as_2 : Vector Bool 256) (i : Int) : Option (((Vector Bool 256) × Int) ⊕ ((Vector Bool 256) × Bool) ⊕ ((Vector Bool 256))) :=
  if (decide (i < (chars.length : Int))) = true then
  (JQ chars i).bind fun b =>
  if (decide (128 ≤ b)) = true then
  some (.inr (.inl (as_2, false)))
  else
  (ZhP as_2 b).bind fun x =>
  some (.inl ((Zmw as_2 b true), (i64 (i + 1))))
  else
  some (.inr (.inr as_2))

noncomputable def QX (chars : Str) : Option ((Vector Bool 256) × Bool) :=
  ((loop (t2 (XT chars)) ((Vector.replicate 256 false), 0)) : Option (((Vector Bool 256) × Bool) ⊕ ((Vector Bool 256)))).bind (Sum.elim (fun q' => some q') (t1 fun (as_ : Vector Bool 256) =>
  some (as_, true)))

noncomputable def Z6 (as_ : Vector Bool 256) (c_ : Int) : Option Bool :=
  (ZhP as_ c_).bind fun x =>
  some x

noncomputable def Z7 (as_ : Vector Bool 256) (s3 : Str) : Option ((Str) ⊕ (Str)) :=
  if (decide (0 < (s3.length : Int))) = true then
  (JQ s3 (i64 ((s3.length : Int) - 1))).bind fun b =>
  (Z6 as_ b).bind fun y =>
  if (!y) = true then
  some (.inr s3)
  else
  (slc s3 0 (i64 ((s3.length : Int) - 1))).bind fun s4 =>
  some (.inl s4)
  else
  some (.inr s3)

noncomputable def Qt (s : Str) (as_ : Vector Bool 256) : Option Str :=
  ((loop (t1 (Z7 as_)) s) : Option ((Str))).bind (t1 fun (s2 : Str) =>
  some s2)

noncomputable def Z9 (as_ : Vector Bool 256) (s3 : Str) : Option ((Str) ⊕ (Str)) :=
  if (decide (0 < (s3.length : Int))) = true then
  (JQ s3 0).bind fun b =>
  (Z6 as_ b).bind fun y =>
  if (!y) = true then
  some (.inr s3)
  else
  (slc s3 1 (s3.length : Int)).bind fun s4 =>
  some (.inl s4)
  else
  some (.inr s3)

noncomputable def Qy (s : Str) (as_ : Vector Bool 256) : Option Str :=
  ((loop (t1 (Z9 as_)) s) : Option ((Str))).bind (t1 fun (s2 : Str) =>
  some s2)

noncomputable def Zbc (b : Int) : Option Bool :=
  some (!decide ((Znk .u8 b 192) = 128))

noncomputable def QB (s : Str) : Option (Int × Int) :=
  if (decide ((s.length : Int) < 1)) = true then
  some (65533, 0)
  else
  (JQ s 0).bind fun b =>
  none

noncomputable def QF (s : Str) : Option (Int × Int) :=
  (gd ((!decide (s = [])) == true) 0 (JQ s 0)).bind fun b =>
  if ((!decide (s = [])) && (decide (b < 128))) = true then
  (JQ s 0).bind fun b2 =>
  some ((i32 b2), 1)
  else
  (QB s).bind fun y =>
  some (y.1, y.2)

noncomputable def QJ (s : Str) (start2 : Int) : Option ((Int) ⊕ (Int)) :=
  if (decide ((max (i64 ((s.length : Int) - 4)) 0) ≤ start2)) = true then
  (JQ s start2).bind fun b2 =>
  (Zbc b2).bind fun y =>
  if y = true then
  some (.inr start2)
  else
  some (.inl (i64 (start2 - 1)))
  else
  some (.inr start2)

noncomputable def QC (s : Str) : Option (Int × Int) :=
  if (decide ((s.length : Int) = 0)) = true then
  some (65533, 0)
  else
  (JQ s (i64 ((s.length : Int) - 1))).bind fun b =>
  if (decide ((i32 b) < 128)) = true then
  some ((i32 b), 1)
  else
  ((loop (t1 (QJ s)) (i64 ((i64 ((s.length : Int) - 1)) - 1))) : Option ((Int))).bind (t1 fun (start : Int) =>
  ((if (decide (start < 0)) = true then
  some 0
  else
  some start) : Option ((Int))).bind (t1 fun (start3 : Int) =>
  (slc s start3 (s.length : Int)).bind fun s2 =>
  (QF s2).bind fun y2 =>
  if (!decide ((i64 (start3 + y2.2)) = (s.length : Int))) = true then
  some (65533, 1)
  else
  some (y2.1, y2.2)))

noncomputable def Q0 (s : Str) (r_ : Int) : Option Bool :=
  none

noncomputable def Q4 (cutset : Str) (s3 : Str) : Option ((Str) ⊕ (Str)) :=
  if (decide (0 < (s3.length : Int))) = true then
  (JQ s3 (i64 ((s3.length : Int) - 1))).bind fun b =>
  ((if (decide (128 ≤ (i32 b))) = true then
  (QC s3).bind fun y =>
  some (y.1, y.2)
  else
  some ((i32 b), 1)) : Option ((Int × Int))).bind (t2 fun (r_ : Int) (n : Int) =>
  (Q0 cutset r_).bind fun y2 =>
  if (!y2) = true then
  some (.inr s3)
  else
  (slc s3 0 (i64 ((s3.length : Int) - n))).bind fun s4 =>
  some (.inl s4))
  else
  some (.inr s3)

noncomputable def QS (s : Str) (cutset : Str) : Option Str :=
  ((loop (t1 (Q4 cutset)) s) : Option ((Str))).bind (t1 fun (s2 : Str) =>
  some s2)

noncomputable def Xb (cutset : Str) (s3 : Str) : Option ((Str) ⊕ (Str)) :=
  if (decide (0 < (s3.length : Int))) = true then
  (QF s3).bind fun y =>
  (Q0 cutset y.1).bind fun y2 =>
  if (!y2) = true then
  some (.inr s3)
  else
  (slc s3 y.2 (s3.length : Int)).bind fun s4 =>
  some (.inl s4)
  else
  some (.inr s3)

noncomputable def Q2 (s : Str) (cutset : Str) : Option Str :=
  ((loop (t1 (Xb cutset)) s) : Option ((Str))).bind (t1 fun (s2 : Str) =>
  some s2)

noncomputable def JK (s : Str) (cutset : Str) : Option Str :=
  if ((decide (s = [])) || (decide (cutset = []))) = true then
  some s
  else
  (gd ((decide ((cutset.length : Int) = 1)) == true) 0 (JQ cutset 0)).bind fun b =>
  if ((decide ((cutset.length : Int) = 1)) && (decide (b < 128))) = true then
  (JQ cutset 0).bind fun b2 =>
  (Xs s b2).bind fun y =>
  (JQ cutset 0).bind fun b3 =>
  (XM y b3).bind fun y2 =>
  some y2
  else
  (QX cutset).bind fun y3 =>
  if y3.2 = true then
  (Qt s y3.1).bind fun y4 =>
  (Qy y4 y3.1).bind fun y5 =>
  some y5
  else
  (QS s cutset).bind fun y6 =>
  (Q2 y6 cutset).bind fun y7 =>
  some y7

noncomputable def JF (s : Str) : Option Bool :=
  (ZV (s.length : Int) 1 30).bind fun y =>
  (gd (y == true) [] (JK s [97, 98, 99, 100, 101, 102, 103, 104, 105, 106, 107, 108, 109, 110, 111, 112, 113, 114, 115, 116, 117, 118, 119, 120, 121, 122, 48, 49, 50, 51, 52, 53, 54, 55, 56, 57, 45])).bind fun y2 =>
  some (y && (decide (y2 = [])))

noncomputable def Qc (s : List Int) (v : Int) (i : Int) : Option ((Int) ⊕ (Int) ⊕ (Unit)) :=
  if (decide (i < (s.length : Int))) = true then
  (idx s i).bind fun x =>
  if (decide (v = x)) = true then
  some (.inr (.inl i))
  else
  some (.inl (i64 (i + 1)))
  else
  some (.inr (.inr ()))

noncomputable def QZ (s : List Int) (v : Int) : Option Int :=
  ((loop (t1 (Qc s v)) 0) : Option ((Int) ⊕ (Unit))).bind (Sum.elim (fun q' => some q') (t0 (some (-1))))

noncomputable def Qp (s : List Int) (v : Int) : Option Bool :=
  (QZ s v).bind fun y =>
  some (decide (0 ≤ y))

noncomputable def ZT (l : List Int) (c0 : api_Instrument) : Option Bool :=
  (Qp l c0.Kind).bind fun y =>
  some y

noncomputable def Zan (i : api_Instrument) : Option Bool :=
  (gd ((!decide (i.Places = 0)) == true) false (ZT ([1, 4, 6] : List Int) i)).bind fun y =>
  (gd ((((!decide (i.Places = 0)) && (!y)) == false) && (((((!decide (i.Low = 0)) || (!decide (i.High = 0))) || (!decide (i.Steps = 0))) || (decide (0 < (i.Zones.length : Int)))) == true)) false (ZT ([2] : List Int) i)).bind fun y2 =>
  (gd (((((!decide (i.Places = 0)) && (!y)) || (((((!decide (i.Low = 0)) || (!decide (i.High = 0))) || (!decide (i.Steps = 0))) || (decide (0 < (i.Zones.length : Int)))) && (!y2))) == false) && (((!decide (i.Op = 0)) || (!decide (i.N = 0))) == true)) false (ZT ([3, 5] : List Int) i)).bind fun y3 =>
  (gd ((((((!decide (i.Places = 0)) && (!y)) || (((((!decide (i.Low = 0)) || (!decide (i.High = 0))) || (!decide (i.Steps = 0))) || (decide (0 < (i.Zones.length : Int)))) && (!y2))) || (((!decide (i.Op = 0)) || (!decide (i.N = 0))) && (!y3))) == false) && (i.Latch == true)) false (ZT ([3] : List Int) i)).bind fun y4 =>
  (gd (((((((!decide (i.Places = 0)) && (!y)) || (((((!decide (i.Low = 0)) || (!decide (i.High = 0))) || (!decide (i.Steps = 0))) || (decide (0 < (i.Zones.length : Int)))) && (!y2))) || (((!decide (i.Op = 0)) || (!decide (i.N = 0))) && (!y3))) || (i.Latch && (!y4))) == false) && ((!decide (i.Size = 0)) == true)) false (ZT ([6] : List Int) i)).bind fun y5 =>
  some ((((((!decide (i.Places = 0)) && (!y)) || (((((!decide (i.Low = 0)) || (!decide (i.High = 0))) || (!decide (i.Steps = 0))) || (decide (0 < (i.Zones.length : Int)))) && (!y2))) || (((!decide (i.Op = 0)) || (!decide (i.N = 0))) && (!y3))) || (i.Latch && (!y4))) || ((!decide (i.Size = 0)) && (!y5)))

noncomputable def QL (n : Int) : Option Bool :=
  (ZV n (-1125899906842624) 1125899906842624).bind fun y =>
  some y

noncomputable def QH (i : api_Instrument) (i2 : Int) : Option ((Int) ⊕ (Int) ⊕ (Unit)) :=
  if (decide (i2 < (i.Zones.length : Int))) = true then
  (idx i.Zones i2).bind fun x =>
  (JF x.Name).bind fun y4 =>
  if (!y4) = true then
  some (.inr (.inl 8))
  else
  if (decide (x.To < x.From)) = true then
  some (.inr (.inl 9))
  else
  (gd ((decide (0 < i2)) == true) (api_Zone.mk 0 0 []) (idx i.Zones (i64 (i2 - 1)))).bind fun x2 =>
  if ((decide (0 < i2)) && (decide (x.From ≤ x2.To))) = true then
  some (.inr (.inl 10))
  else
  some (.inl (i64 (i2 + 1)))
  else
  some (.inr (.inr ()))

noncomputable def XV (i : api_Instrument) : Option Int :=
  (gd ((decide (i.High ≤ i.Low)) == false) false (QL i.Low)).bind fun y =>
  (gd (((decide (i.High ≤ i.Low)) || (!y)) == false) false (QL i.High)).bind fun y2 =>
  (gd ((((decide (i.High ≤ i.Low)) || (!y)) || (!y2)) == false) false (ZV i.Steps 1 1000)).bind fun y3 =>
  if ((((decide (i.High ≤ i.Low)) || (!y)) || (!y2)) || (!y3)) = true then
  some 9
  else
  if (decide (10 < (i.Zones.length : Int))) = true then
  some 3
  else
  ((loop (t1 (QH i)) 0) : Option ((Int) ⊕ (Unit))).bind (Sum.elim (fun q' => some q') (t0 (some 0)))

noncomputable def Qz (i : api_Instrument) : Option Int :=
  (ZV i.Kind 1 6).bind fun y =>
  if (!y) = true then
  some 7
  else
  (JF i.Name).bind fun y2 =>
  (gd ((!y2) == false) false (ZV (i.Track.length : Int) 1 30)).bind fun y3 =>
  if ((!y2) || (!y3)) = true then
  some 8
  else
  (Zan i).bind fun y4 =>
  if y4 = true then
  some 2
  else
  (ZV i.Places 0 6).bind fun y5 =>
  if (!y5) = true then
  some 9
  else
  if (decide (i.Kind = 2)) = true then
  (XV i).bind fun y6 =>
  some y6
  else
  ((if (decide (i.Kind = 3)) = true then
  some (decide (i.Kind = 3))
  else
  some (decide (i.Kind = 5))) : Option ((Bool))).bind (t1 fun (v : Bool) =>
  if v = true then
  (ZV i.Op 1 6).bind fun y7 =>
  if (!y7) = true then
  some 7
  else
  (QL i.N).bind fun y8 =>
  if (!y8) = true then
  some 9
  else
  some 0
  else
  if (decide (i.Kind = 6)) = true then
  (ZV i.Size 1 50).bind fun y9 =>
  if (!y9) = true then
  some 9
  else
  some 0
  else
  some 0)

noncomputable def Zv (s : List api_Instrument) (f : api_Instrument → Option Bool) (i : Int) : Option ((Int) ⊕ (Int) ⊕ (Unit)) :=
  if (decide (i < (s.length : Int))) = true then
  (idx s i).bind fun x =>
  (f x).bind fun y =>
  if y = true then
  some (.inr (.inl i))
  else
  some (.inl (i64 (i + 1)))
  else
  some (.inr (.inr ()))

noncomputable def ZG (s : List api_Instrument) (f : api_Instrument → Option Bool) : Option Int :=
  ((loop (t1 (Zv s f)) 0) : Option ((Int) ⊕ (Unit))).bind (Sum.elim (fun q' => some q') (t0 (some (-1))))

noncomputable def Zp (s : List api_Instrument) (f : api_Instrument → Option Bool) : Option Bool :=
  (ZG s f).bind fun y =>
  some (decide (0 ≤ y))

noncomputable def ZaQ (x : api_Instrument) (c0 : api_Instrument) : Option Bool :=
  some (decide (x.Name = c0.Name))

noncomputable def XN (p : api_Panel) (i : Int) : Option ((Int) ⊕ (Int) ⊕ (Unit)) :=
  if (decide (i < (p.Instruments.length : Int))) = true then
  (idx p.Instruments i).bind fun x =>
  (Qz x).bind fun y =>
  if (!decide (y = 0)) = true then
  some (.inr (.inl y))
  else
  (slc p.Instruments 0 i).bind fun l =>
  (Zp l (fun z0 => ZaQ z0 x)).bind fun y2 =>
  if y2 = true then
  some (.inr (.inl 5))
  else
  some (.inl (i64 (i + 1)))
  else
  some (.inr (.inr ()))

noncomputable def JH (p : api_Panel) : Option Int :=
  if (decide (100 < (p.Instruments.length : Int))) = true then
  some 3
  else
  ((loop (t1 (XN p)) 0) : Option ((Int) ⊕ (Unit))).bind (Sum.elim (fun q' => some q') (t0 (some 0)))

noncomputable def JI (n : Int) (low : Int) (high : Int) : Option Bool :=
  some ((decide (low ≤ n)) && (decide (n ≤ high)))

noncomputable def Zap (s : Str) : Option Bool :=
  ((if (decide (s = [112, 104, 97, 115, 101])) = true then
  some (decide (s = [112, 104, 97, 115, 101]))
  else
  if (decide (s = [109, 111, 118, 101])) = true then
  some (decide (s = [109, 111, 118, 101]))
  else
  if (decide (s = [114, 117, 108, 101])) = true then
  some (decide (s = [114, 117, 108, 101]))
  else
  if (decide (s = [105, 102])) = true then
  some (decide (s = [105, 102]))
  else
  if (decide (s = [111, 114])) = true then
  some (decide (s = [111, 114]))
  else
  if (decide (s = [97, 110, 100])) = true then
  some (decide (s = [97, 110, 100]))
  else
  if (decide (s = [116, 114, 117, 101])) = true then
  some (decide (s = [116, 114, 117, 101]))
  else
  if (decide (s = [102, 97, 108, 115, 101])) = true then
  some (decide (s = [102, 97, 108, 115, 101]))
  else
  if (decide (s = [115, 116, 101, 97, 100, 121])) = true then
  some (decide (s = [115, 116, 101, 97, 100, 121]))
  else
  if (decide (s = [110, 111, 116])) = true then
  some (decide (s = [110, 111, 116]))
  else
  if (decide (s = [102, 111, 114])) = true then
  some (decide (s = [102, 111, 114]))
  else
  if (decide (s = [119, 105, 116, 104, 105, 110])) = true then
  some (decide (s = [119, 105, 116, 104, 105, 110]))
  else
  if (decide (s = [99, 111, 117, 110, 116])) = true then
  some (decide (s = [99, 111, 117, 110, 116]))
  else
  if (decide (s = [111, 102])) = true then
  some (decide (s = [111, 102]))
  else
  if (decide (s = [114, 105, 115, 101, 115])) = true then
  some (decide (s = [114, 105, 115, 101, 115]))
  else
  some (decide (s = [115, 105, 110, 99, 101]))) : Option ((Bool))).bind (t1 fun (v : Bool) =>
  if v = true then
  some true
  else
  some false)

noncomputable def JY (c_ : Int) : Option Bool :=
  some ((((decide (97 ≤ c_)) && (decide (c_ ≤ 122))) || ((decide (48 ≤ c_)) && (decide (c_ ≤ 57)))) || (decide (c_ = 45)))

noncomputable def Xm (s : Str) (i : Int) : Option ((Int) ⊕ (Bool) ⊕ (Unit)) :=
  if (decide (i < (s.length : Int))) = true then
  (JQ s i).bind fun b3 =>
  (JY b3).bind fun y3 =>
  if (!y3) = true then
  some (.inr (.inl false))
  else
  some (.inl (i64 (i + 1)))
  else
  some (.inr (.inr ()))

noncomputable def Zav (s : Str) : Option Bool :=
  (JI (s.length : Int) 1 30).bind fun y =>
  (gd ((!y) == false) 0 (JQ s 0)).bind fun b =>
  (gd (((!y) || (decide (b < 97))) == false) 0 (JQ s 0)).bind fun b2 =>
  (gd ((((!y) || (decide (b < 97))) || (decide (122 < b2))) == false) false (Zap s)).bind fun y2 =>
  if ((((!y) || (decide (b < 97))) || (decide (122 < b2))) || y2) = true then
  some false
  else
  ((loop (t1 (Xm s)) 0) : Option ((Bool) ⊕ (Unit))).bind (Sum.elim (fun q' => some q') (t0 (some true)))

noncomputable def Zs (s : List api_Track) (f : api_Track → Option Bool) (i : Int) : Option ((Int) ⊕ (Int) ⊕ (Unit)) :=
  if (decide (i < (s.length : Int))) = true then
  (idx s i).bind fun x =>
  (f x).bind fun y =>
  if y = true then
  some (.inr (.inl i))
  else
  some (.inl (i64 (i + 1)))
  else
  some (.inr (.inr ()))

noncomputable def ZH (s : List api_Track) (f : api_Track → Option Bool) : Option Int :=
  ((loop (t1 (Zs s f)) 0) : Option ((Int) ⊕ (Unit))).bind (Sum.elim (fun q' => some q') (t0 (some (-1))))

noncomputable def ZD (s : List api_Track) (f : api_Track → Option Bool) : Option Bool :=
  (ZH s f).bind fun y =>
  some (decide (0 ≤ y))

noncomputable def Xk (x : api_Track) (c0 : api_Track) : Option Bool :=
  some (decide (x.Name = c0.Name))

noncomputable def Xz (n : Int) (low : Int) (high : Int) : Option Bool :=
  some ((decide (low ≤ n)) && (decide (n ≤ high)))

noncomputable def XX (s : api_Series) (i : Int) : Option ((Int) ⊕ (Int × Int) ⊕ (Unit)) :=
  if (decide (i < (s.Samples.length : Int))) = true then
  (idx s.Samples i).bind fun x =>
  (Xz x.At 0 1099511627776).bind fun y2 =>
  (gd ((!y2) == false) false (Xz x.N (-1125899906842624) 1125899906842624)).bind fun y3 =>
  (gd (((!y2) || (!y3)) == false) false (Xz x.Mark 0 4)).bind fun y4 =>
  if (((!y2) || (!y3)) || (!y4)) = true then
  some (.inr (.inl (i, 9)))
  else
  if ((!decide (x.N = 0)) && (decide (x.Mark ≤ 1))) = true then
  some (.inr (.inl (i, 2)))
  else
  (gd ((decide (0 < i)) == true) (api_Sample.mk 0 0 0) (idx s.Samples (i64 (i - 1)))).bind fun x2 =>
  if ((decide (0 < i)) && (decide (x.At ≤ x2.At))) = true then
  some (.inr (.inl (i, 10)))
  else
  some (.inl (i64 (i + 1)))
  else
  some (.inr (.inr ()))

noncomputable def Zau (s : api_Series) : Option (Int × Int) :=
  (Xz s.Den 1 1000000).bind fun y =>
  if (!y) = true then
  some ((-1), 9)
  else
  if (decide (20000 < (s.Samples.length : Int))) = true then
  some ((-1), 3)
  else
  ((loop (t1 (XX s)) 0) : Option ((Int × Int) ⊕ (Unit))).bind (Sum.elim (fun q' => some q') (t0 (some ((-1), 0))))

noncomputable def Zaz (s : api_Series) : Option Int :=
  (Zau s).bind fun y =>
  some y.2

noncomputable def Qr (l : List api_Track) (i : Int) : Option ((Int) ⊕ (Int) ⊕ (Unit)) :=
  if (decide (i < (l.length : Int))) = true then
  (idx l i).bind fun x =>
  (Zav x.Name).bind fun y =>
  if (!y) = true then
  some (.inr (.inl 8))
  else
  (slc l 0 i).bind fun l2 =>
  (ZD l2 (fun z0 => Xk z0 x)).bind fun y2 =>
  if y2 = true then
  some (.inr (.inl 5))
  else
  (Zaz x.Series).bind fun y3 =>
  if (!decide (y3 = 0)) = true then
  some (.inr (.inl y3))
  else
  (JI x.Long 0 1099511627776).bind fun y4 =>
  if (!y4) = true then
  some (.inr (.inl 9))
  else
  some (.inl (i64 (i + 1)))
  else
  some (.inr (.inr ()))

noncomputable def Xc (l : List api_Track) : Option Int :=
  if (decide (50 < (l.length : Int))) = true then
  some 3
  else
  ((loop (t1 (Qr l)) 0) : Option ((Int) ⊕ (Unit))).bind (Sum.elim (fun q' => some q') (t0 (some 0)))

noncomputable def X3 (t : api_Track) (c0 : api_Instrument) : Option Bool :=
  some (decide (t.Name = c0.Track))

noncomputable def QI (l : List api_Track) (i : api_Instrument) : Option Int :=
  (ZH l (fun z0 => X3 z0 i)).bind fun y =>
  some y

noncomputable def Xd (i : api_Instrument) (c0 : List api_Track) : Option Bool :=
  (QI c0 i).bind fun y =>
  some (decide (y < 0))

noncomputable def QU (p : api_Panel) (l : List api_Track) : Option Int :=
  (JH p).bind fun y =>
  if (!decide (y = 0)) = true then
  some y
  else
  (Xc l).bind fun y2 =>
  if (!decide (y2 = 0)) = true then
  some y2
  else
  (Zp p.Instruments (fun z0 => Xd z0 l)).bind fun y3 =>
  if y3 = true then
  some 4
  else
  some 0

noncomputable def Qi (s : List Int) (f : Int → Option Bool) (i : Int) : Option ((Int) ⊕ (Int) ⊕ (Unit)) :=
  if (decide (i < (s.length : Int))) = true then
  (idx s i).bind fun x =>
  (f x).bind fun y =>
  if y = true then
  some (.inr (.inl i))
  else
  some (.inl (i64 (i + 1)))
  else
  some (.inr (.inr ()))

noncomputable def XD (s : List Int) (f : Int → Option Bool) : Option Int :=
  ((loop (t1 (Qi s f)) 0) : Option ((Int) ⊕ (Unit))).bind (Sum.elim (fun q' => some q') (t0 (some (-1))))

noncomputable def Qj (s : List Int) (f : Int → Option Bool) : Option Bool :=
  (XD s f).bind fun y =>
  some (decide (0 ≤ y))

noncomputable def Za0 (n : Int) : Option Bool :=
  (QL n).bind fun y =>
  some (!y)

noncomputable def ZaL (i : api_Instrument) (m : api_Memo) : Option Int :=
  if (((((m.Lit && (!((decide (i.Kind = 3)) || (decide (i.Kind = 5))))) || ((m.Some || (!decide (m.N = 0))) && (!(decide (i.Kind = 4))))) || ((!decide (m.Count = 0)) && (!(decide (i.Kind = 5))))) || ((decide (0 < (m.Tape.length : Int))) && (!(decide (i.Kind = 6))))) || ((!decide (m.N = 0)) && (!m.Some))) = true then
  some 2
  else
  (ZV m.Count 0 20000).bind fun y =>
  (gd ((!y) == false) false (QL m.N)).bind fun y2 =>
  if ((!y) || (!y2)) = true then
  some 9
  else
  if (decide (i.Size < (m.Tape.length : Int))) = true then
  some 3
  else
  (Qj m.Tape (fun z0 => Za0 z0)).bind fun y3 =>
  if y3 = true then
  some 9
  else
  some 0

noncomputable def Xi (p : api_Panel) (s : api_PanelState) (i : Int) : Option ((Int) ⊕ (Int) ⊕ (Unit)) :=
  if (decide (i < (s.Memos.length : Int))) = true then
  (idx s.Memos i).bind fun x =>
  (idx p.Instruments i).bind fun x2 =>
  (ZaL x2 x).bind fun y2 =>
  if (!decide (y2 = 0)) = true then
  some (.inr (.inl y2))
  else
  some (.inl (i64 (i + 1)))
  else
  some (.inr (.inr ()))

noncomputable def Xu (p : api_Panel) (s : api_PanelState) : Option Int :=
  (ZV s.Frame (-1) 19999).bind fun y =>
  if (!y) = true then
  some 9
  else
  if (!decide ((s.Memos.length : Int) = (p.Instruments.length : Int))) = true then
  some 2
  else
  ((loop (t1 (Xi p s)) 0) : Option ((Int) ⊕ (Unit))).bind (Sum.elim (fun q' => some q') (t0 (some 0)))

noncomputable def Zw (x : List api_Sample) (target : Int) (cmp : api_Sample → Int → Option Int) (i2 : Int) (j : Int) : Option ((Int × Int) ⊕ (Int)) :=
  if (decide (i2 < j)) = true then
  (shr .u64 (u64 (i64 (i2 + j))) 1).bind fun q =>
  (idx x (i64 q)).bind fun x2 =>
  (cmp x2 target).bind fun y =>
  if (decide (y < 0)) = true then
  some (.inl ((i64 ((i64 q) + 1)), j))
  else
  some (.inl (i2, (i64 q)))
  else
  some (.inr i2)

noncomputable def Zy (x : List api_Sample) (target : Int) (cmp : api_Sample → Int → Option Int) : Option (Int × Bool) :=
  ((loop (t2 (Zw x target cmp)) (0, (x.length : Int))) : Option ((Int))).bind (t1 fun (i : Int) =>
  (gd ((decide (i < (x.length : Int))) == true) (api_Sample.mk 0 0 0) (idx x i)).bind fun x3 =>
  (gd ((decide (i < (x.length : Int))) == true) 0 (cmp x3 target)).bind fun y2 =>
  some (i, ((decide (i < (x.length : Int))) && (decide (y2 = 0)))))

noncomputable def QT (x : api_Sample) (at_ : Int) : Option Int :=
  some (i64 (x.At - at_))

noncomputable def JL (s : api_Series) (at_ : Int) : Option Int :=
  (Zy s.Samples at_ (fun z0 z1 => QT z0 z1)).bind fun y =>
  if y.2 = true then
  some y.1
  else
  some (i64 (y.1 - 1))

noncomputable def Zbu (x : api_Sample) : Option Bool :=
  some (decide (3 ≤ x.Mark))

noncomputable def Zbm (s : api_Series) (at_ : Int) (long : Int) : Option (api_Sample × Bool) :=
  (JL s at_).bind fun y =>
  (gd ((decide (y < 0)) == false) (api_Sample.mk 0 0 0) (idx s.Samples y)).bind fun x =>
  (gd ((decide (y < 0)) == false) false (Zbu x)).bind fun y2 =>
  (gd (((decide (y < 0)) || (!y2)) == false) (api_Sample.mk 0 0 0) (idx s.Samples y)).bind fun x2 =>
  if (((decide (y < 0)) || (!y2)) || (decide (long < (i64 (at_ - x2.At))))) = true then
  some ((api_Sample.mk 0 0 0), false)
  else
  (idx s.Samples y).bind fun x3 =>
  some (x3, true)

noncomputable def ZbQ (s : api_Series) (at_ : Int) (long : Int) : Option (api_Sample × Bool) :=
  (Zbm s at_ long).bind fun y =>
  some (y.1, y.2)

noncomputable def JB (t : api_Track) (frame : Int) : Option (api_Sample × Bool) :=
  (ZbQ t.Series (i64 ((i64 ((i64 (64 * frame)) + 64)) - 1)) t.Long).bind fun y =>
  some (y.1, y.2)

noncomputable def Zah (op : Int) (a : Int) (b : Int) : Option Bool :=
  if (decide (op = 1)) = true then
  some (decide (a < b))
  else
  if (decide (op = 2)) = true then
  some (decide (a ≤ b))
  else
  if (decide (op = 3)) = true then
  some (decide (a = b))
  else
  if (decide (op = 4)) = true then
  some (!decide (a = b))
  else
  if (decide (op = 5)) = true then
  some (decide (b ≤ a))
  else
  some (decide (b < a))

noncomputable def Q1 (out2 : List Int) (i : Int) : Option (((List Int) × Int) ⊕ ((List Int))) :=
  if (decide ((i64 (i + 2)) ≤ (out2.length : Int))) = true then
  (slp out2 i (i64 (i + 2))).bind fun u =>
  (ck (decide (2 ≤ Int.toNat ((i64 (i + 2)) - i)))).bind fun u2 =>
  (ck (decide ((0 : Int) ≤ 1) && decide (1 < (2 : Int)))).bind fun u3 =>
  (idx out2 (i + 1)).bind fun x =>
  (ck (decide ((0 : Int) ≤ 0) && decide (0 < (2 : Int)))).bind fun u4 =>
  (idx out2 (i + 0)).bind fun x2 =>
  some (.inl ((out2.set (i + 0).toNat x), (i64 (i + 1))))
  else
  some (.inr out2)

noncomputable def JS (tape : List Int) (size : Int) (n : Int) : Option (List Int) :=
  (ZaG tape).bind fun y =>
  (app y ([n] : List Int)).bind fun l =>
  if (decide ((l.length : Int) ≤ size)) = true then
  some l
  else
  ((loop (t2 (Q1)) (l, 0)) : Option (((List Int)))).bind (t1 fun (out : List Int) =>
  (slc out 0 (i64 ((out.length : Int) - 1))).bind fun l2 =>
  some l2)

noncomputable def QW (i : api_Instrument) (m : api_Memo) (n : Int) (known : Bool) : Option api_Memo :=
  (gd ((known && ((decide (i.Kind = 3)) || (decide (i.Kind = 5)))) == true) false (Zah i.Op n i.N)).bind fun y =>
  ((if (decide (i.Kind = 3)) = true then
  some (api_Memo.mk (((known && ((decide (i.Kind = 3)) || (decide (i.Kind = 5)))) && y) || (i.Latch && m.Lit)) m.Some m.N m.Count m.Tape)
  else
  if (decide (i.Kind = 5)) = true then
  if (((known && ((decide (i.Kind = 3)) || (decide (i.Kind = 5)))) && y) && (!m.Lit)) = true then
  some (api_Memo.mk ((known && ((decide (i.Kind = 3)) || (decide (i.Kind = 5)))) && y) m.Some m.N (i64 (m.Count + 1)) m.Tape)
  else
  some (api_Memo.mk ((known && ((decide (i.Kind = 3)) || (decide (i.Kind = 5)))) && y) m.Some m.N m.Count m.Tape)
  else
  if ((decide (i.Kind = 4)) && known) = true then
  ((if m.Some = true then
  some (max n m.N)
  else
  some n) : Option ((Int))).bind (t1 fun (n2 : Int) =>
  some (api_Memo.mk m.Lit true n2 m.Count m.Tape))
  else
  if ((decide (i.Kind = 6)) && known) = true then
  (JS m.Tape i.Size n).bind fun y2 =>
  some (api_Memo.mk m.Lit m.Some m.N m.Count y2)
  else
  some m) : Option ((api_Memo))).bind (t1 fun (m2 : api_Memo) =>
  some m2)

noncomputable def QK (p : api_Panel) (l : List api_Track) (s : api_PanelState) (Memos2 : List api_Memo) (i : Int) : Option (((List api_Memo) × Int) ⊕ ((List api_Memo))) :=
  if (decide (i < (p.Instruments.length : Int))) = true then
  (idx p.Instruments i).bind fun x =>
  (QI l x).bind fun y =>
  (idx l y).bind fun x2 =>
  (JB x2 (i64 (s.Frame + 1))).bind fun y2 =>
  (idx s.Memos i).bind fun x3 =>
  (ZaG x3.Tape).bind fun y3 =>
  (QW x (api_Memo.mk x3.Lit x3.Some x3.N x3.Count y3) y2.1.N y2.2).bind fun y4 =>
  (app Memos2 ([y4] : List api_Memo)).bind fun l2 =>
  some (.inl (l2, (i64 (i + 1))))
  else
  some (.inr Memos2)

noncomputable def Q8 (p : api_Panel) (l : List api_Track) (s : api_PanelState) : Option api_PanelState :=
  ((loop (t2 (QK p l s)) ([], 0)) : Option (((List api_Memo)))).bind (t1 fun (Memos : List api_Memo) =>
  some (api_PanelState.mk (i64 (s.Frame + 1)) Memos))

noncomputable def ZbA (p : api_Panel) (l : List api_Track) (s : api_PanelState) : Option (api_PanelState × Int) :=
  (QU p l).bind fun y =>
  if (!decide (y = 0)) = true then
  some ((api_PanelState.mk 0 []), y)
  else
  (Xu p s).bind fun y2 =>
  if (!decide (y2 = 0)) = true then
  some ((api_PanelState.mk 0 []), y2)
  else
  if (decide (s.Frame = 19999)) = true then
  some ((api_PanelState.mk 0 []), 9)
  else
  (Q8 p l s).bind fun y3 =>
  some (y3, 0)

noncomputable def Z1 (n : Int) (low : Int) (high : Int) : Option Bool :=
  some ((decide (n < low)) || (decide (high < n)))

noncomputable def Zab (s : Str) (i : Int) : Option ((Int) ⊕ (Bool) ⊕ (Unit)) :=
  if (decide (i < (s.length : Int))) = true then
  (JQ s i).bind fun b =>
  if (!((((decide (97 ≤ b)) && (decide (b ≤ 122))) || ((decide (48 ≤ b)) && (decide (b ≤ 57)))) || (decide (b = 45)))) = true then
  some (.inr (.inl false))
  else
  some (.inl (i64 (i + 1)))
  else
  some (.inr (.inr ()))

noncomputable def ZbR (s : Str) : Option Bool :=
  ((loop (t1 (Zab s)) 0) : Option ((Bool) ⊕ (Unit))).bind (Sum.elim (fun q' => some q') (t0 (some ((decide (1 ≤ (s.length : Int))) && (decide ((s.length : Int) ≤ 30))))))

noncomputable def ZbS (kind : Int) (l : List Int) (i : Int) : Option ((Int) ⊕ (Bool) ⊕ (Unit)) :=
  if (decide (i < (l.length : Int))) = true then
  (idx l i).bind fun x =>
  if (decide (x = kind)) = true then
  some (.inr (.inl true))
  else
  some (.inl (i64 (i + 1)))
  else
  some (.inr (.inr ()))

noncomputable def ZcV (kind : Int) (l : List Int) : Option Bool :=
  ((loop (t1 (ZbS kind l)) 0) : Option ((Bool) ⊕ (Unit))).bind (Sum.elim (fun q' => some q') (t0 (some false)))

noncomputable def ZcX (i : api_Instrument) : Option Bool :=
  (gd ((!decide (i.Places = 0)) == true) false (ZcV i.Kind ([1, 4, 6] : List Int))).bind fun y =>
  if ((!decide (i.Places = 0)) && (!y)) = true then
  some true
  else
  if ((!(decide (i.Kind = 2))) && ((((!decide (i.Low = 0)) || (!decide (i.High = 0))) || (!decide (i.Steps = 0))) || (decide (0 < (i.Zones.length : Int))))) = true then
  some true
  else
  (gd (((!decide (i.Op = 0)) || (!decide (i.N = 0))) == true) false (ZcV i.Kind ([3, 5] : List Int))).bind fun y2 =>
  if (((!decide (i.Op = 0)) || (!decide (i.N = 0))) && (!y2)) = true then
  some true
  else
  if (i.Latch && (!decide (i.Kind = 3))) = true then
  some true
  else
  some ((!decide (i.Size = 0)) && (!decide (i.Kind = 6)))

noncomputable def XS (i : api_Instrument) (i2 : Int) : Option ((Int) ⊕ (Int) ⊕ (Unit)) :=
  if (decide (i2 < (i.Zones.length : Int))) = true then
  (idx i.Zones i2).bind fun x =>
  (ZbR x.Name).bind fun y4 =>
  if (!y4) = true then
  some (.inr (.inl 8))
  else
  if (decide (x.To < x.From)) = true then
  some (.inr (.inl 9))
  else
  (gd ((decide (0 < i2)) == true) (api_Zone.mk 0 0 []) (idx i.Zones (i64 (i2 - 1)))).bind fun x2 =>
  if ((decide (0 < i2)) && (decide (x.From ≤ x2.To))) = true then
  some (.inr (.inl 10))
  else
  some (.inl (i64 (i2 + 1)))
  else
  some (.inr (.inr ()))

noncomputable def Zbb (i : api_Instrument) : Option Int :=
  (gd ((decide (i.High ≤ i.Low)) == false) false (Z1 i.Low (-1125899906842624) 1125899906842624)).bind fun y =>
  (gd (((decide (i.High ≤ i.Low)) || y) == false) false (Z1 i.High (-1125899906842624) 1125899906842624)).bind fun y2 =>
  (gd ((((decide (i.High ≤ i.Low)) || y) || y2) == false) false (Z1 i.Steps 1 1000)).bind fun y3 =>
  if ((((decide (i.High ≤ i.Low)) || y) || y2) || y3) = true then
  some 9
  else
  if (decide (10 < (i.Zones.length : Int))) = true then
  some 3
  else
  ((loop (t1 (XS i)) 0) : Option ((Int) ⊕ (Unit))).bind (Sum.elim (fun q' => some q') (t0 (some 0)))

noncomputable def XL (i : api_Instrument) : Option Int :=
  (Z1 i.Kind 1 6).bind fun y =>
  if y = true then
  some 7
  else
  (ZbR i.Name).bind fun y2 =>
  if (((!y2) || (decide (i.Track = []))) || (decide (30 < (i.Track.length : Int)))) = true then
  some 8
  else
  (ZcX i).bind fun y3 =>
  if y3 = true then
  some 2
  else
  (Z1 i.Places 0 6).bind fun y4 =>
  if y4 = true then
  some 9
  else
  if (decide (i.Kind = 2)) = true then
  (Zbb i).bind fun y5 =>
  some y5
  else
  ((if (decide (i.Kind = 3)) = true then
  some (decide (i.Kind = 3))
  else
  some (decide (i.Kind = 5))) : Option ((Bool))).bind (t1 fun (v : Bool) =>
  if v = true then
  (Z1 i.Op 1 6).bind fun y6 =>
  if y6 = true then
  some 7
  else
  (Z1 i.N (-1125899906842624) 1125899906842624).bind fun y7 =>
  if y7 = true then
  some 9
  else
  some 0
  else
  if (decide (i.Kind = 6)) = true then
  (Z1 i.Size 1 50).bind fun y8 =>
  if y8 = true then
  some 9
  else
  some 0
  else
  some 0)

noncomputable def JP (x : api_Instrument) (l : List api_Instrument) (i2 : Int) : Option ((Int) ⊕ (Int) ⊕ (Unit)) :=
  if (decide (i2 < (l.length : Int))) = true then
  (idx l i2).bind fun x2 =>
  if (decide (x2.Name = x.Name)) = true then
  some (.inr (.inl 5))
  else
  some (.inl (i64 (i2 + 1)))
  else
  some (.inr (.inr ()))

noncomputable def ZaU (p : api_Panel) (i : Int) : Option ((Int) ⊕ (Int) ⊕ (Unit)) :=
  if (decide (i < (p.Instruments.length : Int))) = true then
  (((idx p.Instruments i).bind fun x =>
  (XL x).bind fun y =>
  if (!decide (y = 0)) = true then
  some (.inl y)
  else
  (slc p.Instruments 0 i).bind fun l =>
  loop (t1 (JP x l)) 0) : Option ((Int) ⊕ (Unit))).bind (Sum.elim (fun q' => some (.inr (.inl q'))) (t0 (some (.inl (i64 (i + 1))))))
  else
  some (.inr (.inr ()))

noncomputable def ZbK (p : api_Panel) : Option Int :=
  if (decide (100 < (p.Instruments.length : Int))) = true then
  some 3
  else
  ((loop (t1 (ZaU p)) 0) : Option ((Int) ⊕ (Unit))).bind (Sum.elim (fun q' => some q') (t0 (some 0)))

noncomputable def Ze7  : Option (List Str) :=
  some ([[112, 104, 97, 115, 101], [109, 111, 118, 101], [114, 117, 108, 101], [105, 102], [111, 114], [97, 110, 100], [116, 114, 117, 101], [102, 97, 108, 115, 101], [115, 116, 101, 97, 100, 121], [110, 111, 116], [102, 111, 114], [119, 105, 116, 104, 105, 110], [99, 111, 117, 110, 116], [111, 102], [114, 105, 115, 101, 115], [115, 105, 110, 99, 101]] : List Str)

noncomputable def JZ (s : Str) (y : (List Str)) (i : Int) : Option ((Int) ⊕ (Bool) ⊕ (Unit)) :=
  if (decide (i < (y.length : Int))) = true then
  (idx y i).bind fun x =>
  if (decide (x = s)) = true then
  some (.inr (.inl true))
  else
  some (.inl (i64 (i + 1)))
  else
  some (.inr (.inr ()))

noncomputable def Zbz (s : Str) : Option Bool :=
  (Ze7).bind fun y =>
  ((loop (t1 (JZ s y)) 0) : Option ((Bool) ⊕ (Unit))).bind (Sum.elim (fun q' => some q') (t0 (some false)))

noncomputable def Zaa (s : Str) (i : Int) : Option ((Int) ⊕ (Bool) ⊕ (Unit)) :=
  if (decide (i < (s.length : Int))) = true then
  (JQ s i).bind fun b =>
  if (!(((decide (97 ≤ b)) && (decide (b ≤ 122))) || ((decide (0 < i)) && (((decide (48 ≤ b)) && (decide (b ≤ 57))) || (decide (b = 45)))))) = true then
  some (.inr (.inl false))
  else
  some (.inl (i64 (i + 1)))
  else
  some (.inr (.inr ()))

noncomputable def ZcP (s : Str) : Option Bool :=
  ((loop (t1 (Zaa s)) 0) : Option ((Bool) ⊕ (Unit))).bind (Sum.elim (fun q' => some q') (t0 ((gd (((!decide (s = [])) && (decide ((s.length : Int) ≤ 30))) == true) false (Zbz s)).bind fun y =>
  some (((!decide (s = [])) && (decide ((s.length : Int) ≤ 30))) && (!y)))))

noncomputable def XB (n : Int) (low : Int) (high : Int) : Option Bool :=
  some ((decide (n < low)) || (decide (high < n)))

noncomputable def ZcM (mark : Int) : Option Bool :=
  some (decide (2 ≤ mark))

noncomputable def J5 (s : api_Sample) : Option Int :=
  (XB s.At 0 1099511627776).bind fun y =>
  (gd (y == false) false (XB s.N (-1125899906842624) 1125899906842624)).bind fun y2 =>
  (gd ((y || y2) == false) false (XB s.Mark 0 4)).bind fun y3 =>
  if ((y || y2) || y3) = true then
  some 9
  else
  (gd ((!decide (s.N = 0)) == true) false (ZcM s.Mark)).bind fun y4 =>
  if ((!decide (s.N = 0)) && (!y4)) = true then
  some 2
  else
  some 0

noncomputable def ZbB (s : api_Series) (i : Int) : Option ((Int) ⊕ (Int × Int) ⊕ (Unit)) :=
  if (decide (i < (s.Samples.length : Int))) = true then
  (idx s.Samples i).bind fun x =>
  (J5 x).bind fun y2 =>
  if (!decide (y2 = 0)) = true then
  some (.inr (.inl (i, y2)))
  else
  (gd ((decide (0 < i)) == true) (api_Sample.mk 0 0 0) (idx s.Samples i)).bind fun x2 =>
  (gd ((decide (0 < i)) == true) (api_Sample.mk 0 0 0) (idx s.Samples (i64 (i - 1)))).bind fun x3 =>
  if ((decide (0 < i)) && (decide (x2.At ≤ x3.At))) = true then
  some (.inr (.inl (i, 10)))
  else
  some (.inl (i64 (i + 1)))
  else
  some (.inr (.inr ()))

noncomputable def ZdK (s : api_Series) : Option (Int × Int) :=
  (XB s.Den 1 1000000).bind fun y =>
  if y = true then
  some ((-1), 9)
  else
  if (decide (20000 < (s.Samples.length : Int))) = true then
  some ((-1), 3)
  else
  ((loop (t1 (ZbB s)) 0) : Option ((Int × Int) ⊕ (Unit))).bind (Sum.elim (fun q' => some q') (t0 (some ((-1), 0))))

noncomputable def ZcI (s : api_Series) : Option Int :=
  (ZdK s).bind fun y =>
  some y.2

noncomputable def Zdj (n : Int) (low : Int) (high : Int) : Option Bool :=
  some ((decide (n < low)) || (decide (high < n)))

noncomputable def QO (l : List api_Track) (i : Int) (k : Int) : Option ((Int) ⊕ (Int) ⊕ (Unit)) :=
  if (decide (k < i)) = true then
  (idx l k).bind fun x2 =>
  (idx l i).bind fun x3 =>
  if (decide (x2.Name = x3.Name)) = true then
  some (.inr (.inl 5))
  else
  some (.inl (i64 (k + 1)))
  else
  some (.inr (.inr ()))

noncomputable def Xj (l : List api_Track) (i : Int) : Option ((Int) ⊕ (Int) ⊕ (Unit)) :=
  if (decide (i < (l.length : Int))) = true then
  (idx l i).bind fun x =>
  (ZcP x.Name).bind fun y =>
  if (!y) = true then
  some (.inr (.inl 8))
  else
  ((loop (t1 (QO l i)) 0) : Option ((Int) ⊕ (Unit))).bind (Sum.elim (fun q' => some (.inr (.inl q'))) (t0 ((idx l i).bind fun x4 =>
  (ZcI x4.Series).bind fun y2 =>
  if (!decide (y2 = 0)) = true then
  some (.inr (.inl y2))
  else
  (idx l i).bind fun x5 =>
  (Zdj x5.Long 0 1099511627776).bind fun y3 =>
  if y3 = true then
  some (.inr (.inl 9))
  else
  some (.inl (i64 (i + 1))))))
  else
  some (.inr (.inr ()))

noncomputable def Zae (l : List api_Track) : Option Int :=
  if (decide (50 < (l.length : Int))) = true then
  some 3
  else
  ((loop (t1 (Xj l)) 0) : Option ((Int) ⊕ (Unit))).bind (Sum.elim (fun q' => some q') (t0 (some 0)))

noncomputable def ZaN (l : List api_Track) (name : Str) (i : Int) : Option ((Int) ⊕ (api_Track × Bool) ⊕ (Unit)) :=
  if (decide (i < (l.length : Int))) = true then
  (idx l i).bind fun x =>
  if (decide (x.Name = name)) = true then
  some (.inr (.inl (x, true)))
  else
  some (.inl (i64 (i + 1)))
  else
  some (.inr (.inr ()))

noncomputable def JO (l : List api_Track) (name : Str) : Option (api_Track × Bool) :=
  ((loop (t1 (ZaN l name)) 0) : Option ((api_Track × Bool) ⊕ (Unit))).bind (Sum.elim (fun q' => some q') (t0 (some ((api_Track.mk [] (api_Series.mk 0 []) 0), false))))

noncomputable def ZaR (p : api_Panel) (l : List api_Track) (i : Int) : Option ((Int) ⊕ (Int) ⊕ (Unit)) :=
  if (decide (i < (p.Instruments.length : Int))) = true then
  (idx p.Instruments i).bind fun x =>
  (JO l x.Track).bind fun y3 =>
  if (!y3.2) = true then
  some (.inr (.inl 4))
  else
  some (.inl (i64 (i + 1)))
  else
  some (.inr (.inr ()))

noncomputable def Zcr (p : api_Panel) (l : List api_Track) : Option Int :=
  (ZbK p).bind fun y =>
  if (!decide (y = 0)) = true then
  some y
  else
  (Zae l).bind fun y2 =>
  if (!decide (y2 = 0)) = true then
  some y2
  else
  ((loop (t1 (ZaR p l)) 0) : Option ((Int) ⊕ (Unit))).bind (Sum.elim (fun q' => some q') (t0 (some 0)))

noncomputable def XU (m : api_Memo) (i2 : Int) : Option ((Int) ⊕ (Int) ⊕ (Unit)) :=
  if (decide (i2 < (m.Tape.length : Int))) = true then
  (idx m.Tape i2).bind fun x =>
  (Z1 x (-1125899906842624) 1125899906842624).bind fun y4 =>
  if y4 = true then
  some (.inr (.inl 9))
  else
  some (.inl (i64 (i2 + 1)))
  else
  some (.inr (.inr ()))

noncomputable def Za6 (i : api_Instrument) (m : api_Memo) : Option Int :=
  (gd (m.Lit == true) false (ZcV i.Kind ([3, 5] : List Int))).bind fun y =>
  if (((((m.Lit && (!y)) || (m.Some && (!decide (i.Kind = 4)))) || ((!decide (m.N = 0)) && (!m.Some))) || ((!decide (m.Count = 0)) && (!decide (i.Kind = 5)))) || ((decide (0 < (m.Tape.length : Int))) && (!decide (i.Kind = 6)))) = true then
  some 2
  else
  (Z1 m.Count 0 20000).bind fun y2 =>
  if y2 = true then
  some 9
  else
  if (decide (i.Size < (m.Tape.length : Int))) = true then
  some 3
  else
  (Z1 m.N (-1125899906842624) 1125899906842624).bind fun y3 =>
  if y3 = true then
  some 9
  else
  ((loop (t1 (XU m)) 0) : Option ((Int) ⊕ (Unit))).bind (Sum.elim (fun q' => some q') (t0 (some 0)))

noncomputable def Xv (p : api_Panel) (s : api_PanelState) (i : Int) : Option ((Int) ⊕ (Int) ⊕ (Unit)) :=
  if (decide (i < (s.Memos.length : Int))) = true then
  (idx s.Memos i).bind fun x =>
  (idx p.Instruments i).bind fun x2 =>
  (Za6 x2 x).bind fun y3 =>
  if (!decide (y3 = 0)) = true then
  some (.inr (.inl y3))
  else
  some (.inl (i64 (i + 1)))
  else
  some (.inr (.inr ()))

noncomputable def XW (p : api_Panel) (s : api_PanelState) : Option Int :=
  (ZbK p).bind fun y =>
  if (!decide (y = 0)) = true then
  some y
  else
  (Z1 s.Frame (-1) 19999).bind fun y2 =>
  if y2 = true then
  some 9
  else
  if (!decide ((s.Memos.length : Int) = (p.Instruments.length : Int))) = true then
  some 2
  else
  ((loop (t1 (Xv p s)) 0) : Option ((Int) ⊕ (Unit))).bind (Sum.elim (fun q' => some q') (t0 (some 0)))

noncomputable def Ze9 (mark : Int) : Option Bool :=
  some (decide (3 ≤ mark))

noncomputable def Zb3 (s : api_Series) (at_ : Int) (low2 : Int) (high : Int) : Option ((Int × Int) ⊕ (Int)) :=
  if (decide (low2 < high)) = true then
  (quo .i64 (i64 (low2 + high)) 2).bind fun q =>
  (idx s.Samples q).bind fun x =>
  if (decide (x.At ≤ at_)) = true then
  some (.inl ((i64 (q + 1)), high))
  else
  some (.inl (low2, q))
  else
  some (.inr low2)

noncomputable def ZeR (s : api_Series) (at_ : Int) (long : Int) : Option (api_Sample × Bool) :=
  ((loop (t2 (Zb3 s at_)) (0, (s.Samples.length : Int))) : Option ((Int))).bind (t1 fun (low : Int) =>
  if (decide (low = 0)) = true then
  some ((api_Sample.mk 0 0 0), false)
  else
  (idx s.Samples (i64 (low - 1))).bind fun x2 =>
  (Ze9 x2.Mark).bind fun y =>
  if ((!y) || (decide (long < (i64 (at_ - x2.At))))) = true then
  some ((api_Sample.mk 0 0 0), false)
  else
  some (x2, true))

noncomputable def ZeA (s : api_Series) (at_ : Int) (long : Int) : Option (api_Sample × Bool × Int) :=
  (ZcI s).bind fun y =>
  if (!decide (y = 0)) = true then
  some ((api_Sample.mk 0 0 0), false, y)
  else
  (XB at_ 0 1099511627776).bind fun y2 =>
  (gd (y2 == false) false (XB long 0 1099511627776)).bind fun y3 =>
  if (y2 || y3) = true then
  some ((api_Sample.mk 0 0 0), false, 9)
  else
  (ZeR s at_ long).bind fun y4 =>
  some (y4.1, y4.2, 0)

noncomputable def Zay (t : api_Track) (frame : Int) : Option (api_Sample × Bool) :=
  (ZeA t.Series (i64 ((i64 (64 * frame)) + 63)) t.Long).bind fun y =>
  some (y.1, y.2.1)

noncomputable def ZcE (op : Int) (a : Int) (b : Int) : Option Bool :=
  if (decide (op = 1)) = true then
  some (decide (a < b))
  else
  if (decide (op = 2)) = true then
  some (decide (a ≤ b))
  else
  if (decide (op = 3)) = true then
  some (decide (a = b))
  else
  if (decide (op = 4)) = true then
  some (!decide (a = b))
  else
  if (decide (op = 5)) = true then
  some (decide (b ≤ a))
  else
  some (decide (b < a))

noncomputable def ZbC (i : api_Instrument) (m : api_Memo) (s : api_Sample) (known : Bool) : Option api_Memo :=
  (app ([] : List Int) m.Tape).bind fun l =>
  ((if ((decide (i.Kind = 3)) && known) = true then
  (ZcE i.Op s.N i.N).bind fun y =>
  some ((y || (i.Latch && m.Lit)), m.Some, m.N, m.Count, l)
  else
  if (decide (i.Kind = 3)) = true then
  some ((m.Lit && i.Latch), m.Some, m.N, m.Count, l)
  else
  if ((decide (i.Kind = 5)) && known) = true then
  (ZcE i.Op s.N i.N).bind fun y2 =>
  if (y2 && (!m.Lit)) = true then
  some (y2, m.Some, m.N, (i64 (m.Count + 1)), l)
  else
  some (y2, m.Some, m.N, m.Count, l)
  else
  if (decide (i.Kind = 5)) = true then
  some (false, m.Some, m.N, m.Count, l)
  else
  if ((decide (i.Kind = 4)) && known) = true then
  if ((!m.Some) || (decide (m.N < s.N))) = true then
  some (m.Lit, true, s.N, m.Count, l)
  else
  some (m.Lit, true, m.N, m.Count, l)
  else
  if ((decide (i.Kind = 6)) && known) = true then
  (app l ([s.N] : List Int)).bind fun l2 =>
  if (decide (i.Size < (l2.length : Int))) = true then
  (slc l2 1 (l2.length : Int)).bind fun l3 =>
  some (m.Lit, m.Some, m.N, m.Count, l3)
  else
  some (m.Lit, m.Some, m.N, m.Count, l2)
  else
  some (m.Lit, m.Some, m.N, m.Count, l)) : Option ((Bool × Bool × Int × Int × (List Int)))).bind (t5 fun (Lit : Bool) (Some : Bool) (N : Int) (Count : Int) (Tape : List Int) =>
  some (api_Memo.mk Lit Some N Count Tape))

noncomputable def Jx (p : api_Panel) (l : List api_Track) (s : api_PanelState) (Memos2 : List api_Memo) (i : Int) : Option (((List api_Memo) × Int) ⊕ ((List api_Memo))) :=
  if (decide (i < (p.Instruments.length : Int))) = true then
  (idx p.Instruments i).bind fun x =>
  (JO l x.Track).bind fun y =>
  (Zay y.1 (i64 (s.Frame + 1))).bind fun y2 =>
  (idx s.Memos i).bind fun x2 =>
  (ZbC x x2 y2.1 y2.2).bind fun y3 =>
  (app Memos2 ([y3] : List api_Memo)).bind fun l2 =>
  some (.inl (l2, (i64 (i + 1))))
  else
  some (.inr Memos2)

noncomputable def Zck (p : api_Panel) (l : List api_Track) (s : api_PanelState) : Option api_PanelState :=
  ((loop (t2 (Jx p l s)) ([], 0)) : Option (((List api_Memo)))).bind (t1 fun (Memos : List api_Memo) =>
  some (api_PanelState.mk (i64 (s.Frame + 1)) Memos))

noncomputable def Zcb (p : api_Panel) (l : List api_Track) (s : api_PanelState) : Option (api_PanelState × Int) :=
  (Zcr p l).bind fun y =>
  if (!decide (y = 0)) = true then
  some ((api_PanelState.mk 0 []), y)
  else
  (XW p s).bind fun y2 =>
  if (!decide (y2 = 0)) = true then
  some ((api_PanelState.mk 0 []), y2)
  else
  if (decide (s.Frame = 19999)) = true then
  some ((api_PanelState.mk 0 []), 9)
  else
  (Zck p l s).bind fun y3 =>
  some (y3, 0)

noncomputable def J4 (p : api_Panel) (s : api_PanelState) : Option Int :=
  (JH p).bind fun y =>
  if (!decide (y = 0)) = true then
  some y
  else
  (Xu p s).bind fun y2 =>
  some y2

noncomputable def Zz (s1 : List api_Memo) (s2 : List api_Memo) (eq : api_Memo → api_Memo → Option Bool) (i : Int) : Option ((Int) ⊕ (Bool) ⊕ (Unit)) :=
  if (decide (i < (s1.length : Int))) = true then
  (idx s1 i).bind fun x =>
  (idx s2 i).bind fun x2 =>
  (eq x x2).bind fun y =>
  if (!y) = true then
  some (.inr (.inl false))
  else
  some (.inl (i64 (i + 1)))
  else
  some (.inr (.inr ()))

noncomputable def ZN (s1 : List api_Memo) (s2 : List api_Memo) (eq : api_Memo → api_Memo → Option Bool) : Option Bool :=
  if (!decide ((s1.length : Int) = (s2.length : Int))) = true then
  some false
  else
  ((loop (t1 (Zz s1 s2 eq)) 0) : Option ((Bool) ⊕ (Unit))).bind (Sum.elim (fun q' => some q') (t0 (some true)))

noncomputable def QE (s1 : List Int) (s2 : List Int) (i : Int) : Option ((Int) ⊕ (Bool) ⊕ (Unit)) :=
  if (decide (i < (s1.length : Int))) = true then
  (idx s1 i).bind fun x =>
  (idx s2 i).bind fun x2 =>
  if (!decide (x = x2)) = true then
  some (.inr (.inl false))
  else
  some (.inl (i64 (i + 1)))
  else
  some (.inr (.inr ()))

noncomputable def XF (s1 : List Int) (s2 : List Int) : Option Bool :=
  if (!decide ((s1.length : Int) = (s2.length : Int))) = true then
  some false
  else
  ((loop (t1 (QE s1 s2)) 0) : Option ((Bool) ⊕ (Unit))).bind (Sum.elim (fun q' => some q') (t0 (some true)))

noncomputable def ZaT (a : api_Memo) (b : api_Memo) : Option Bool :=
  (gd (((((a.Lit == b.Lit) && (a.Some == b.Some)) && (decide (a.N = b.N))) && (decide (a.Count = b.Count))) == true) false (XF a.Tape b.Tape)).bind fun y =>
  some (((((a.Lit == b.Lit) && (a.Some == b.Some)) && (decide (a.N = b.N))) && (decide (a.Count = b.Count))) && y)

noncomputable def Zbh (a : api_PanelState) (b : api_PanelState) : Option Bool :=
  (gd ((decide (a.Frame = b.Frame)) == true) false (ZN a.Memos b.Memos (fun z0 z1 => ZaT z0 z1))).bind fun y =>
  some ((decide (a.Frame = b.Frame)) && y)

noncomputable def ZaD (places : Int) (scale2 : Int) (i : Int) : Option ((Int × Int) ⊕ (Int)) :=
  if (decide (i < places)) = true then
  some (.inl ((i64 (scale2 * 10)), (i64 (i + 1))))
  else
  some (.inr scale2)

noncomputable def Q9 (n : Int) (den : Int) (places : Int) : Option Str :=
  (quo .i64 (max n (i64 (-n))) den).bind fun q =>
  ((loop (t2 (ZaD places)) (1, 0)) : Option ((Int))).bind (t1 fun (scale : Int) =>
  (rem (max n (i64 (-n))) den).bind fun q2 =>
  (quo .i64 (i64 ((i64 ((i64 (q2 * scale)) * 2)) + den)) (i64 (2 * den))).bind fun q3 =>
  ((if (decide (q3 = scale)) = true then
  some ((i64 (q + 1)), 0)
  else
  some (q, q3)) : Option ((Int × Int))).bind (t2 fun (whole : Int) (part : Int) =>
  (itoa whole).bind fun y =>
  ((if (decide (0 < places)) = true then
  (itoa (i64 (scale + part))).bind fun y2 =>
  (slc y2 1 (y2.length : Int)).bind fun s =>
  (cat [46] s).bind fun s2 =>
  (cat y s2).bind fun s3 =>
  some s3
  else
  some y) : Option ((Str))).bind (t1 fun (out : Str) =>
  if ((decide (n < 0)) && ((decide (0 < whole)) || (decide (0 < part)))) = true then
  (cat [45] out).bind fun s4 =>
  some s4
  else
  some out)))

noncomputable def Zai (i : api_Instrument) (n : Int) : Option Int :=
  if (decide (n ≤ i.Low)) = true then
  some 0
  else
  if (decide (i.High ≤ n)) = true then
  some i.Steps
  else
  (quo .i64 (i64 ((i64 (n - i.Low)) * i.Steps)) (i64 (i.High - i.Low))).bind fun q =>
  some q

noncomputable def Qo (i : api_Instrument) (n : Int) (i2 : Int) : Option ((Int) ⊕ (Str) ⊕ (Unit)) :=
  if (decide (i2 < (i.Zones.length : Int))) = true then
  (idx i.Zones i2).bind fun x =>
  (ZV n x.From x.To).bind fun y =>
  if y = true then
  some (.inr (.inl x.Name))
  else
  some (.inl (i64 (i2 + 1)))
  else
  some (.inr (.inr ()))

noncomputable def XA (i : api_Instrument) (n : Int) : Option Str :=
  ((loop (t1 (Qo i n)) 0) : Option ((Str) ⊕ (Unit))).bind (Sum.elim (fun q' => some q') (t0 (some [])))

noncomputable def Jb (i : api_Instrument) (m : api_Memo) (den : Int) (l2 : List Str) (i2 : Int) : Option (((List Str) × Int) ⊕ ((List Str))) :=
  if (decide (i2 < (m.Tape.length : Int))) = true then
  (idx m.Tape i2).bind fun x2 =>
  (Q9 x2 den i.Places).bind fun y6 =>
  (app l2 ([y6] : List Str)).bind fun l3 =>
  some (.inl (l3, (i64 (i2 + 1))))
  else
  some (.inr l2)

noncomputable def Je (i : api_Instrument) (m : api_Memo) (den : Int) (x : api_Sample) (known : Bool) : Option api_Face :=
  ((if (decide (i.Kind = 1)) = true then
  if known = true then
  (Q9 x.N den i.Places).bind fun y =>
  some (api_Face.mk y 0 m.Lit x.Mark)
  else
  some (api_Face.mk [45, 45, 45] 0 m.Lit x.Mark)
  else
  if (decide (i.Kind = 2)) = true then
  if known = true then
  (Zai i x.N).bind fun y2 =>
  (XA i x.N).bind fun y3 =>
  some (api_Face.mk y3 y2 m.Lit x.Mark)
  else
  some (api_Face.mk [45, 45, 45] 0 m.Lit x.Mark)
  else
  if (decide (i.Kind = 3)) = true then
  if m.Lit = true then
  some (api_Face.mk [111, 110] 0 m.Lit x.Mark)
  else
  if known = true then
  some (api_Face.mk [111, 102, 102] 0 m.Lit x.Mark)
  else
  some (api_Face.mk [45, 45, 45] 0 m.Lit x.Mark)
  else
  if (decide (i.Kind = 4)) = true then
  if m.Some = true then
  (Q9 m.N den i.Places).bind fun y4 =>
  some (api_Face.mk y4 0 m.Lit x.Mark)
  else
  some (api_Face.mk [45, 45, 45] 0 m.Lit x.Mark)
  else
  if (decide (i.Kind = 5)) = true then
  (itoa m.Count).bind fun y5 =>
  some (api_Face.mk y5 0 m.Lit x.Mark)
  else
  if (decide (i.Kind = 6)) = true then
  ((loop (t2 (Jb i m den)) ([], 0)) : Option (((List Str)))).bind (t1 fun (l : List Str) =>
  if (decide (0 < (l.length : Int))) = true then
  (Zhq l [32]).bind fun y7 =>
  some (api_Face.mk y7 0 m.Lit x.Mark)
  else
  some (api_Face.mk [45, 45, 45] 0 m.Lit x.Mark))
  else
  some (api_Face.mk [45, 45, 45] 0 m.Lit x.Mark)) : Option ((api_Face))).bind (t1 fun (out : api_Face) =>
  some out)

noncomputable def XI (p : api_Panel) (l : List api_Track) (s : api_PanelState) (out2 : List api_Face) (i : Int) : Option (((List api_Face) × Int) ⊕ ((List api_Face))) :=
  if (decide (i < (p.Instruments.length : Int))) = true then
  (idx p.Instruments i).bind fun x =>
  (QI l x).bind fun y =>
  (idx l y).bind fun x2 =>
  ((if (decide (0 ≤ s.Frame)) = true then
  (JB x2 s.Frame).bind fun y2 =>
  some (y2.1, y2.2)
  else
  some ((api_Sample.mk 0 0 0), false)) : Option ((api_Sample × Bool))).bind (t2 fun (x3 : api_Sample) (known : Bool) =>
  (idx s.Memos i).bind fun x4 =>
  (Je x x4 x2.Series.Den x3 known).bind fun y3 =>
  (app out2 ([y3] : List api_Face)).bind fun l2 =>
  some (.inl (l2, (i64 (i + 1)))))
  else
  some (.inr out2)

noncomputable def Zag (p : api_Panel) (l : List api_Track) (s : api_PanelState) : Option (List api_Face) :=
  ((loop (t2 (XI p l s)) ([], 0)) : Option (((List api_Face)))).bind (t1 fun (out : List api_Face) =>
  some out)

noncomputable def ZcY (p : api_Panel) (l : List api_Track) (s : api_PanelState) : Option ((List api_Face) × Int) :=
  (QU p l).bind fun y =>
  if (!decide (y = 0)) = true then
  some ([], y)
  else
  (Xu p s).bind fun y2 =>
  if (!decide (y2 = 0)) = true then
  some ([], y2)
  else
  (Zag p l s).bind fun y3 =>
  some (y3, 0)

noncomputable def ZdQ (places : Int) (unit2 : Int) (i : Int) : Option ((Int × Int) ⊕ (Int)) :=
  if (decide (i < places)) = true then
  some (.inl ((i64 (unit2 * 10)), (i64 (i + 1))))
  else
  some (.inr unit2)

noncomputable def JG (n : Int) (den : Int) (places : Int) : Option Str :=
  ((if (decide (n < 0)) = true then
  some ((i64 (-n)), [45])
  else
  some (n, [])) : Option ((Int × Str))).bind (t2 fun (size : Int) (sign : Str) =>
  ((loop (t2 (ZdQ places)) (1, 0)) : Option ((Int))).bind (t1 fun (unit : Int) =>
  (quo .i64 size den).bind fun q =>
  (rem size den).bind fun q2 =>
  (quo .i64 (i64 ((i64 ((i64 (2 * unit)) * q2)) + den)) (i64 (2 * den))).bind fun q3 =>
  ((if (decide (q3 = unit)) = true then
  some ((i64 (q + 1)), 0)
  else
  some (q, q3)) : Option ((Int × Int))).bind (t2 fun (whole : Int) (part : Int) =>
  ((if ((decide (whole = 0)) && (decide (part = 0))) = true then
  some []
  else
  some sign) : Option ((Str))).bind (t1 fun (sign2 : Str) =>
  (itoa whole).bind fun y =>
  ((if (decide (0 < places)) = true then
  (itoa (i64 (unit + part))).bind fun y2 =>
  (slc y2 1 (y2.length : Int)).bind fun s2 =>
  (cat [46] s2).bind fun s3 =>
  (cat y s3).bind fun s4 =>
  some s4
  else
  some y) : Option ((Str))).bind (t1 fun (s : Str) =>
  (cat sign2 s).bind fun s5 =>
  some s5)))))

noncomputable def Zd0 (i : api_Instrument) (n : Int) : Option Int :=
  if (decide (n ≤ i.Low)) = true then
  some 0
  else
  if (decide (i.High ≤ n)) = true then
  some i.Steps
  else
  (quo .i64 (i64 ((i64 (n - i.Low)) * i.Steps)) (i64 (i.High - i.Low))).bind fun q =>
  some q

noncomputable def Zg4 (i : api_Instrument) (n : Int) (i2 : Int) : Option ((Int) ⊕ (Str) ⊕ (Unit)) :=
  if (decide (i2 < (i.Zones.length : Int))) = true then
  (idx i.Zones i2).bind fun x =>
  if ((decide (x.From ≤ n)) && (decide (n ≤ x.To))) = true then
  some (.inr (.inl x.Name))
  else
  some (.inl (i64 (i2 + 1)))
  else
  some (.inr (.inr ()))

noncomputable def ZeS (i : api_Instrument) (n : Int) : Option Str :=
  ((loop (t1 (Zg4 i n)) 0) : Option ((Str) ⊕ (Unit))).bind (Sum.elim (fun q' => some q') (t0 (some [])))

noncomputable def Zaq (i : api_Instrument) (den : Int) (m : api_Memo) (Mark : Int) (Text : Str) (i2 : Int) : Option ((Str × Int) ⊕ (api_Face)) :=
  if (decide (i2 < (m.Tape.length : Int))) = true then
  (idx m.Tape i2).bind fun x =>
  if (decide (i2 = 0)) = true then
  (JG x den i.Places).bind fun y6 =>
  some (.inl (y6, (i64 (i2 + 1))))
  else
  (JG x den i.Places).bind fun y7 =>
  (cat [32] y7).bind fun s2 =>
  (cat Text s2).bind fun s3 =>
  some (.inl (s3, (i64 (i2 + 1))))
  else
  some (.inr (api_Face.mk Text 0 false Mark))

noncomputable def Zdm (i : api_Instrument) (den : Int) (m : api_Memo) (s : api_Sample) (known : Bool) : Option api_Face :=
  ((if known = true then
  some s.Mark
  else
  some 0) : Option ((Int))).bind (t1 fun (Mark : Int) =>
  ((if (decide (i.Kind = 1)) = true then
  if known = true then
  (JG s.N den i.Places).bind fun y =>
  some (api_Face.mk y 0 false Mark)
  else
  some (api_Face.mk [45, 45, 45] 0 false Mark)
  else
  if (decide (i.Kind = 2)) = true then
  if known = true then
  (Zd0 i s.N).bind fun y2 =>
  (ZeS i s.N).bind fun y3 =>
  some (api_Face.mk y3 y2 false Mark)
  else
  some (api_Face.mk [45, 45, 45] 0 false Mark)
  else
  if (decide (i.Kind = 3)) = true then
  if m.Lit = true then
  some (api_Face.mk [111, 110] 0 m.Lit Mark)
  else
  if known = true then
  some (api_Face.mk [111, 102, 102] 0 m.Lit Mark)
  else
  some (api_Face.mk [45, 45, 45] 0 m.Lit Mark)
  else
  if (decide (i.Kind = 4)) = true then
  if m.Some = true then
  (JG m.N den i.Places).bind fun y4 =>
  some (api_Face.mk y4 0 false Mark)
  else
  some (api_Face.mk [45, 45, 45] 0 false Mark)
  else
  if (decide (i.Kind = 5)) = true then
  (itoa m.Count).bind fun y5 =>
  some (api_Face.mk y5 0 m.Lit Mark)
  else
  if (decide (i.Kind = 6)) = true then
  loop (t2 (Zaq i den m Mark)) ([45, 45, 45], 0)
  else
  some (api_Face.mk [45, 45, 45] 0 false Mark)) : Option ((api_Face))).bind (t1 fun (f : api_Face) =>
  some f))

noncomputable def ZaP (p : api_Panel) (l : List api_Track) (s : api_PanelState) (out2 : List api_Face) (i : Int) : Option (((List api_Face) × Int) ⊕ ((List api_Face))) :=
  if (decide (i < (p.Instruments.length : Int))) = true then
  (idx p.Instruments i).bind fun x =>
  (JO l x.Track).bind fun y =>
  ((if (decide (0 ≤ s.Frame)) = true then
  (Zay y.1 s.Frame).bind fun y2 =>
  some (y2.1, y2.2)
  else
  some ((api_Sample.mk 0 0 0), false)) : Option ((api_Sample × Bool))).bind (t2 fun (x2 : api_Sample) (known : Bool) =>
  (idx s.Memos i).bind fun x3 =>
  (Zdm x y.1.Series.Den x3 x2 known).bind fun y3 =>
  (app out2 ([y3] : List api_Face)).bind fun l2 =>
  some (.inl (l2, (i64 (i + 1)))))
  else
  some (.inr out2)

noncomputable def ZdB (p : api_Panel) (l : List api_Track) (s : api_PanelState) : Option (List api_Face) :=
  ((loop (t2 (ZaP p l s)) ([], 0)) : Option (((List api_Face)))).bind (t1 fun (out : List api_Face) =>
  some out)

noncomputable def ZdC (p : api_Panel) (l : List api_Track) (s : api_PanelState) : Option ((List api_Face) × Int) :=
  (Zcr p l).bind fun y =>
  if (!decide (y = 0)) = true then
  some ([], y)
  else
  (XW p s).bind fun y2 =>
  if (!decide (y2 = 0)) = true then
  some ([], y2)
  else
  (ZdB p l s).bind fun y3 =>
  some (y3, 0)

noncomputable def Z2 (s1 : List api_Face) (s2 : List api_Face) (i : Int) : Option ((Int) ⊕ (Bool) ⊕ (Unit)) :=
  if (decide (i < (s1.length : Int))) = true then
  (idx s1 i).bind fun x =>
  (idx s2 i).bind fun x2 =>
  if (!(decide (x.Text = x2.Text) && (decide (x.Needle = x2.Needle) && ((x.Lit == x2.Lit) && (decide (x.Mark = x2.Mark) && true))))) = true then
  some (.inr (.inl false))
  else
  some (.inl (i64 (i + 1)))
  else
  some (.inr (.inr ()))

noncomputable def Qq (s1 : List api_Face) (s2 : List api_Face) : Option Bool :=
  if (!decide ((s1.length : Int) = (s2.length : Int))) = true then
  some false
  else
  ((loop (t1 (Z2 s1 s2)) 0) : Option ((Bool) ⊕ (Unit))).bind (Sum.elim (fun q' => some q') (t0 (some true)))

noncomputable def J3 (p : api_Panel) (faces : List api_Face) (buf2 : List Int) (i : Int) : Option (((List Int) × Int) ⊕ ((List Int))) :=
  if (decide (i < (faces.length : Int))) = true then
  (idx faces i).bind fun x =>
  (idx p.Instruments i).bind fun x2 =>
  (cat x2.Name [58, 32]).bind fun s =>
  (cat s x.Text).bind fun s2 =>
  (app buf2 (bytes s2)).bind fun l =>
  ((if x.Lit = true then
  (app l (bytes [32, 42])).bind fun l2 =>
  some l2
  else
  some l) : Option (((List Int)))).bind (t1 fun (buf3 : List Int) =>
  if (!decide (x.Mark = 4)) = true then
  (app buf3 (bytes [32, 63])).bind fun l3 =>
  (app l3 (bytes [10])).bind fun l4 =>
  some (.inl (l4, (i64 (i + 1))))
  else
  (app buf3 (bytes [10])).bind fun l5 =>
  some (.inl (l5, (i64 (i + 1)))))
  else
  some (.inr buf2)

noncomputable def ZcN (p : api_Panel) (faces : List api_Face) : Option (Str × Int) :=
  (JH p).bind fun y =>
  if (!decide (y = 0)) = true then
  some ([], y)
  else
  if (!decide ((faces.length : Int) = (p.Instruments.length : Int))) = true then
  some ([], 2)
  else
  ((loop (t2 (J3 p faces)) ([], 0)) : Option (((List Int)))).bind (t1 fun (buf : List Int) =>
  (ofB buf).bind fun z =>
  some (z, 0))

noncomputable def ZaS (p : api_Panel) (l : List api_Face) (out2 : Str) (i : Int) : Option ((Str × Int) ⊕ (Str)) :=
  if (decide (i < (l.length : Int))) = true then
  (idx l i).bind fun x =>
  (idx p.Instruments i).bind fun x2 =>
  (cat x2.Name [58, 32]).bind fun s =>
  (cat s x.Text).bind fun s2 =>
  (cat out2 s2).bind fun s3 =>
  ((if x.Lit = true then
  (cat s3 [32, 42]).bind fun s4 =>
  some s4
  else
  some s3) : Option ((Str))).bind (t1 fun (out3 : Str) =>
  if (!decide (x.Mark = 4)) = true then
  (cat out3 [32, 63]).bind fun s5 =>
  (cat s5 [10]).bind fun s6 =>
  some (.inl (s6, (i64 (i + 1))))
  else
  (cat out3 [10]).bind fun s7 =>
  some (.inl (s7, (i64 (i + 1)))))
  else
  some (.inr out2)

noncomputable def ZdD (p : api_Panel) (l : List api_Face) : Option (Str × Int) :=
  (ZbK p).bind fun y =>
  if (!decide (y = 0)) = true then
  some ([], y)
  else
  if (!decide ((l.length : Int) = (p.Instruments.length : Int))) = true then
  some ([], 2)
  else
  ((loop (t2 (ZaS p l)) ([], 0)) : Option ((Str))).bind (t1 fun (out : Str) =>
  some (out, 0))

noncomputable def ZaA (y : List api_Instrument) (Instruments2 : List api_Instrument) (i : Int) : Option (((List api_Instrument) × Int) ⊕ ((List api_Instrument))) :=
  if (decide (i < (y.length : Int))) = true then
  (idx Instruments2 i).bind fun x =>
  (ZaG x.Zones).bind fun y2 =>
  (idx Instruments2 i).bind fun x2 =>
  some (.inl ((Instruments2.set i.toNat (api_Instrument.mk x2.Kind x2.Name x2.Track x2.Places x2.Low x2.High x2.Steps y2 x2.Op x2.N x2.Latch x2.Size)), (i64 (i + 1))))
  else
  some (.inr Instruments2)

noncomputable def ZaI (p : api_Panel) : Option api_Panel :=
  (ZaG p.Instruments).bind fun y =>
  ((loop (t2 (ZaA y)) (y, 0)) : Option (((List api_Instrument)))).bind (t1 fun (Instruments : List api_Instrument) =>
  some (api_Panel.mk Instruments))

noncomputable def JW (y : List api_Track) (out2 : List api_Track) (i : Int) : Option (((List api_Track) × Int) ⊕ ((List api_Track))) :=
  if (decide (i < (y.length : Int))) = true then
  (idx out2 i).bind fun x =>
  (ZaG x.Series.Samples).bind fun y2 =>
  (idx out2 i).bind fun x2 =>
  some (.inl ((out2.set i.toNat (api_Track.mk x2.Name (api_Series.mk x2.Series.Den y2) x2.Long)), (i64 (i + 1))))
  else
  some (.inr out2)

noncomputable def J2 (l : List api_Track) : Option (List api_Track) :=
  (ZaG l).bind fun y =>
  ((loop (t2 (JW y)) (y, 0)) : Option (((List api_Track)))).bind (t1 fun (out : List api_Track) =>
  some out)

noncomputable def ZcW (p : api_Panel) : Option api_PanelState :=
  (mks (p.Instruments.length : Int) (api_Memo.mk false false 0 0 [])).bind fun l =>
  some (api_PanelState.mk (-1) l)

noncomputable def ZcC (p : api_Panel) (l : List api_Track) (keep : Int) : Option ((Int) ⊕ (panel_Replay × Int)) :=
  (QU p l).bind fun y =>
  if (!decide (y = 0)) = true then
  some (Sum.inl y)
  else
  (ZV keep 1 1000).bind fun y2 =>
  if (!y2) = true then
  some (Sum.inl 9)
  else
  (ZaI p).bind fun y3 =>
  (J2 l).bind fun y4 =>
  (ZcW p).bind fun y5 =>
  some (Sum.inr ((panel_Replay.mk y3 y4 keep y5 [] []), 0))

noncomputable def Ji (r_ : panel_Replay) : Option (List api_Face) :=
  (Zag r_.p r_.l r_.state).bind fun y =>
  some y

noncomputable def ZI (x : List api_PanelState) (target : Int) (cmp : api_PanelState → Int → Option Int) (i2 : Int) (j : Int) : Option ((Int × Int) ⊕ (Int)) :=
  if (decide (i2 < j)) = true then
  (shr .u64 (u64 (i64 (i2 + j))) 1).bind fun q =>
  (idx x (i64 q)).bind fun x2 =>
  (cmp x2 target).bind fun y =>
  if (decide (y < 0)) = true then
  some (.inl ((i64 ((i64 q) + 1)), j))
  else
  some (.inl (i2, (i64 q)))
  else
  some (.inr i2)

noncomputable def ZE (x : List api_PanelState) (target : Int) (cmp : api_PanelState → Int → Option Int) : Option (Int × Bool) :=
  ((loop (t2 (ZI x target cmp)) (0, (x.length : Int))) : Option ((Int))).bind (t1 fun (i : Int) =>
  (gd ((decide (i < (x.length : Int))) == true) (api_PanelState.mk 0 []) (idx x i)).bind fun x3 =>
  (gd ((decide (i < (x.length : Int))) == true) 0 (cmp x3 target)).bind fun y2 =>
  some (i, ((decide (i < (x.length : Int))) && (decide (y2 = 0)))))

noncomputable def Xr (s : api_PanelState) (frame : Int) : Option Int :=
  some (i64 (s.Frame - frame))

noncomputable def X4 (r_ : panel_Replay) (frame : Int) : Option (Int × Bool) :=
  (ZE r_.kept frame (fun z0 z1 => Xr z0 z1)).bind fun y =>
  some (y.1, y.2)

noncomputable def Zal (y : List api_Memo) (Memos2 : List api_Memo) (i : Int) : Option (((List api_Memo) × Int) ⊕ ((List api_Memo))) :=
  if (decide (i < (y.length : Int))) = true then
  (idx Memos2 i).bind fun x =>
  (ZaG x.Tape).bind fun y2 =>
  (idx Memos2 i).bind fun x2 =>
  some (.inl ((Memos2.set i.toNat (api_Memo.mk x2.Lit x2.Some x2.N x2.Count y2)), (i64 (i + 1))))
  else
  some (.inr Memos2)

noncomputable def ZaF (s : api_PanelState) : Option api_PanelState :=
  (ZaG s.Memos).bind fun y =>
  ((loop (t2 (Zal y)) (y, 0)) : Option (((List api_Memo)))).bind (t1 fun (Memos : List api_Memo) =>
  some (api_PanelState.mk s.Frame Memos))

noncomputable def ZQ (s : List api_PanelState) (i : Int) (v : List api_PanelState) : Option (List api_PanelState) :=
  (slc s i (s.length : Int)).bind fun l =>
  if (decide ((v.length : Int) = 0)) = true then
  some s
  else
  if (decide (i = (s.length : Int))) = true then
  (app s v).bind fun l2 =>
  some l2
  else
  none

noncomputable def Xf (r_ : panel_Replay) (n : Int) (state : api_PanelState) (kept : List api_PanelState) (i : Int) : Option ((api_PanelState × (List api_PanelState) × Int) ⊕ (panel_Replay)) :=
  if (decide (i < n)) = true then
  (((Q8 r_.p r_.l state).bind fun y =>
  (rem y.Frame r_.keep).bind fun q =>
  if (!decide (q = (i64 (r_.keep - 1)))) = true then
  some (y.Frame, y.Memos, kept)
  else
  (X4 (panel_Replay.mk r_.p r_.l r_.keep y kept r_.marks) y.Frame).bind fun y2 =>
  if (!y2.2) = true then
  (ZaF y).bind fun y3 =>
  (ZQ kept y2.1 ([y3] : List api_PanelState)).bind fun y4 =>
  some (y.Frame, y.Memos, y4)
  else
  some (y.Frame, y.Memos, kept)) : Option ((Int × (List api_Memo) × (List api_PanelState)))).bind (t3 fun (Frame : Int) (Memos : List api_Memo) (kept2 : List api_PanelState) =>
  some (.inl ((api_PanelState.mk Frame Memos), kept2, (i64 (i + 1)))))
  else
  some (.inr (panel_Replay.mk r_.p r_.l r_.keep state kept r_.marks))

noncomputable def QY (r_ : panel_Replay) (n : Int) : Option panel_Replay :=
  loop (t3 (Xf r_ n)) (r_.state, r_.kept, 0)

noncomputable def XH (r_ : panel_Replay) (n : Int) : Option (Int × panel_Replay) :=
  if ((decide (n < 0)) || (decide ((i64 (19999 - r_.state.Frame)) < n))) = true then
  some (9, r_)
  else
  (QY r_ n).bind fun y =>
  some (0, y)

noncomputable def Zcy  : Option Bool :=
  (ZcC (api_Panel.mk ([(api_Instrument.mk 1 [97] [116] 1 0 0 0 [] 0 0 false 0)] : List api_Instrument)) ([(api_Track.mk [116] (api_Series.mk 2 ([(api_Sample.mk 70 (-3) 4)] : List api_Sample)) 100)] : List api_Track) 1).bind (Sum.elim (fun y =>
  (gd ((!decide (y = 0)) == false) () (none : Option Unit)).bind fun u =>
  if ((!decide (y = 0)) || (!decide (0 = 0))) = true then
  some false
  else
  none) (fun y =>
  ((if ((!decide (y.2 = 0)) == false) = true then
  (XH y.1 2).bind fun y2 =>
  if (false || (!decide (y2.1 = 0))) = true then
  some (.inl false)
  else
  some (.inr (y2.2.p, y2.2.l, y2.2.keep, y2.2.state, y2.2.kept, y2.2.marks))
  else
  (gd (true == false) () (none : Option Unit)).bind fun u2 =>
  if (true || false) = true then
  some (.inl false)
  else
  some (.inr (y.1.p, y.1.l, y.1.keep, y.1.state, y.1.kept, y.1.marks))) : Option ((Bool) ⊕ (api_Panel × (List api_Track) × Int × api_PanelState × (List api_PanelState) × (List api_Bookmark)))).bind (Sum.elim (fun q' => some q') (t6 fun (p : api_Panel) (l : List api_Track) (keep : Int) (state : api_PanelState) (kept : List api_PanelState) (marks : List api_Bookmark) =>
  (Ji (panel_Replay.mk p l keep state kept marks)).bind fun y3 =>
  (gd ((decide ((y3.length : Int) = 1)) == true) (api_Face.mk [] 0 false 0) (idx y3 0)).bind fun x =>
  some ((decide ((y3.length : Int) = 1)) && (decide (x.Text = [45, 49, 46, 53]) && (decide (x.Needle = 0) && ((x.Lit == false) && (decide (x.Mark = 4) && true)))))))))

noncomputable def QV (p : api_Panel) (l : List api_Track) (s : api_PanelState) : Option Bool :=
  (ZbA p l s).bind fun y =>
  (Zcb p l s).bind fun y2 =>
  (J4 p s).bind fun y3 =>
  (XW p s).bind fun y4 =>
  (gd (((!decide (y3 = y4)) || (!decide (y.2 = y2.2))) == false) false (Zbh y.1 y2.1)).bind fun y5 =>
  if (((!decide (y3 = y4)) || (!decide (y.2 = y2.2))) || (!y5)) = true then
  some false
  else
  (ZcY p l s).bind fun y6 =>
  (ZdC p l s).bind fun y7 =>
  (gd ((!decide (y6.2 = y7.2)) == false) false (Qq y6.1 y7.1)).bind fun y8 =>
  if ((!decide (y6.2 = y7.2)) || (!y8)) = true then
  some false
  else
  (ZcN p y6.1).bind fun y9 =>
  (ZdD p y7.1).bind fun y10 =>
  (gd (((decide (y9.1 = y10.1)) && (decide (y9.2 = y10.2))) == true) false Zcy).bind fun y11 =>
  some (((decide (y9.1 = y10.1)) && (decide (y9.2 = y10.2))) && y11)
end Go.Vx
