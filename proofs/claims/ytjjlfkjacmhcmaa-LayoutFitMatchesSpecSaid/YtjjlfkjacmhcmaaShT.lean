/- A text of the proof: a verified executor of the program form, or the contracts of the functions that the law reaches. -/
import Derived.Test.YtjjlfkjacmhcmaaShLib
set_option linter.all false
namespace Go.Vx
open Go Go.RowKit
set_option linter.unusedVariables false
structure api_Part where
  Frame : Int
  Word : Int
  Low : Int
  Bits : Int
structure api_Param where
  Name : Str
  Kind : Int
  Parts : List api_Part
  First : Int
  Every : Int
  Times : Int
  Step : Int
  Names : List Str
structure api_Map where
  Version : Int
  Params : List api_Param
structure layout_bit where
  frame : Int
  word : Int
  bit : Int
structure api_Place where
  Frame : Int
  Word : Int
  Low : Int
  Bits : Int
structure api_Cell where
  Param : Int
  Index : Int
  Frame : Int
  Places : List api_Place
structure layout_number where
  low : Int
  high : Int
  encode : Fv (Int → Option Int)
  decode : Fv (Int → Option (Int × Bool))
structure api_Reading where
  Param : Int
  Index : Int
  Value : Int
  Good : Bool

noncomputable def ZW (n : Int) (low : Int) (high : Int) : Option Bool :=
  some ((decide (low ≤ n)) && (decide (n ≤ high)))

noncomputable def ZaJ (c_ : Int) : Option Bool :=
  some (!((((decide (97 ≤ c_)) && (decide (c_ ≤ 122))) || ((decide (48 ≤ c_)) && (decide (c_ ≤ 57)))) || (decide (c_ = 45))))

noncomputable def X5 (s : Str) : Option Bool :=
  (gd (((decide ((s.length : Int) < 1)) || (decide (30 < (s.length : Int)))) == false) 0 (ZiP s 0)).bind fun b =>
  (gd ((((decide ((s.length : Int) < 1)) || (decide (30 < (s.length : Int)))) || (decide (b < 97))) == false) 0 (ZiP s 0)).bind fun b2 =>
  if ((((decide ((s.length : Int) < 1)) || (decide (30 < (s.length : Int)))) || (decide (b < 97))) || (decide (122 < b2))) = true then
  some false
  else
  (Zaj s (fun z0 => ZaJ z0)).bind fun y =>
  some (!y)

noncomputable def QK (p : api_Param) (n2 : Int) (i : Int) : Option ((Int × Int) ⊕ (Int)) :=
  if (decide (i < (p.Parts.length : Int))) = true then
  (idx p.Parts i).bind fun x =>
  some (.inl ((i64 (n2 + x.Bits)), (i64 (i + 1))))
  else
  some (.inr n2)

noncomputable def QD (p : api_Param) : Option Int :=
  ((loop (t2 (QK p)) (0, 0)) : Option ((Int))).bind (t1 fun (n : Int) =>
  some n)

noncomputable def ZP (s : List Int) (v : Int) (i : Int) : Option ((Int) ⊕ (Int) ⊕ (Unit)) :=
  if (decide (i < (s.length : Int))) = true then
  (idx s i).bind fun x =>
  if (decide (v = x)) = true then
  some (.inr (.inl i))
  else
  some (.inl (i64 (i + 1)))
  else
  some (.inr (.inr ()))

noncomputable def QJ (s : List Int) (v : Int) : Option Int :=
  ((loop (t1 (ZP s v)) 0) : Option ((Int) ⊕ (Unit))).bind (Sum.elim (fun q' => some q') (t0 (some (-1))))

noncomputable def Z3 (s : List Int) (v : Int) : Option Bool :=
  (QJ s v).bind fun y =>
  some (decide (0 ≤ y))

noncomputable def ZU (p : api_Param) (i : Int) : Option ((Int) ⊕ (Int) ⊕ (Unit)) :=
  if (decide (i < (p.Parts.length : Int))) = true then
  (idx p.Parts i).bind fun x =>
  (ZW x.Frame 0 15).bind fun y =>
  (gd ((!y) == false) false (ZW x.Word 4 60)).bind fun y2 =>
  (gd (((!y) || (!y2)) == false) false (ZW x.Low 0 10)).bind fun y3 =>
  (gd ((((!y) || (!y2)) || (!y3)) == false) false (ZW x.Bits 1 (i64 (11 - x.Low)))).bind fun y4 =>
  if ((((!y) || (!y2)) || (!y3)) || (!y4)) = true then
  some (.inr (.inl 9))
  else
  some (.inl (i64 (i + 1)))
  else
  some (.inr (.inr ()))

noncomputable def Qm (p : api_Param) (i2 : Int) : Option ((Int) ⊕ (Int) ⊕ (Unit)) :=
  if (decide (i2 < (p.Parts.length : Int))) = true then
  (idx p.Parts i2).bind fun x2 =>
  if ((decide (60 < p.Step)) || (decide (60 < (i64 (x2.Word + (i64 ((i64 (p.Times - 1)) * p.Step))))))) = true then
  some (.inr (.inl 9))
  else
  some (.inl (i64 (i2 + 1)))
  else
  some (.inr (.inr ()))

noncomputable def QN (p : api_Param) : Option Int :=
  if (decide ((p.Parts.length : Int) = 0)) = true then
  some 13
  else
  if (decide (8 < (p.Parts.length : Int))) = true then
  some 3
  else
  ((loop (t1 (ZU p)) 0) : Option ((Int) ⊕ (Unit))).bind (Sum.elim (fun q' => some q') (t0 ((QD p).bind fun y5 =>
  if (decide (40 < y5)) = true then
  some 3
  else
  (Z3 ([1, 2, 4, 8, 16] : List Int) p.Every).bind fun y6 =>
  (gd ((!y6) == false) false (ZW p.First 0 (i64 (p.Every - 1)))).bind fun y7 =>
  (gd (((!y6) || (!y7)) == false) false (ZW p.Times 1 57)).bind fun y8 =>
  if (((((!y6) || (!y7)) || (!y8)) || (decide (p.Step < 0))) || (!((decide (p.Step = 0)) == (decide (p.Times = 1))))) = true then
  some 9
  else
  ((loop (t1 (Qm p)) 0) : Option ((Int) ⊕ (Unit))).bind (Sum.elim (fun q' => some q') (t0 (some 0))))))

noncomputable def ZG (s : List Str) (v : Str) (i : Int) : Option ((Int) ⊕ (Int) ⊕ (Unit)) :=
  if (decide (i < (s.length : Int))) = true then
  (idx s i).bind fun x =>
  if (decide (v = x)) = true then
  some (.inr (.inl i))
  else
  some (.inl (i64 (i + 1)))
  else
  some (.inr (.inr ()))

noncomputable def Z4 (s : List Str) (v : Str) : Option Int :=
  ((loop (t1 (ZG s v)) 0) : Option ((Int) ⊕ (Unit))).bind (Sum.elim (fun q' => some q') (t0 (some (-1))))

noncomputable def ZK (s : List Str) (v : Str) : Option Bool :=
  (Z4 s v).bind fun y =>
  some (decide (0 ≤ y))

noncomputable def Qj (p : api_Param) (i : Int) : Option ((Int) ⊕ (Int) ⊕ (Unit)) :=
  if (decide (i < (p.Names.length : Int))) = true then
  (idx p.Names i).bind fun x =>
  (X5 x).bind fun y2 =>
  if (!y2) = true then
  some (.inr (.inl 8))
  else
  (slc p.Names 0 i).bind fun l =>
  (ZK l x).bind fun y3 =>
  if y3 = true then
  some (.inr (.inl 5))
  else
  some (.inl (i64 (i + 1)))
  else
  some (.inr (.inr ()))

noncomputable def QO (p : api_Param) : Option Int :=
  (QD p).bind fun y =>
  (gd ((decide (p.Kind = 4)) == true) 0 (rem y 4)).bind fun q =>
  if ((((decide (p.Kind = 4)) && (!decide (q = 0))) || ((decide (p.Kind = 5)) && (!decide (y = 1)))) || (((decide (p.Kind = 2)) || (decide (p.Kind = 3))) && (decide (y = 1)))) = true then
  some 2
  else
  if (!decide (p.Kind = 6)) = true then
  if (decide (0 < (p.Names.length : Int))) = true then
  some 2
  else
  some 0
  else
  if (decide ((p.Names.length : Int) = 0)) = true then
  some 13
  else
  (gd ((decide (64 < (p.Names.length : Int))) == false) 0 (shl .i64 1 y)).bind fun q2 =>
  if ((decide (64 < (p.Names.length : Int))) || (decide (q2 < (p.Names.length : Int)))) = true then
  some 3
  else
  ((loop (t1 (Qj p)) 0) : Option ((Int) ⊕ (Unit))).bind (Sum.elim (fun q' => some q') (t0 (some 0)))

noncomputable def ZB (s : List api_Part) (f : api_Part → Option Bool) (i : Int) : Option ((Int) ⊕ (Int) ⊕ (Unit)) :=
  if (decide (i < (s.length : Int))) = true then
  (idx s i).bind fun x =>
  (f x).bind fun y =>
  if y = true then
  some (.inr (.inl i))
  else
  some (.inl (i64 (i + 1)))
  else
  some (.inr (.inr ()))

noncomputable def ZJ (s : List api_Part) (f : api_Part → Option Bool) : Option Int :=
  ((loop (t1 (ZB s f)) 0) : Option ((Int) ⊕ (Unit))).bind (Sum.elim (fun q' => some q') (t0 (some (-1))))

noncomputable def ZA (s : List api_Part) (f : api_Part → Option Bool) : Option Bool :=
  (ZJ s f).bind fun y =>
  some (decide (0 ≤ y))

noncomputable def Q0 (x : api_Part) (c0 : Int) : Option Bool :=
  some (decide (16 ≤ (i64 (c0 + x.Frame))))

noncomputable def Qd (p : api_Param) (out2 : List Int) (f : Int) : Option (((List Int) × Int) ⊕ ((List Int))) :=
  if (decide (f < 16)) = true then
  (((ZA p.Parts (fun z0 => Q0 z0 f)).bind fun y =>
  if (!y) = true then
  (app out2 ([f] : List Int)).bind fun l =>
  some l
  else
  some out2) : Option (((List Int)))).bind (t1 fun (out3 : List Int) =>
  some (.inl (out3, (i64 (f + p.Every)))))
  else
  some (.inr out2)

noncomputable def Xb (p : api_Param) : Option (List Int) :=
  ((loop (t2 (Qd p)) ([], p.First)) : Option (((List Int)))).bind (t1 fun (out : List Int) =>
  some out)

noncomputable def QW (p : api_Param) (x : api_Part) (f : Int) (j : Int) : Option api_Place :=
  some (api_Place.mk (i64 (f + x.Frame)) (i64 (x.Word + (i64 (j * p.Step)))) x.Low x.Bits)

noncomputable def Z6 (p : api_Param) (x : Int) (i2 : Int) (Places2 : List api_Place) (i3 : Int) : Option (((List api_Place) × Int) ⊕ ((List api_Place))) :=
  if (decide (i3 < (p.Parts.length : Int))) = true then
  (idx p.Parts i3).bind fun x2 =>
  (QW p x2 x i2).bind fun y2 =>
  (app Places2 ([y2] : List api_Place)).bind fun l =>
  some (.inl (l, (i64 (i3 + 1))))
  else
  some (.inr Places2)

noncomputable def XY (number : Int) (p : api_Param) (x : Int) (out4 : List api_Cell) (i2 : Int) : Option (((List api_Cell) × Int) ⊕ ((List api_Cell))) :=
  if (decide (i2 < p.Times)) = true then
  ((loop (t2 (Z6 p x i2)) ([], 0)) : Option (((List api_Place)))).bind (t1 fun (Places : List api_Place) =>
  (app out4 ([(api_Cell.mk number (out4.length : Int) x Places)] : List api_Cell)).bind fun l2 =>
  some (.inl (l2, (i64 (i2 + 1)))))
  else
  some (.inr out4)

noncomputable def Qs (number : Int) (p : api_Param) (y : (List Int)) (out2 : List api_Cell) (i : Int) : Option (((List api_Cell) × Int) ⊕ ((List api_Cell))) :=
  if (decide (i < (y.length : Int))) = true then
  (((idx y i).bind fun x =>
  loop (t2 (XY number p x)) (out2, 0)) : Option (((List api_Cell)))).bind (t1 fun (out3 : List api_Cell) =>
  some (.inl (out3, (i64 (i + 1)))))
  else
  some (.inr out2)

noncomputable def QB (number : Int) (p : api_Param) : Option (List api_Cell) :=
  (((Xb p).bind fun y =>
  loop (t2 (Qs number p y)) ([], 0)) : Option (((List api_Cell)))).bind (t1 fun (out : List api_Cell) =>
  some out)

def kq_layout_bit (a b : layout_bit) : Bool := (decide (a.frame = b.frame) && (decide (a.word = b.word) && (decide (a.bit = b.bit) && true)))

noncomputable def Q7 (x : api_Place) (out2 : List layout_bit) (i : Int) : Option (((List layout_bit) × Int) ⊕ ((List layout_bit))) :=
  if (decide (i < x.Bits)) = true then
  (app out2 ([(layout_bit.mk x.Frame x.Word (i64 (x.Low + i)))] : List layout_bit)).bind fun l =>
  some (.inl (l, (i64 (i + 1))))
  else
  some (.inr out2)

noncomputable def Xv (x : api_Place) : Option (List layout_bit) :=
  ((loop (t2 (Q7 x)) ([], 0)) : Option (((List layout_bit)))).bind (t1 fun (out : List layout_bit) =>
  some out)

noncomputable def QT (owner : Int) (y : (List layout_bit)) (o4 : List (layout_bit × Int)) (i2 : Int) : Option (((List (layout_bit × Int)) × Int) ⊕ (Bool × (List (layout_bit × Int))) ⊕ ((List (layout_bit × Int)))) :=
  if (decide (i2 < (y.length : Int))) = true then
  (idx y i2).bind fun x2 =>
  (some (Zbw kq_layout_bit o4 x2)).bind fun o5 =>
  if o5.isSome = true then
  some (.inr (.inl (false, o4)))
  else
  some (.inl ((ZeB kq_layout_bit o4 x2 owner), (i64 (i2 + 1))))
  else
  some (.inr (.inr o4))

noncomputable def QU (owner : Int) (l : List api_Place) (o2 : List (layout_bit × Int)) (i : Int) : Option (((List (layout_bit × Int)) × Int) ⊕ (Bool × (List (layout_bit × Int))) ⊕ ((List (layout_bit × Int)))) :=
  if (decide (i < (l.length : Int))) = true then
  (((idx l i).bind fun x =>
  (Xv x).bind fun y =>
  loop (t2 (QT owner y)) (o2, 0)) : Option ((Bool × (List (layout_bit × Int))) ⊕ ((List (layout_bit × Int))))).bind (Sum.elim (fun q' => some (.inr (.inl q'))) (t1 fun (o3 : List (layout_bit × Int)) =>
  some (.inl (o3, (i64 (i + 1))))))
  else
  some (.inr (.inr o2))

noncomputable def Xd (taken : List (layout_bit × Int)) (owner : Int) (l : List api_Place) : Option (Bool × (List (layout_bit × Int))) :=
  ((loop (t2 (QU owner l)) (taken, 0)) : Option ((Bool × (List (layout_bit × Int))) ⊕ ((List (layout_bit × Int))))).bind (Sum.elim (fun q' => some q') (t1 fun (o : List (layout_bit × Int)) =>
  some (true, o)))

noncomputable def Z8 (y5 : (List api_Cell)) (taken : List (layout_bit × Int)) (i : Int) : Option (((List (layout_bit × Int)) × Int) ⊕ (Int) ⊕ (Unit)) :=
  if (decide (i < (y5.length : Int))) = true then
  (idx y5 i).bind fun x =>
  (Xd taken 0 x.Places).bind fun y6 =>
  if (!y6.1) = true then
  some (.inr (.inl 5))
  else
  some (.inl (y6.2, (i64 (i + 1))))
  else
  some (.inr (.inr ()))

noncomputable def Qv (p : api_Param) : Option Int :=
  (X5 p.Name).bind fun y =>
  if (!y) = true then
  some 8
  else
  (ZW p.Kind 1 6).bind fun y2 =>
  if (!y2) = true then
  some 7
  else
  (QN p).bind fun y3 =>
  if (!decide (y3 = 0)) = true then
  some y3
  else
  (QO p).bind fun y4 =>
  if (!decide (y4 = 0)) = true then
  some y4
  else
  (QB 0 p).bind fun y5 =>
  ((loop (t2 (Z8 y5)) (([] : List (layout_bit × Int)), 0)) : Option ((Int) ⊕ (Unit))).bind (Sum.elim (fun q' => some q') (t0 (if (decide ((y5.length : Int) = 0)) = true then
  some 13
  else
  some 0)))

noncomputable def Zx (s : List api_Param) (f : api_Param → Option Bool) (i : Int) : Option ((Int) ⊕ (Int) ⊕ (Unit)) :=
  if (decide (i < (s.length : Int))) = true then
  (idx s i).bind fun x =>
  (f x).bind fun y =>
  if y = true then
  some (.inr (.inl i))
  else
  some (.inl (i64 (i + 1)))
  else
  some (.inr (.inr ()))

noncomputable def ZI (s : List api_Param) (f : api_Param → Option Bool) : Option Int :=
  ((loop (t1 (Zx s f)) 0) : Option ((Int) ⊕ (Unit))).bind (Sum.elim (fun q' => some q') (t0 (some (-1))))

noncomputable def Zt (s : List api_Param) (f : api_Param → Option Bool) : Option Bool :=
  (ZI s f).bind fun y =>
  some (decide (0 ≤ y))

noncomputable def Jg (q : api_Param) (c0 : api_Param) : Option Bool :=
  some (decide (q.Name = c0.Name))

noncomputable def Xn (m : api_Map) (i : Int) : Option ((Int) ⊕ (Int × Int) ⊕ (Unit)) :=
  if (decide (i < (m.Params.length : Int))) = true then
  (idx m.Params i).bind fun x =>
  (Qv x).bind fun y2 =>
  if (!decide (y2 = 0)) = true then
  some (.inr (.inl (i, y2)))
  else
  (slc m.Params 0 i).bind fun l =>
  (Zt l (fun z0 => Jg z0 x)).bind fun y3 =>
  if y3 = true then
  some (.inr (.inl (i, 5)))
  else
  some (.inl (i64 (i + 1)))
  else
  some (.inr (.inr ()))

noncomputable def Q1 (m : api_Map) (cells : Int) (i2 : Int) : Option ((Int × Int) ⊕ (Int × Int) ⊕ (Unit)) :=
  if (decide (i2 < (m.Params.length : Int))) = true then
  (idx m.Params i2).bind fun x2 =>
  (Xb x2).bind fun y4 =>
  if (decide (4000 < (i64 (cells + (i64 ((y4.length : Int) * x2.Times)))))) = true then
  some (.inr (.inl (i2, 3)))
  else
  some (.inl ((i64 (cells + (i64 ((y4.length : Int) * x2.Times)))), (i64 (i2 + 1))))
  else
  some (.inr (.inr ()))

noncomputable def Q2 (i3 : Int) (y5 : (List api_Cell)) (taken3 : List (layout_bit × Int)) (i4 : Int) : Option (((List (layout_bit × Int)) × Int) ⊕ (Int × Int) ⊕ ((List (layout_bit × Int)))) :=
  if (decide (i4 < (y5.length : Int))) = true then
  (idx y5 i4).bind fun x4 =>
  (Xd taken3 i3 x4.Places).bind fun y6 =>
  if (!y6.1) = true then
  some (.inr (.inl (i3, 5)))
  else
  some (.inl (y6.2, (i64 (i4 + 1))))
  else
  some (.inr (.inr taken3))

noncomputable def QX (m : api_Map) (taken : List (layout_bit × Int)) (i3 : Int) : Option (((List (layout_bit × Int)) × Int) ⊕ (Int × Int) ⊕ (Unit)) :=
  if (decide (i3 < (m.Params.length : Int))) = true then
  (((idx m.Params i3).bind fun x3 =>
  (QB i3 x3).bind fun y5 =>
  loop (t2 (Q2 i3 y5)) (taken, 0)) : Option ((Int × Int) ⊕ ((List (layout_bit × Int))))).bind (Sum.elim (fun q' => some (.inr (.inl q'))) (t1 fun (taken2 : List (layout_bit × Int)) =>
  some (.inl (taken2, (i64 (i3 + 1))))))
  else
  some (.inr (.inr ()))

noncomputable def QG (m : api_Map) : Option (Int × Int) :=
  (ZW m.Version 0 2047).bind fun y =>
  if (!y) = true then
  some ((-1), 9)
  else
  if (decide (200 < (m.Params.length : Int))) = true then
  some ((-1), 3)
  else
  ((loop (t1 (Xn m)) 0) : Option ((Int × Int) ⊕ (Unit))).bind (Sum.elim (fun q' => some q') (t0 (((loop (t2 (Q1 m)) (0, 0)) : Option ((Int × Int) ⊕ (Unit))).bind (Sum.elim (fun q' => some q') (t0 (((loop (t2 (QX m)) (([] : List (layout_bit × Int)), 0)) : Option ((Int × Int) ⊕ (Unit))).bind (Sum.elim (fun q' => some q') (t0 (some ((-1), 0))))))))))

noncomputable def Zcm (q : api_Param) (c0 : api_Param) : Option Bool :=
  some (decide (q.Name = c0.Name))

noncomputable def Ji (p : api_Param) : Option api_Param :=
  (ZeI p.Parts).bind fun y =>
  (ZeI p.Names).bind fun y2 =>
  some (api_Param.mk p.Name p.Kind y p.First p.Every p.Times p.Step y2)

noncomputable def JA (m : api_Map) (out2 : List api_Cell) (i : Int) : Option (((List api_Cell) × Int) ⊕ ((List api_Cell))) :=
  if (decide (i < (m.Params.length : Int))) = true then
  (idx m.Params i).bind fun x =>
  (QB i x).bind fun y =>
  (app out2 y).bind fun l =>
  some (.inl (l, (i64 (i + 1))))
  else
  some (.inr out2)

noncomputable def Xt (m : api_Map) : Option (List api_Cell) :=
  ((loop (t2 (JA m)) ([], 0)) : Option (((List api_Cell)))).bind (t1 fun (out : List api_Cell) =>
  some out)

noncomputable def QP (l : List api_Cell) (out2 : List (layout_bit × Int)) (i : Int) : Option (((List (layout_bit × Int)) × Int) ⊕ ((List (layout_bit × Int)))) :=
  if (decide (i < (l.length : Int))) = true then
  (idx l i).bind fun x =>
  (Xd out2 i x.Places).bind fun y =>
  some (.inl (y.2, (i64 (i + 1))))
  else
  some (.inr out2)

noncomputable def J4 (l : List api_Cell) : Option (List (layout_bit × Int)) :=
  ((loop (t2 (QP l)) (([] : List (layout_bit × Int)), 0)) : Option (((List (layout_bit × Int))))).bind (t1 fun (out : List (layout_bit × Int)) =>
  some out)

noncomputable def XX (p : api_Param) (x : api_Part) (x2 : Int) (out4 : List api_Place) (i2 : Int) : Option (((List api_Place) × Int) ⊕ ((List api_Place))) :=
  if (decide (i2 < p.Times)) = true then
  (QW p x x2 i2).bind fun y2 =>
  (app out4 ([y2] : List api_Place)).bind fun l =>
  some (.inl (l, (i64 (i2 + 1))))
  else
  some (.inr out4)

noncomputable def XV (p : api_Param) (x : api_Part) (y : (List Int)) (out2 : List api_Place) (i : Int) : Option (((List api_Place) × Int) ⊕ ((List api_Place))) :=
  if (decide (i < (y.length : Int))) = true then
  (((idx y i).bind fun x2 =>
  loop (t2 (XX p x x2)) (out2, 0)) : Option (((List api_Place)))).bind (t1 fun (out3 : List api_Place) =>
  some (.inl (out3, (i64 (i + 1)))))
  else
  some (.inr out2)

noncomputable def JY (p : api_Param) (x : api_Part) : Option (List api_Place) :=
  (((Xb p).bind fun y =>
  loop (t2 (XV p x y)) ([], 0)) : Option (((List api_Place)))).bind (t1 fun (out : List api_Place) =>
  some out)

noncomputable def Jb (taken : List (layout_bit × Int)) (y : (List layout_bit)) (i2 : Int) : Option ((Int) ⊕ (Bool) ⊕ (Unit)) :=
  if (decide (i2 < (y.length : Int))) = true then
  (idx y i2).bind fun x2 =>
  (some (Zbw kq_layout_bit taken x2)).bind fun o =>
  if o.isSome = true then
  some (.inr (.inl false))
  else
  some (.inl (i64 (i2 + 1)))
  else
  some (.inr (.inr ()))

noncomputable def JU (taken : List (layout_bit × Int)) (l : List api_Place) (i : Int) : Option ((Int) ⊕ (Bool) ⊕ (Unit)) :=
  if (decide (i < (l.length : Int))) = true then
  (((idx l i).bind fun x =>
  (Xv x).bind fun y =>
  loop (t1 (Jb taken y)) 0) : Option ((Bool) ⊕ (Unit))).bind (Sum.elim (fun q' => some (.inr (.inl q'))) (t0 (some (.inl (i64 (i + 1))))))
  else
  some (.inr (.inr ()))

noncomputable def ZbW (taken : List (layout_bit × Int)) (l : List api_Place) : Option Bool :=
  ((loop (t1 (JU taken l)) 0) : Option ((Bool) ⊕ (Unit))).bind (Sum.elim (fun q' => some q') (t0 ((Xd ([] : List (layout_bit × Int)) 0 l).bind fun y2 =>
  some y2.1)))

noncomputable def Xi (taken : List (layout_bit × Int)) (p : api_Param) (x3 : api_Part) (Low2 : Int) : Option ((Int) ⊕ (api_Part × Bool × (List (layout_bit × Int))) ⊕ (Int)) :=
  if (decide ((i64 (Low2 + x3.Bits)) ≤ 11)) = true then
  (JY p (api_Part.mk x3.Frame x3.Word Low2 x3.Bits)).bind fun y =>
  (ZbW taken y).bind fun y2 =>
  if y2 = true then
  (Xd taken 0 y).bind fun y3 =>
  some (.inr (.inl ((api_Part.mk x3.Frame x3.Word Low2 x3.Bits), true, y3.2)))
  else
  some (.inl (i64 (Low2 + 1)))
  else
  some (.inr (.inr Low2))

noncomputable def XW (taken : List (layout_bit × Int)) (p : api_Param) (x3 : api_Part) : Option ((api_Part) ⊕ (api_Part × Bool × (List (layout_bit × Int))) ⊕ (api_Part)) :=
  if (decide ((i64 (x3.Word + (i64 ((i64 (p.Times - 1)) * p.Step)))) ≤ 60)) = true then
  ((loop (t1 (Xi taken p x3)) 0) : Option ((api_Part × Bool × (List (layout_bit × Int))) ⊕ (Int))).bind (Sum.elim (fun q' => some (.inr (.inl q'))) (t1 fun (Low : Int) =>
  some (.inl (api_Part.mk x3.Frame (i64 (x3.Word + 1)) Low x3.Bits))))
  else
  some (.inr (.inr x3))

noncomputable def Je (taken : List (layout_bit × Int)) (p : api_Param) (x : api_Part) : Option (api_Part × Bool × (List (layout_bit × Int))) :=
  ((loop (t1 (XW taken p)) (api_Part.mk x.Frame 4 x.Low x.Bits)) : Option ((api_Part × Bool × (List (layout_bit × Int))) ⊕ (api_Part))).bind (Sum.elim (fun q' => some q') (t1 fun (x2 : api_Part) =>
  some (x2, false, taken)))

noncomputable def X2 (y4 : api_Param) (Parts2 : List api_Part) (taken : List (layout_bit × Int)) (i : Int) : Option (((List api_Part) × (List (layout_bit × Int)) × Int) ⊕ (api_Param × Int) ⊕ ((List api_Part))) :=
  if (decide (i < (y4.Parts.length : Int))) = true then
  (idx Parts2 i).bind fun x =>
  (Je taken (api_Param.mk y4.Name y4.Kind Parts2 y4.First y4.Every y4.Times y4.Step y4.Names) x).bind fun y7 =>
  if (!y7.2.1) = true then
  some (.inr (.inl ((api_Param.mk [] 0 [] 0 0 0 0 []), 4)))
  else
  (idx Parts2 i).bind fun x2 =>
  some (.inl ((Parts2.set i.toNat y7.1), y7.2.2, (i64 (i + 1))))
  else
  some (.inr (.inr Parts2))

noncomputable def Zcw (m : api_Map) (p : api_Param) : Option (api_Param × Int) :=
  (QG m).bind fun y =>
  if (!decide (y.2 = 0)) = true then
  some ((api_Param.mk [] 0 [] 0 0 0 0 []), y.2)
  else
  (Qv p).bind fun y2 =>
  if (!decide (y2 = 0)) = true then
  some ((api_Param.mk [] 0 [] 0 0 0 0 []), y2)
  else
  (Zt m.Params (fun z0 => Zcm z0 p)).bind fun y3 =>
  if y3 = true then
  some ((api_Param.mk [] 0 [] 0 0 0 0 []), 5)
  else
  (Ji p).bind fun y4 =>
  (Xt m).bind fun y5 =>
  (J4 y5).bind fun y6 =>
  ((loop (t3 (X2 y4)) (y4.Parts, y6, 0)) : Option ((api_Param × Int) ⊕ ((List api_Part)))).bind (Sum.elim (fun q' => some q') (t1 fun (Parts : List api_Part) =>
  (ZeI m.Params).bind fun y8 =>
  (app y8 ([(api_Param.mk y4.Name y4.Kind Parts y4.First y4.Every y4.Times y4.Step y4.Names)] : List api_Param)).bind fun l =>
  (QG (api_Map.mk m.Version l)).bind fun y9 =>
  if (!decide (y9.2 = 0)) = true then
  some ((api_Param.mk [] 0 [] 0 0 0 0 []), y9.2)
  else
  some ((api_Param.mk y4.Name y4.Kind Parts y4.First y4.Every y4.Times y4.Step y4.Names), 0)))

noncomputable def QF (n : Int) (low : Int) (high : Int) : Option Bool :=
  some ((decide (n < low)) || (decide (high < n)))

noncomputable def Jj (s : Str) (i : Int) : Option ((Int) ⊕ (Bool) ⊕ (Unit)) :=
  if (decide (i < (s.length : Int))) = true then
  (ZiP s i).bind fun b =>
  if (!(((decide (97 ≤ b)) && (decide (b ≤ 122))) || ((decide (0 < i)) && (((decide (48 ≤ b)) && (decide (b ≤ 57))) || (decide (b = 45)))))) = true then
  some (.inr (.inl false))
  else
  some (.inl (i64 (i + 1)))
  else
  some (.inr (.inr ()))

noncomputable def Za2 (s : Str) : Option Bool :=
  ((loop (t1 (Jj s)) 0) : Option ((Bool) ⊕ (Unit))).bind (Sum.elim (fun q' => some q') (t0 (some ((decide (1 ≤ (s.length : Int))) && (decide ((s.length : Int) ≤ 30))))))

noncomputable def Zfy (p : api_Param) (n2 : Int) (i : Int) : Option ((Int × Int) ⊕ (Int)) :=
  if (decide (i < (p.Parts.length : Int))) = true then
  (idx p.Parts i).bind fun x =>
  some (.inl ((i64 (n2 + x.Bits)), (i64 (i + 1))))
  else
  some (.inr n2)

noncomputable def Zc6 (p : api_Param) : Option Int :=
  ((loop (t2 (Zfy p)) (0, 0)) : Option ((Int))).bind (t1 fun (n : Int) =>
  some n)

noncomputable def Jq (p : api_Param) (i : Int) : Option ((Int) ⊕ (Int) ⊕ (Unit)) :=
  if (decide (i < (p.Parts.length : Int))) = true then
  (idx p.Parts i).bind fun x =>
  (QF x.Frame 0 15).bind fun y =>
  (gd (y == false) false (QF x.Word 4 60)).bind fun y2 =>
  (gd ((y || y2) == false) false (QF x.Low 0 10)).bind fun y3 =>
  (gd (((y || y2) || y3) == false) false (QF x.Bits 1 (i64 (11 - x.Low)))).bind fun y4 =>
  if (((y || y2) || y3) || y4) = true then
  some (.inr (.inl 9))
  else
  some (.inl (i64 (i + 1)))
  else
  some (.inr (.inr ()))

noncomputable def JB (p : api_Param) : Option Int :=
  if (decide ((p.Parts.length : Int) = 0)) = true then
  some 13
  else
  if (decide (8 < (p.Parts.length : Int))) = true then
  some 3
  else
  ((loop (t1 (Jq p)) 0) : Option ((Int) ⊕ (Unit))).bind (Sum.elim (fun q' => some q') (t0 ((Zc6 p).bind fun y5 =>
  if (decide (40 < y5)) = true then
  some 3
  else
  some 0)))

noncomputable def XB (p : api_Param) (i : Int) : Option ((Int) ⊕ (Int) ⊕ (Unit)) :=
  if (decide (i < (p.Parts.length : Int))) = true then
  (idx p.Parts i).bind fun x =>
  if (((decide (1 < p.Times)) && (decide (57 < p.Step))) || (decide (60 < (i64 (x.Word + (i64 ((i64 (p.Times - 1)) * p.Step))))))) = true then
  some (.inr (.inl 9))
  else
  some (.inl (i64 (i + 1)))
  else
  some (.inr (.inr ()))

noncomputable def XS (p : api_Param) : Option Int :=
  ((if (decide (p.Every = 1)) = true then
  if (decide (p.Every = 1)) = true then
  some (.inr ())
  else
  some (.inl 9)
  else
  if (decide (p.Every = 2)) = true then
  if (decide (p.Every = 2)) = true then
  some (.inr ())
  else
  some (.inl 9)
  else
  if (decide (p.Every = 4)) = true then
  if (decide (p.Every = 4)) = true then
  some (.inr ())
  else
  some (.inl 9)
  else
  if (decide (p.Every = 8)) = true then
  if (decide (p.Every = 8)) = true then
  some (.inr ())
  else
  some (.inl 9)
  else
  if (decide (p.Every = 16)) = true then
  some (.inr ())
  else
  some (.inl 9)) : Option ((Int) ⊕ (Unit))).bind (Sum.elim (fun q' => some q') (t0 ((QF p.First 0 (i64 (p.Every - 1))).bind fun y =>
  (gd (y == false) false (QF p.Times 1 57)).bind fun y2 =>
  if (((y || y2) || (decide (p.Step < 0))) || (!((decide (p.Step = 0)) == (decide (p.Times = 1))))) = true then
  some 9
  else
  ((loop (t1 (XB p)) 0) : Option ((Int) ⊕ (Unit))).bind (Sum.elim (fun q' => some q') (t0 (some 0))))))

noncomputable def XT (x : Str) (l : List Str) (i2 : Int) : Option ((Int) ⊕ (Int) ⊕ (Unit)) :=
  if (decide (i2 < (l.length : Int))) = true then
  (idx l i2).bind fun x2 =>
  if (decide (x = x2)) = true then
  some (.inr (.inl 5))
  else
  some (.inl (i64 (i2 + 1)))
  else
  some (.inr (.inr ()))

noncomputable def XZ (p : api_Param) (i : Int) : Option ((Int) ⊕ (Int) ⊕ (Unit)) :=
  if (decide (i < (p.Names.length : Int))) = true then
  (((idx p.Names i).bind fun x =>
  (Za2 x).bind fun y2 =>
  if (!y2) = true then
  some (.inl 8)
  else
  (slc p.Names 0 i).bind fun l =>
  loop (t1 (XT x l)) 0) : Option ((Int) ⊕ (Unit))).bind (Sum.elim (fun q' => some (.inr (.inl q'))) (t0 (some (.inl (i64 (i + 1))))))
  else
  some (.inr (.inr ()))

noncomputable def JW (p : api_Param) : Option Int :=
  (Zc6 p).bind fun y =>
  (gd ((decide (p.Kind = 4)) == true) 0 (rem y 4)).bind fun q =>
  if ((((decide (p.Kind = 4)) && (!decide (q = 0))) || ((decide (p.Kind = 5)) && (!decide (y = 1)))) || (((decide (p.Kind = 2)) || (decide (p.Kind = 3))) && (decide (y = 1)))) = true then
  some 2
  else
  if (!decide (p.Kind = 6)) = true then
  if (decide (0 < (p.Names.length : Int))) = true then
  some 2
  else
  some 0
  else
  if (decide ((p.Names.length : Int) = 0)) = true then
  some 13
  else
  (gd ((decide (64 < (p.Names.length : Int))) == false) 0 (shl .i64 1 y)).bind fun q2 =>
  if ((decide (64 < (p.Names.length : Int))) || (decide (q2 < (p.Names.length : Int)))) = true then
  some 3
  else
  ((loop (t1 (XZ p)) 0) : Option ((Int) ⊕ (Unit))).bind (Sum.elim (fun q' => some q') (t0 (some 0)))

noncomputable def JH (p : api_Param) (f : Int) (inside2 : Bool) (i : Int) : Option ((Bool × Int) ⊕ (Bool)) :=
  if (decide (i < (p.Parts.length : Int))) = true then
  (idx p.Parts i).bind fun x =>
  some (.inl ((inside2 && (decide ((i64 (f + x.Frame)) < 16))), (i64 (i + 1))))
  else
  some (.inr inside2)

noncomputable def ZbT (p : api_Param) (f : Int) (j : Int) (Places2 : List api_Place) (i2 : Int) : Option (((List api_Place) × Int) ⊕ ((List api_Place))) :=
  if (decide (i2 < (p.Parts.length : Int))) = true then
  (idx p.Parts i2).bind fun x2 =>
  (app Places2 ([(api_Place.mk (i64 (f + x2.Frame)) (i64 (x2.Word + (i64 (j * p.Step)))) x2.Low x2.Bits)] : List api_Place)).bind fun l =>
  some (.inl (l, (i64 (i2 + 1))))
  else
  some (.inr Places2)

noncomputable def JG (p : api_Param) (number : Int) (f : Int) (XO : Bool) (out4 : List api_Cell) (j : Int) : Option (((List api_Cell) × Int) ⊕ ((List api_Cell))) :=
  if ((decide (j < p.Times)) && XO) = true then
  ((loop (t2 (ZbT p f j)) ([], 0)) : Option (((List api_Place)))).bind (t1 fun (Places : List api_Place) =>
  (app out4 ([(api_Cell.mk number (out4.length : Int) f Places)] : List api_Cell)).bind fun l2 =>
  some (.inl (l2, (i64 (j + 1)))))
  else
  some (.inr out4)

noncomputable def Xw (p : api_Param) (number : Int) (out2 : List api_Cell) (f : Int) : Option (((List api_Cell) × Int) ⊕ ((List api_Cell))) :=
  if (decide (f < 16)) = true then
  ((((loop (t2 (JH p f)) (true, 0)) : Option ((Bool))).bind (t1 fun (XO : Bool) =>
  loop (t2 (JG p number f XO)) (out2, 0))) : Option (((List api_Cell)))).bind (t1 fun (out3 : List api_Cell) =>
  some (.inl (out3, (i64 (f + p.Every)))))
  else
  some (.inr out2)

noncomputable def X3 (p : api_Param) (number : Int) : Option (List api_Cell) :=
  ((loop (t2 (Xw p number)) ([], p.First)) : Option (((List api_Cell)))).bind (t1 fun (out : List api_Cell) =>
  some out)

noncomputable def Q8 (x : api_Place) (o4 : List ((Vector Int 3) × Bool)) (ok4 : Bool) (b : Int) : Option (((List ((Vector Int 3) × Bool)) × Bool × Int) ⊕ ((List ((Vector Int 3) × Bool)) × Bool)) :=
  if (decide (b < (i64 (x.Low + x.Bits)))) = true then
  (gd (ok4 == true) false (some ((Zbw kqV o4 (#v[x.Frame, x.Word, b] : Vector Int 3)).getD false))).bind fun o5 =>
  some (.inl ((ZeB kqV o4 (#v[x.Frame, x.Word, b] : Vector Int 3) true), (ok4 && (!o5)), (i64 (b + 1))))
  else
  some (.inr (o4, ok4))

noncomputable def Q9 (l : List api_Place) (o2 : List ((Vector Int 3) × Bool)) (ok2 : Bool) (i : Int) : Option (((List ((Vector Int 3) × Bool)) × Bool × Int) ⊕ ((List ((Vector Int 3) × Bool)) × Bool)) :=
  if (decide (i < (l.length : Int))) = true then
  (((idx l i).bind fun x =>
  loop (t3 (Q8 x)) (o2, ok2, x.Low)) : Option (((List ((Vector Int 3) × Bool)) × Bool))).bind (t2 fun (o3 : List ((Vector Int 3) × Bool)) (ok3 : Bool) =>
  some (.inl (o3, ok3, (i64 (i + 1)))))
  else
  some (.inr (o2, ok2))

noncomputable def Xp (t : List ((Vector Int 3) × Bool)) (l : List api_Place) : Option (Bool × (List ((Vector Int 3) × Bool))) :=
  ((loop (t3 (Q9 l)) (t, true, 0)) : Option (((List ((Vector Int 3) × Bool)) × Bool))).bind (t2 fun (o : List ((Vector Int 3) × Bool)) (ok : Bool) =>
  some (ok, o))

noncomputable def Qw (l : List api_Cell) (o2 : List ((Vector Int 3) × Bool)) (ok2 : Bool) (i : Int) : Option (((List ((Vector Int 3) × Bool)) × Bool × Int) ⊕ ((List ((Vector Int 3) × Bool)) × Bool)) :=
  if (decide (i < (l.length : Int))) = true then
  (idx l i).bind fun x =>
  (Xp o2 x.Places).bind fun y =>
  if (!y.1) = true then
  some (.inl (y.2, false, (i64 (i + 1))))
  else
  some (.inl (y.2, ok2, (i64 (i + 1))))
  else
  some (.inr (o2, ok2))

noncomputable def QH (t : List ((Vector Int 3) × Bool)) (l : List api_Cell) : Option (Bool × (List ((Vector Int 3) × Bool))) :=
  ((loop (t3 (Qw l)) (t, true, 0)) : Option (((List ((Vector Int 3) × Bool)) × Bool))).bind (t2 fun (o : List ((Vector Int 3) × Bool)) (ok : Bool) =>
  some (ok, o))

noncomputable def XR (p : api_Param) : Option Int :=
  (Za2 p.Name).bind fun y =>
  if (!y) = true then
  some 8
  else
  (QF p.Kind 1 6).bind fun y2 =>
  if y2 = true then
  some 7
  else
  (JB p).bind fun y3 =>
  if (!decide (y3 = 0)) = true then
  some y3
  else
  (XS p).bind fun y4 =>
  if (!decide (y4 = 0)) = true then
  some y4
  else
  (JW p).bind fun y5 =>
  if (!decide (y5 = 0)) = true then
  some y5
  else
  (X3 p 0).bind fun y6 =>
  (QH ([] : List ((Vector Int 3) × Bool)) y6).bind fun y7 =>
  if (!y7.1) = true then
  some 5
  else
  if (decide ((y6.length : Int) = 0)) = true then
  some 13
  else
  some 0

noncomputable def ZaG (i : Int) (x : api_Param) (l : List api_Param) (i2 : Int) : Option ((Int) ⊕ (Int × Int) ⊕ (Unit)) :=
  if (decide (i2 < (l.length : Int))) = true then
  (idx l i2).bind fun x2 =>
  if (decide (x2.Name = x.Name)) = true then
  some (.inr (.inl (i, 5)))
  else
  some (.inl (i64 (i2 + 1)))
  else
  some (.inr (.inr ()))

noncomputable def ZaF (m : api_Map) (i : Int) : Option ((Int) ⊕ (Int × Int) ⊕ (Unit)) :=
  if (decide (i < (m.Params.length : Int))) = true then
  (((idx m.Params i).bind fun x =>
  (XR x).bind fun y2 =>
  if (!decide (y2 = 0)) = true then
  some (.inl (i, y2))
  else
  (slc m.Params 0 i).bind fun l =>
  loop (t1 (ZaG i x l)) 0) : Option ((Int × Int) ⊕ (Unit))).bind (Sum.elim (fun q' => some (.inr (.inl q'))) (t0 (some (.inl (i64 (i + 1))))))
  else
  some (.inr (.inr ()))

noncomputable def JF (m : api_Map) (n : Int) (i3 : Int) : Option ((Int × Int) ⊕ (Int × Int) ⊕ (Unit)) :=
  if (decide (i3 < (m.Params.length : Int))) = true then
  (idx m.Params i3).bind fun x3 =>
  (X3 x3 i3).bind fun y3 =>
  if (decide (4000 < (i64 (n + (y3.length : Int))))) = true then
  some (.inr (.inl (i3, 3)))
  else
  some (.inl ((i64 (n + (y3.length : Int))), (i64 (i3 + 1))))
  else
  some (.inr (.inr ()))

noncomputable def JE (m : api_Map) (t : List ((Vector Int 3) × Bool)) (i4 : Int) : Option (((List ((Vector Int 3) × Bool)) × Int) ⊕ (Int × Int) ⊕ (Unit)) :=
  if (decide (i4 < (m.Params.length : Int))) = true then
  (idx m.Params i4).bind fun x4 =>
  (X3 x4 i4).bind fun y4 =>
  (QH t y4).bind fun y5 =>
  if (!y5.1) = true then
  some (.inr (.inl (i4, 5)))
  else
  some (.inl (y5.2, (i64 (i4 + 1))))
  else
  some (.inr (.inr ()))

noncomputable def ZaW (m : api_Map) : Option (Int × Int) :=
  (QF m.Version 0 2047).bind fun y =>
  if y = true then
  some (0, 9)
  else
  if (decide (200 < (m.Params.length : Int))) = true then
  some (0, 3)
  else
  ((loop (t1 (ZaF m)) 0) : Option ((Int × Int) ⊕ (Unit))).bind (Sum.elim (fun q' => some q') (t0 (((loop (t2 (JF m)) (0, 0)) : Option ((Int × Int) ⊕ (Unit))).bind (Sum.elim (fun q' => some q') (t0 (((loop (t2 (JE m)) (([] : List ((Vector Int 3) × Bool)), 0)) : Option ((Int × Int) ⊕ (Unit))).bind (Sum.elim (fun q' => some q') (t0 (some (0, 0))))))))))

noncomputable def ZbQ (m : api_Map) (out2 : List api_Cell) (i : Int) : Option (((List api_Cell) × Int) ⊕ ((List api_Cell))) :=
  if (decide (i < (m.Params.length : Int))) = true then
  (idx m.Params i).bind fun x =>
  (X3 x i).bind fun y =>
  (app out2 y).bind fun l =>
  some (.inl (l, (i64 (i + 1))))
  else
  some (.inr out2)

noncomputable def ZaC (m : api_Map) : Option (List api_Cell) :=
  ((loop (t2 (ZbQ m)) ([], 0)) : Option (((List api_Cell)))).bind (t1 fun (out : List api_Cell) =>
  some out)

noncomputable def Jh (q : api_Param) (x : api_Cell) (q2 : Int) (t3 : List ((Vector Int 3) × Bool)) (i2 : Int) : Option (((List ((Vector Int 3) × Bool)) × Int) ⊕ (Bool) ⊕ ((List ((Vector Int 3) × Bool)))) :=
  if (decide (i2 < (q.Parts.length : Int))) = true then
  (idx q.Parts i2).bind fun x2 =>
  (Xp t3 ([(api_Place.mk (i64 (x.Frame + x2.Frame)) (i64 (x2.Word + (i64 (q2 * q.Step)))) x2.Low x2.Bits)] : List api_Place)).bind fun y5 =>
  if (!y5.1) = true then
  some (.inr (.inl false))
  else
  some (.inl (y5.2, (i64 (i2 + 1))))
  else
  some (.inr (.inr t3))

noncomputable def Jd (p : api_Param) (q : api_Param) (y4 : (List api_Cell)) (t : List ((Vector Int 3) × Bool)) (i : Int) : Option (((List ((Vector Int 3) × Bool)) × Int) ⊕ (Bool) ⊕ (Unit)) :=
  if (decide (i < (y4.length : Int))) = true then
  (((idx y4 i).bind fun x =>
  (rem x.Index p.Times).bind fun q2 =>
  loop (t2 (Jh q x q2)) (t, 0)) : Option ((Bool) ⊕ ((List ((Vector Int 3) × Bool))))).bind (Sum.elim (fun q' => some (.inr (.inl q'))) (t1 fun (t2 : List ((Vector Int 3) × Bool)) =>
  some (.inl (t2, (i64 (i + 1))))))
  else
  some (.inr (.inr ()))

noncomputable def ZbZ (m : api_Map) (p : api_Param) (q : api_Param) : Option Bool :=
  (XS q).bind fun y =>
  if (!decide (y = 0)) = true then
  some false
  else
  (ZaC m).bind fun y2 =>
  (QH ([] : List ((Vector Int 3) × Bool)) y2).bind fun y3 =>
  (((X3 p 0).bind fun y4 =>
  loop (t2 (Jd p q y4)) (y3.2, 0)) : Option ((Bool) ⊕ (Unit))).bind (Sum.elim (fun q' => some q') (t0 (some true)))

noncomputable def Zb7 (m : api_Map) (p : api_Param) (i : Int) : Option ((Int) ⊕ (api_Param × Int) ⊕ (Unit)) :=
  if (decide (i < (m.Params.length : Int))) = true then
  (idx m.Params i).bind fun x =>
  if (decide (x.Name = p.Name)) = true then
  some (.inr (.inl ((api_Param.mk [] 0 [] 0 0 0 0 []), 5)))
  else
  some (.inl (i64 (i + 1)))
  else
  some (.inr (.inr ()))

noncomputable def Jm (m : api_Map) (p : api_Param) (w : Int) (Parts6 : List api_Part) (x5 : api_Part) (found4 : Bool) (low : Int) : Option (((List api_Part) × api_Part × Bool × Int) ⊕ ((List api_Part) × api_Part × Bool)) :=
  if ((decide ((i64 (low + x5.Bits)) ≤ 11)) && (!found4)) = true then
  (((app ([] : List api_Part) Parts6).bind fun l =>
  (app l ([(api_Part.mk x5.Frame w low x5.Bits)] : List api_Part)).bind fun l2 =>
  (ZbZ m p (api_Param.mk p.Name p.Kind l2 p.First p.Every p.Times p.Step p.Names)).bind fun y3 =>
  if y3 = true then
  some (l2, true)
  else
  some (Parts6, found4)) : Option (((List api_Part) × Bool))).bind (t2 fun (Parts7 : List api_Part) (found5 : Bool) =>
  some (.inl (Parts7, (api_Part.mk x5.Frame w low x5.Bits), found5, (i64 (low + 1)))))
  else
  some (.inr (Parts6, x5, found4))

noncomputable def Jl (m : api_Map) (p : api_Param) (Parts4 : List api_Part) (x3 : api_Part) (found2 : Bool) (w : Int) : Option (((List api_Part) × api_Part × Bool × Int) ⊕ ((List api_Part) × Bool)) :=
  if ((decide (w ≤ 60)) && (!found2)) = true then
  ((loop (t4 (Jm m p w)) (Parts4, x3, found2, 0)) : Option (((List api_Part) × api_Part × Bool))).bind (t3 fun (Parts5 : List api_Part) (x4 : api_Part) (found3 : Bool) =>
  some (.inl (Parts5, x4, found3, (i64 (w + 1)))))
  else
  some (.inr (Parts4, found2))

noncomputable def J2 (m : api_Map) (p : api_Param) (Parts2 : List api_Part) (i2 : Int) : Option (((List api_Part) × Int) ⊕ (api_Param × Int) ⊕ ((List api_Part))) :=
  if (decide (i2 < (p.Parts.length : Int))) = true then
  (idx p.Parts i2).bind fun x2 =>
  ((loop (t4 (Jl m p)) (Parts2, x2, false, 4)) : Option (((List api_Part) × Bool))).bind (t2 fun (Parts3 : List api_Part) (found : Bool) =>
  if (!found) = true then
  some (.inr (.inl ((api_Param.mk [] 0 [] 0 0 0 0 []), 4)))
  else
  some (.inl (Parts3, (i64 (i2 + 1)))))
  else
  some (.inr (.inr Parts2))

noncomputable def Zeg (m : api_Map) (p : api_Param) : Option (api_Param × Int) :=
  (ZaW m).bind fun y =>
  if (!decide (y.2 = 0)) = true then
  some ((api_Param.mk [] 0 [] 0 0 0 0 []), y.2)
  else
  (XR p).bind fun y2 =>
  if (!decide (y2 = 0)) = true then
  some ((api_Param.mk [] 0 [] 0 0 0 0 []), y2)
  else
  ((loop (t1 (Zb7 m p)) 0) : Option ((api_Param × Int) ⊕ (Unit))).bind (Sum.elim (fun q' => some q') (t0 (((loop (t2 (J2 m p)) ([], 0)) : Option ((api_Param × Int) ⊕ ((List api_Part)))).bind (Sum.elim (fun q' => some q') (t1 fun (Parts : List api_Part) =>
  (app ([] : List api_Param) m.Params).bind fun l3 =>
  (app l3 ([(api_Param.mk p.Name p.Kind Parts p.First p.Every p.Times p.Step p.Names)] : List api_Param)).bind fun l4 =>
  (ZaW (api_Map.mk m.Version l4)).bind fun y4 =>
  if (!decide (y4.2 = 0)) = true then
  some ((api_Param.mk [] 0 [] 0 0 0 0 []), y4.2)
  else
  some ((api_Param.mk p.Name p.Kind Parts p.First p.Every p.Times p.Step p.Names), 0))))))

noncomputable def Qc (s1 : List api_Part) (s2 : List api_Part) (i : Int) : Option ((Int) ⊕ (Bool) ⊕ (Unit)) :=
  if (decide (i < (s1.length : Int))) = true then
  (idx s1 i).bind fun x =>
  (idx s2 i).bind fun x2 =>
  if (!(decide (x.Frame = x2.Frame) && (decide (x.Word = x2.Word) && (decide (x.Low = x2.Low) && (decide (x.Bits = x2.Bits) && true))))) = true then
  some (.inr (.inl false))
  else
  some (.inl (i64 (i + 1)))
  else
  some (.inr (.inr ()))

noncomputable def Z2 (s1 : List api_Part) (s2 : List api_Part) : Option Bool :=
  if (!decide ((s1.length : Int) = (s2.length : Int))) = true then
  some false
  else
  ((loop (t1 (Qc s1 s2)) 0) : Option ((Bool) ⊕ (Unit))).bind (Sum.elim (fun q' => some q') (t0 (some true)))

noncomputable def Qr (s1 : List Str) (s2 : List Str) (i : Int) : Option ((Int) ⊕ (Bool) ⊕ (Unit)) :=
  if (decide (i < (s1.length : Int))) = true then
  (idx s1 i).bind fun x =>
  (idx s2 i).bind fun x2 =>
  if (!decide (x = x2)) = true then
  some (.inr (.inl false))
  else
  some (.inl (i64 (i + 1)))
  else
  some (.inr (.inr ()))

noncomputable def Qk (s1 : List Str) (s2 : List Str) : Option Bool :=
  if (!decide ((s1.length : Int) = (s2.length : Int))) = true then
  some false
  else
  ((loop (t1 (Qr s1 s2)) 0) : Option ((Bool) ⊕ (Unit))).bind (Sum.elim (fun q' => some q') (t0 (some true)))

noncomputable def Xc (a : api_Param) (b : api_Param) : Option Bool :=
  (gd (((decide (a.Name = b.Name)) && (decide (a.Kind = b.Kind))) == true) false (Z2 a.Parts b.Parts)).bind fun y =>
  (gd ((((((((decide (a.Name = b.Name)) && (decide (a.Kind = b.Kind))) && y) && (decide (a.First = b.First))) && (decide (a.Every = b.Every))) && (decide (a.Times = b.Times))) && (decide (a.Step = b.Step))) == true) false (Qk a.Names b.Names)).bind fun y2 =>
  some ((((((((decide (a.Name = b.Name)) && (decide (a.Kind = b.Kind))) && y) && (decide (a.First = b.First))) && (decide (a.Every = b.Every))) && (decide (a.Times = b.Times))) && (decide (a.Step = b.Step))) && y2)

noncomputable def Zbu (v : Int) : Option Int :=
  some v

noncomputable def Zap (raw : Int) (c0 : Int) : Option (Int × Bool) :=
  some (raw, (decide (raw ≤ c0)))

noncomputable def Qu (high : Int) : Option layout_number :=
  some (layout_number.mk 0 high (Fv.mk (fun z0 => Zbu z0) 66 []) (Fv.mk (fun z0 => Zap z0 high) 68 [.rp [.int .i64 high] 0]))

noncomputable def Xl (c1 : Int) : Option layout_number :=
  (Qu (i64 ((i64 (2 * c1)) - 1))).bind fun y =>
  some y

noncomputable def Xg  : Option layout_number :=
  (Qu 1).bind fun y =>
  some y

noncomputable def Xh (c1 : api_Param) : Option layout_number :=
  (Qu (i64 ((c1.Names.length : Int) - 1))).bind fun y =>
  some y

noncomputable def Zan (v : Int) (c0 : Int) : Option Int :=
  some (Zhg .i64 v (i64 ((i64 (2 * c0)) - 1)))

noncomputable def Zat (raw : Int) (c0 : Int) : Option (Int × Bool) :=
  if (decide (c0 ≤ raw)) = true then
  some ((i64 (raw - (i64 (2 * c0)))), true)
  else
  some (raw, true)

noncomputable def Qt (c0 : Int) : Option layout_number :=
  some (layout_number.mk (i64 (-c0)) (i64 (c0 - 1)) (Fv.mk (fun z0 => Zan z0 c0) 73 [.rp [.int .i64 c0] 0]) (Fv.mk (fun z0 => Zat z0 c0) 74 [.rp [.int .i64 c0] 0]))

noncomputable def Zax (v : Int) (c0 : Int) : Option Int :=
  if (decide (v < 0)) = true then
  some (i64 (c0 - v))
  else
  some v

noncomputable def Zaw (raw : Int) (c0 : Int) : Option (Int × Bool) :=
  if (decide (c0 ≤ raw)) = true then
  some ((i64 (c0 - raw)), (decide (c0 < raw)))
  else
  some (raw, true)

noncomputable def Xm (c0 : Int) : Option layout_number :=
  some (layout_number.mk (i64 (1 - c0)) (i64 (c0 - 1)) (Fv.mk (fun z0 => Zax z0 c0) 76 [.rp [.int .i64 c0] 0]) (Fv.mk (fun z0 => Zaw z0 c0) 77 [.rp [.int .i64 c0] 0]))

noncomputable def Zbf (v2 : Int) (raw2 : Int) (shift : Int) : Option ((Int × Int × Int) ⊕ (Int)) :=
  if (decide (0 < v2)) = true then
  (rem v2 10).bind fun q =>
  (shl .i64 q shift).bind fun q2 =>
  (quo .i64 v2 10).bind fun q3 =>
  some (.inl (q3, (bor .i64 raw2 q2), (i64 (shift + 4))))
  else
  some (.inr raw2)

noncomputable def Zaz (v : Int) : Option Int :=
  ((loop (t3 (Zbf)) (v, 0, 0)) : Option ((Int))).bind (t1 fun (raw : Int) =>
  some raw)

noncomputable def ZcR (raw : Int) (v2 : Int) (ok2 : Bool) (shift : Int) : Option ((Int × Bool × Int) ⊕ (Int × Bool)) :=
  if (decide (0 ≤ shift)) = true then
  (shr .i64 raw shift).bind fun q =>
  some (.inl ((i64 ((i64 (v2 * 10)) + (Zhg .i64 q 15))), (ok2 && (decide ((Zhg .i64 q 15) < 10))), (i64 (shift - 4))))
  else
  some (.inr (v2, ok2))

noncomputable def ZcK (raw : Int) : Option (Int × Bool) :=
  ((loop (t3 (ZcR raw)) (0, true, 60)) : Option ((Int × Bool))).bind (t2 fun (v : Int) (ok : Bool) =>
  some (v, ok))

noncomputable def ZbV (q : Int) (high2 : Int) (i : Int) : Option ((Int × Int) ⊕ (Int)) :=
  if (decide (i < q)) = true then
  some (.inl ((i64 (high2 * 10)), (i64 (i + 1))))
  else
  some (.inr high2)

noncomputable def Xk (c0 : Int) : Option layout_number :=
  (((quo .i64 c0 4).bind fun q =>
  loop (t2 (ZbV q)) (1, 0)) : Option ((Int))).bind (t1 fun (high : Int) =>
  some (layout_number.mk 0 (i64 (high - 1)) (Fv.mk (fun z0 => Zaz z0) 79 []) (Fv.mk (fun z0 => ZcK z0) 80 [])))

noncomputable def QE (p : api_Param) : Option layout_number :=
  (QD p).bind fun y =>
  (shl .i64 1 (i64 (y - 1))).bind fun q =>
  if decide (p.Kind = 1) = true then
  (Xl q).bind fun y2 =>
  some y2
  else
  if decide (p.Kind = 5) = true then
  (Xg).bind fun y3 =>
  some y3
  else
  if decide (p.Kind = 6) = true then
  (Xh p).bind fun y4 =>
  some y4
  else
  if decide (p.Kind = 2) = true then
  (Qt q).bind fun y5 =>
  some y5
  else
  if decide (p.Kind = 3) = true then
  (Xm q).bind fun y6 =>
  some y6
  else
  if decide (p.Kind = 4) = true then
  (Xk y).bind fun y7 =>
  some y7
  else
  none

noncomputable def Zbn (m : api_Map) (out2 : Vector (List Int) 16) (i : Int) : Option (((Vector (List Int) 16) × Int) ⊕ ((Vector (List Int) 16))) :=
  if (decide (i < 16)) = true then
  (mks 58 0).bind fun l2 =>
  (XM out2 i).bind fun x =>
  (XM (Zex out2 i l2) i).bind fun l3 =>
  (XM (Zex out2 i l2) i).bind fun x2 =>
  (idx l3 0).bind fun x3 =>
  some (.inl ((Zex (Zex out2 i l2) i (l3.set (Int.toNat 0) m.Version)), (i64 (i + 1))))
  else
  some (.inr out2)

noncomputable def Zbo (x4 : api_Cell) (y5 : Int) (out6 : Vector (List Int) 16) (left : Int) (i3 : Int) : Option (((Vector (List Int) 16) × Int × Int) ⊕ ((Vector (List Int) 16))) :=
  if (decide (i3 < (x4.Places.length : Int))) = true then
  (idx x4.Places i3).bind fun x9 =>
  (XM out6 x9.Frame).bind fun l4 =>
  (XM out6 x9.Frame).bind fun x10 =>
  (idx l4 (i64 (x9.Word - 3))).bind fun x11 =>
  (shr .i64 y5 (i64 (left - x9.Bits))).bind fun q =>
  (shl .i64 1 x9.Bits).bind fun q2 =>
  (shl .i64 (Zhg .i64 q (i64 (q2 - 1))) x9.Low).bind fun q3 =>
  (idx l4 (i64 (x9.Word - 3))).bind fun x12 =>
  some (.inl ((Zex out6 x9.Frame (l4.set (i64 (x9.Word - 3)).toNat (bor .i64 x11 q3))), (i64 (left - x9.Bits)), (i64 (i3 + 1))))
  else
  some (.inr out6)

noncomputable def Zbi (m : api_Map) (l : List Int) (y2 : (List api_Cell)) (out4 : Vector (List Int) 16) (i2 : Int) : Option (((Vector (List Int) 16) × Int) ⊕ ((Vector (List Int) 16) × Int) ⊕ ((Vector (List Int) 16))) :=
  if (decide (i2 < (y2.length : Int))) = true then
  (((idx y2 i2).bind fun x4 =>
  (idx m.Params x4.Param).bind fun x5 =>
  (QE x5).bind fun y3 =>
  (idx l i2).bind fun x6 =>
  (ZW x6 y3.low y3.high).bind fun y4 =>
  if (!y4) = true then
  some (.inl ((Vector.replicate 16 []), 9))
  else
  (idx l i2).bind fun x7 =>
  (y3.encode.fn x7).bind fun y5 =>
  (idx m.Params x4.Param).bind fun x8 =>
  (QD x8).bind fun y6 =>
  (loop (t3 (Zbo x4 y5)) (out4, y6, 0)).bind (fun q' => some (.inr q'))) : Option (((Vector (List Int) 16) × Int) ⊕ ((Vector (List Int) 16)))).bind (Sum.elim (fun q' => some (.inr (.inl q'))) (t1 fun (out5 : Vector (List Int) 16) =>
  some (.inl (out5, (i64 (i2 + 1))))))
  else
  some (.inr (.inr out4))

noncomputable def Zb4 (m : api_Map) (l : List Int) : Option ((Vector (List Int) 16) × Int) :=
  (QG m).bind fun y =>
  if (!decide (y.2 = 0)) = true then
  some ((Vector.replicate 16 []), y.2)
  else
  (Xt m).bind fun y2 =>
  if (!decide ((l.length : Int) = (y2.length : Int))) = true then
  some ((Vector.replicate 16 []), 3)
  else
  ((loop (t2 (Zbn m)) ((Vector.replicate 16 []), 0)) : Option (((Vector (List Int) 16)))).bind (t1 fun (out : Vector (List Int) 16) =>
  ((loop (t2 (Zbi m l y2)) (out, 0)) : Option (((Vector (List Int) 16) × Int) ⊕ ((Vector (List Int) 16)))).bind (Sum.elim (fun q' => some q') (t1 fun (out3 : Vector (List Int) 16) =>
  some (out3, 0))))

noncomputable def QL (s : List Int) (f : Int → Option Bool) (i : Int) : Option ((Int) ⊕ (Int) ⊕ (Unit)) :=
  if (decide (i < (s.length : Int))) = true then
  (idx s i).bind fun x =>
  (f x).bind fun y =>
  if y = true then
  some (.inr (.inl i))
  else
  some (.inl (i64 (i + 1)))
  else
  some (.inr (.inr ()))

noncomputable def Qz (s : List Int) (f : Int → Option Bool) : Option Int :=
  ((loop (t1 (QL s f)) 0) : Option ((Int) ⊕ (Unit))).bind (Sum.elim (fun q' => some q') (t0 (some (-1))))

noncomputable def Qg (s : List Int) (f : Int → Option Bool) : Option Bool :=
  (Qz s f).bind fun y =>
  some (decide (0 ≤ y))

noncomputable def JD (d : Int) : Option Bool :=
  (ZW d 0 2047).bind fun y =>
  some (!y)

noncomputable def ZaK (c_ : api_Cell) (l : Vector (List Int) 16) (raw2 : Int) (i : Int) : Option ((Int × Int) ⊕ (Int)) :=
  if (decide (i < (c_.Places.length : Int))) = true then
  (idx c_.Places i).bind fun x =>
  (shl .i64 raw2 x.Bits).bind fun q =>
  (XM l x.Frame).bind fun x2 =>
  (idx x2 (i64 (x.Word - 3))).bind fun x3 =>
  (shr .i64 x3 x.Low).bind fun q2 =>
  (shl .i64 1 x.Bits).bind fun q3 =>
  some (.inl ((bor .i64 q (Zhg .i64 q2 (i64 (q3 - 1)))), (i64 (i + 1))))
  else
  some (.inr raw2)

noncomputable def Zbh (c_ : api_Cell) (l : Vector (List Int) 16) : Option Int :=
  ((loop (t2 (ZaK c_ l)) (0, 0)) : Option ((Int))).bind (t1 fun (raw : Int) =>
  some raw)

noncomputable def J3 (p : api_Param) (raw : Int) : Option (Int × Bool) :=
  (QE p).bind fun y =>
  (y.decode.fn raw).bind fun y2 =>
  if (!y2.2) = true then
  some (0, false)
  else
  some (y2.1, true)

noncomputable def Zac (l : Vector (List Int) 16) (i : Int) : Option ((Int) ⊕ ((List api_Reading) × Int) ⊕ (Unit)) :=
  if (decide (i < 16)) = true then
  (XM l i).bind fun x =>
  if (!decide ((x.length : Int) = 58)) = true then
  some (.inr (.inl ([], 3)))
  else
  (Qg x (fun z0 => JD z0)).bind fun y2 =>
  if y2 = true then
  some (.inr (.inl ([], 9)))
  else
  some (.inl (i64 (i + 1)))
  else
  some (.inr (.inr ()))

noncomputable def Zah (m : api_Map) (l : Vector (List Int) 16) (i2 : Int) : Option ((Int) ⊕ ((List api_Reading) × Int) ⊕ (Unit)) :=
  if (decide (i2 < 16)) = true then
  (XM l i2).bind fun x2 =>
  (idx x2 0).bind fun x3 =>
  if (!decide (x3 = m.Version)) = true then
  some (.inr (.inl ([], 11)))
  else
  some (.inl (i64 (i2 + 1)))
  else
  some (.inr (.inr ()))

noncomputable def Zab (m : api_Map) (l : Vector (List Int) 16) (y3 : (List api_Cell)) (out2 : List api_Reading) (i3 : Int) : Option (((List api_Reading) × Int) ⊕ ((List api_Reading))) :=
  if (decide (i3 < (y3.length : Int))) = true then
  (idx y3 i3).bind fun x4 =>
  (idx m.Params x4.Param).bind fun x5 =>
  (Zbh x4 l).bind fun y4 =>
  (J3 x5 y4).bind fun y5 =>
  (app out2 ([(api_Reading.mk x4.Param x4.Index y5.1 y5.2)] : List api_Reading)).bind fun l2 =>
  some (.inl (l2, (i64 (i3 + 1))))
  else
  some (.inr out2)

noncomputable def ZaE (m : api_Map) (l : Vector (List Int) 16) : Option ((List api_Reading) × Int) :=
  (QG m).bind fun y =>
  if (!decide (y.2 = 0)) = true then
  some ([], y.2)
  else
  ((loop (t1 (Zac l)) 0) : Option (((List api_Reading) × Int) ⊕ (Unit))).bind (Sum.elim (fun q' => some q') (t0 (((loop (t1 (Zah m l)) 0) : Option (((List api_Reading) × Int) ⊕ (Unit))).bind (Sum.elim (fun q' => some q') (t0 ((((Xt m).bind fun y3 =>
  loop (t2 (Zab m l y3)) ([], 0)) : Option (((List api_Reading)))).bind (t1 fun (out : List api_Reading) =>
  some (out, 0))))))))

noncomputable def JX  : Option Bool :=
  (Zb4 (api_Map.mk 3 ([(api_Param.mk [97] 2 ([(api_Part.mk 0 9 2 3)] : List api_Part) 2 8 2 1 [])] : List api_Param)) ([(-1), 3, 0, (-4)] : List Int)).bind fun y =>
  (gd ((!decide (y.2 = 0)) == false) [] (XM y.1 2)).bind fun x =>
  (gd (((!decide (y.2 = 0)) || (!decide ((x.length : Int) = 58))) == false) [] (XM y.1 5)).bind fun x2 =>
  (gd ((((!decide (y.2 = 0)) || (!decide ((x.length : Int) = 58))) || (!decide ((x2.length : Int) = 58))) == false) [] (XM y.1 10)).bind fun x3 =>
  (gd (((((!decide (y.2 = 0)) || (!decide ((x.length : Int) = 58))) || (!decide ((x2.length : Int) = 58))) || (!decide ((x3.length : Int) = 58))) == false) [] (XM y.1 2)).bind fun x4 =>
  (gd (((((!decide (y.2 = 0)) || (!decide ((x.length : Int) = 58))) || (!decide ((x2.length : Int) = 58))) || (!decide ((x3.length : Int) = 58))) == false) 0 (idx x4 6)).bind fun x5 =>
  (gd ((((((!decide (y.2 = 0)) || (!decide ((x.length : Int) = 58))) || (!decide ((x2.length : Int) = 58))) || (!decide ((x3.length : Int) = 58))) || (!decide (x5 = 28))) == false) [] (XM y.1 2)).bind fun x6 =>
  (gd ((((((!decide (y.2 = 0)) || (!decide ((x.length : Int) = 58))) || (!decide ((x2.length : Int) = 58))) || (!decide ((x3.length : Int) = 58))) || (!decide (x5 = 28))) == false) 0 (idx x6 7)).bind fun x7 =>
  (gd (((((((!decide (y.2 = 0)) || (!decide ((x.length : Int) = 58))) || (!decide ((x2.length : Int) = 58))) || (!decide ((x3.length : Int) = 58))) || (!decide (x5 = 28))) || (!decide (x7 = 12))) == false) [] (XM y.1 10)).bind fun x8 =>
  (gd (((((((!decide (y.2 = 0)) || (!decide ((x.length : Int) = 58))) || (!decide ((x2.length : Int) = 58))) || (!decide ((x3.length : Int) = 58))) || (!decide (x5 = 28))) || (!decide (x7 = 12))) == false) 0 (idx x8 6)).bind fun x9 =>
  (gd ((((((((!decide (y.2 = 0)) || (!decide ((x.length : Int) = 58))) || (!decide ((x2.length : Int) = 58))) || (!decide ((x3.length : Int) = 58))) || (!decide (x5 = 28))) || (!decide (x7 = 12))) || (!decide (x9 = 0))) == false) [] (XM y.1 10)).bind fun x10 =>
  (gd ((((((((!decide (y.2 = 0)) || (!decide ((x.length : Int) = 58))) || (!decide ((x2.length : Int) = 58))) || (!decide ((x3.length : Int) = 58))) || (!decide (x5 = 28))) || (!decide (x7 = 12))) || (!decide (x9 = 0))) == false) 0 (idx x10 7)).bind fun x11 =>
  (gd (((((((((!decide (y.2 = 0)) || (!decide ((x.length : Int) = 58))) || (!decide ((x2.length : Int) = 58))) || (!decide ((x3.length : Int) = 58))) || (!decide (x5 = 28))) || (!decide (x7 = 12))) || (!decide (x9 = 0))) || (!decide (x11 = 16))) == false) [] (XM y.1 5)).bind fun x12 =>
  (gd (((((((((!decide (y.2 = 0)) || (!decide ((x.length : Int) = 58))) || (!decide ((x2.length : Int) = 58))) || (!decide ((x3.length : Int) = 58))) || (!decide (x5 = 28))) || (!decide (x7 = 12))) || (!decide (x9 = 0))) || (!decide (x11 = 16))) == false) 0 (idx x12 0)).bind fun x13 =>
  if (((((((((!decide (y.2 = 0)) || (!decide ((x.length : Int) = 58))) || (!decide ((x2.length : Int) = 58))) || (!decide ((x3.length : Int) = 58))) || (!decide (x5 = 28))) || (!decide (x7 = 12))) || (!decide (x9 = 0))) || (!decide (x11 = 16))) || (!decide (x13 = 3))) = true then
  some false
  else
  (ZaE (api_Map.mk 3 ([(api_Param.mk [97] 2 ([(api_Part.mk 0 9 2 3)] : List api_Part) 2 8 2 1 [])] : List api_Param)) y.1).bind fun y2 =>
  (gd (((decide (y2.2 = 0)) && (decide ((y2.1.length : Int) = 4))) == true) (api_Reading.mk 0 0 0 false) (idx y2.1 3)).bind fun x14 =>
  some (((decide (y2.2 = 0)) && (decide ((y2.1.length : Int) = 4))) && (decide (x14.Param = 0) && (decide (x14.Index = 3) && (decide (x14.Value = (-4)) && ((x14.Good == true) && true)))))

noncomputable def Zco (m : api_Map) : Option (Int × Int) :=
  (QG m).bind fun y =>
  some ((max y.1 0), y.2)

noncomputable def Q6 (m : api_Map) (p : api_Param) : Option Bool :=
  (Zcw m p).bind fun y =>
  (Zeg m p).bind fun y2 =>
  (gd ((!decide (y.2 = y2.2)) == false) false (Xc y.1 y2.1)).bind fun y3 =>
  if ((!decide (y.2 = y2.2)) || (!y3)) = true then
  some false
  else
  if (!decide (y.2 = 0)) = true then
  (JX).bind fun y4 =>
  some y4
  else
  (ZeI m.Params).bind fun y5 =>
  (app y5 ([y.1] : List api_Param)).bind fun l =>
  (Zco (api_Map.mk m.Version l)).bind fun y6 =>
  (gd ((decide (y6.2 = 0)) == true) false JX).bind fun y7 =>
  some ((decide (y6.2 = 0)) && y7)
end Go.Vx
