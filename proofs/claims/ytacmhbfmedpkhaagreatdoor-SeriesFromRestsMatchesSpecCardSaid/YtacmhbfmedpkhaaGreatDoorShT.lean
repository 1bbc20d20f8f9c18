/- A text of the proof: a verified executor of the program form, or the contracts of the functions that the law reaches. -/
import Derived.Test.YtacmhbfmedpkhaaGreatDoorShLib
set_option linter.all false
namespace Go.Vx
open Go Go.RowKit
set_option linter.unusedVariables false
structure api_Part where
  Frame : Int
  Word : Int
  Low : Int
  Bits : Int
structure api_Param where
  Name : Str
  Kind : Int
  Parts : List api_Part
  First : Int
  Every : Int
  Times : Int
  Step : Int
  Names : List Str
structure api_Map where
  Version : Int
  Params : List api_Param
structure api_Rest where
  Number : Int
  Frame : Vector Int 64
  States : Vector Int 64
  Sound : Bool
  Copies : Int
  Conflict : Bool
structure api_Line where
  From : Int
  To : Int
  A_ : Int
  B : Int
structure api_Calibration where
  Den : Int
  Lines : List api_Line
  Low : Int
  High : Int
structure api_Sample where
  At : Int
  N : Int
  Mark : Int
structure api_Series where
  Den : Int
  Samples : List api_Sample
structure layout_bit where
  frame : Int
  word : Int
  bit : Int
structure api_Place where
  Frame : Int
  Word : Int
  Low : Int
  Bits : Int
structure api_Cell where
  Param : Int
  Index : Int
  Frame : Int
  Places : List api_Place
structure layout_number where
  low : Int
  high : Int
  encode : Fv (Int → Option Int)
  decode : Fv (Int → Option (Int × Bool))
structure ref0_Ink where
  out : List Int
structure api_Flaw where
  Word : Int
  Kind : Int
structure api_Where where
  Number : Int
  Word : Int
structure api_Piece where
  Bytes : List Int
  Half : Bool
structure api_Found where
  At : Int
  Frame : Vector Int 64
structure salvage_finder where
  h_ : List Int
  certain : List api_Found
  numbers : List Int
  at_ : Unit

noncomputable def QK (n : Int) (low : Int) (high : Int) : Option Bool :=
  some ((decide (low ≤ n)) && (decide (n ≤ high)))

noncomputable def ZbE (c_ : Int) : Option Bool :=
  some (!((((decide (97 ≤ c_)) && (decide (c_ ≤ 122))) || ((decide (48 ≤ c_)) && (decide (c_ ≤ 57)))) || (decide (c_ = 45))))

noncomputable def Zam (s : Str) : Option Bool :=
  (gd (((decide ((s.length : Int) < 1)) || (decide (30 < (s.length : Int)))) == false) 0 (ZjH s 0)).bind fun b =>
  (gd ((((decide ((s.length : Int) < 1)) || (decide (30 < (s.length : Int)))) || (decide (b < 97))) == false) 0 (ZjH s 0)).bind fun b2 =>
  if ((((decide ((s.length : Int) < 1)) || (decide (30 < (s.length : Int)))) || (decide (b < 97))) || (decide (122 < b2))) = true then
  some false
  else
  (Za3 s (fun z0 => ZbE z0)).bind fun y =>
  some (!y)

noncomputable def XR (p : api_Param) (n2 : Int) (i : Int) : Option ((Int × Int) ⊕ (Int)) :=
  if (decide (i < (p.Parts.length : Int))) = true then
  (idx p.Parts i).bind fun x =>
  some (.inl ((i64 (n2 + x.Bits)), (i64 (i + 1))))
  else
  some (.inr n2)

noncomputable def XN (p : api_Param) : Option Int :=
  ((loop (t2 (XR p)) (0, 0)) : Option ((Int))).bind (t1 fun (n : Int) =>
  some n)

noncomputable def Qs (s : List Int) (v : Int) (i : Int) : Option ((Int) ⊕ (Int) ⊕ (Unit)) :=
  if (decide (i < (s.length : Int))) = true then
  (idx s i).bind fun x =>
  if (decide (v = x)) = true then
  some (.inr (.inl i))
  else
  some (.inl (i64 (i + 1)))
  else
  some (.inr (.inr ()))

noncomputable def Jr (s : List Int) (v : Int) : Option Int :=
  ((loop (t1 (Qs s v)) 0) : Option ((Int) ⊕ (Unit))).bind (Sum.elim (fun q' => some q') (t0 (some (-1))))

noncomputable def QQ (s : List Int) (v : Int) : Option Bool :=
  (Jr s v).bind fun y =>
  some (decide (0 ≤ y))

noncomputable def Qx (p : api_Param) (i : Int) : Option ((Int) ⊕ (Int) ⊕ (Unit)) :=
  if (decide (i < (p.Parts.length : Int))) = true then
  (idx p.Parts i).bind fun x =>
  (QK x.Frame 0 15).bind fun y =>
  (gd ((!y) == false) false (QK x.Word 4 60)).bind fun y2 =>
  (gd (((!y) || (!y2)) == false) false (QK x.Low 0 10)).bind fun y3 =>
  (gd ((((!y) || (!y2)) || (!y3)) == false) false (QK x.Bits 1 (i64 (11 - x.Low)))).bind fun y4 =>
  if ((((!y) || (!y2)) || (!y3)) || (!y4)) = true then
  some (.inr (.inl 9))
  else
  some (.inl (i64 (i + 1)))
  else
  some (.inr (.inr ()))

noncomputable def Xk (p : api_Param) (i2 : Int) : Option ((Int) ⊕ (Int) ⊕ (Unit)) :=
  if (decide (i2 < (p.Parts.length : Int))) = true then
  (idx p.Parts i2).bind fun x2 =>
  if ((decide (60 < p.Step)) || (decide (60 < (i64 (x2.Word + (i64 ((i64 (p.Times - 1)) * p.Step))))))) = true then
  some (.inr (.inl 9))
  else
  some (.inl (i64 (i2 + 1)))
  else
  some (.inr (.inr ()))

noncomputable def Jo (p : api_Param) : Option Int :=
  if (decide ((p.Parts.length : Int) = 0)) = true then
  some 13
  else
  if (decide (8 < (p.Parts.length : Int))) = true then
  some 3
  else
  ((loop (t1 (Qx p)) 0) : Option ((Int) ⊕ (Unit))).bind (Sum.elim (fun q' => some q') (t0 ((XN p).bind fun y5 =>
  if (decide (40 < y5)) = true then
  some 3
  else
  (QQ ([1, 2, 4, 8, 16] : List Int) p.Every).bind fun y6 =>
  (gd ((!y6) == false) false (QK p.First 0 (i64 (p.Every - 1)))).bind fun y7 =>
  (gd (((!y6) || (!y7)) == false) false (QK p.Times 1 57)).bind fun y8 =>
  if (((((!y6) || (!y7)) || (!y8)) || (decide (p.Step < 0))) || (!((decide (p.Step = 0)) == (decide (p.Times = 1))))) = true then
  some 9
  else
  ((loop (t1 (Xk p)) 0) : Option ((Int) ⊕ (Unit))).bind (Sum.elim (fun q' => some q') (t0 (some 0))))))

noncomputable def Z8 (s : List Str) (v : Str) (i : Int) : Option ((Int) ⊕ (Int) ⊕ (Unit)) :=
  if (decide (i < (s.length : Int))) = true then
  (idx s i).bind fun x =>
  if (decide (v = x)) = true then
  some (.inr (.inl i))
  else
  some (.inl (i64 (i + 1)))
  else
  some (.inr (.inr ()))

noncomputable def QX (s : List Str) (v : Str) : Option Int :=
  ((loop (t1 (Z8 s v)) 0) : Option ((Int) ⊕ (Unit))).bind (Sum.elim (fun q' => some q') (t0 (some (-1))))

noncomputable def Qm (s : List Str) (v : Str) : Option Bool :=
  (QX s v).bind fun y =>
  some (decide (0 ≤ y))

noncomputable def Xj (p : api_Param) (i : Int) : Option ((Int) ⊕ (Int) ⊕ (Unit)) :=
  if (decide (i < (p.Names.length : Int))) = true then
  (idx p.Names i).bind fun x =>
  (Zam x).bind fun y2 =>
  if (!y2) = true then
  some (.inr (.inl 8))
  else
  (slc p.Names 0 i).bind fun l =>
  (Qm l x).bind fun y3 =>
  if y3 = true then
  some (.inr (.inl 5))
  else
  some (.inl (i64 (i + 1)))
  else
  some (.inr (.inr ()))

noncomputable def Jg (p : api_Param) : Option Int :=
  (XN p).bind fun y =>
  (gd ((decide (p.Kind = 4)) == true) 0 (rem y 4)).bind fun q =>
  if ((((decide (p.Kind = 4)) && (!decide (q = 0))) || ((decide (p.Kind = 5)) && (!decide (y = 1)))) || (((decide (p.Kind = 2)) || (decide (p.Kind = 3))) && (decide (y = 1)))) = true then
  some 2
  else
  if (!decide (p.Kind = 6)) = true then
  if (decide (0 < (p.Names.length : Int))) = true then
  some 2
  else
  some 0
  else
  if (decide ((p.Names.length : Int) = 0)) = true then
  some 13
  else
  (gd ((decide (64 < (p.Names.length : Int))) == false) 0 (shl .i64 1 y)).bind fun q2 =>
  if ((decide (64 < (p.Names.length : Int))) || (decide (q2 < (p.Names.length : Int)))) = true then
  some 3
  else
  ((loop (t1 (Xj p)) 0) : Option ((Int) ⊕ (Unit))).bind (Sum.elim (fun q' => some q') (t0 (some 0)))

noncomputable def ZW (s : List api_Part) (f : api_Part → Option Bool) (i : Int) : Option ((Int) ⊕ (Int) ⊕ (Unit)) :=
  if (decide (i < (s.length : Int))) = true then
  (idx s i).bind fun x =>
  (f x).bind fun y =>
  if y = true then
  some (.inr (.inl i))
  else
  some (.inl (i64 (i + 1)))
  else
  some (.inr (.inr ()))

noncomputable def Qn (s : List api_Part) (f : api_Part → Option Bool) : Option Int :=
  ((loop (t1 (ZW s f)) 0) : Option ((Int) ⊕ (Unit))).bind (Sum.elim (fun q' => some q') (t0 (some (-1))))

noncomputable def ZX (s : List api_Part) (f : api_Part → Option Bool) : Option Bool :=
  (Qn s f).bind fun y =>
  some (decide (0 ≤ y))

noncomputable def Je (x : api_Part) (c0 : Int) : Option Bool :=
  some (decide (16 ≤ (i64 (c0 + x.Frame))))

noncomputable def QP (p : api_Param) (out2 : List Int) (f : Int) : Option (((List Int) × Int) ⊕ ((List Int))) :=
  if (decide (f < 16)) = true then
  (((ZX p.Parts (fun z0 => Je z0 f)).bind fun y =>
  if (!y) = true then
  (app out2 ([f] : List Int)).bind fun l =>
  some l
  else
  some out2) : Option (((List Int)))).bind (t1 fun (out3 : List Int) =>
  some (.inl (out3, (i64 (f + p.Every)))))
  else
  some (.inr out2)

noncomputable def Zav (p : api_Param) : Option (List Int) :=
  ((loop (t2 (QP p)) ([], p.First)) : Option (((List Int)))).bind (t1 fun (out : List Int) =>
  some out)

noncomputable def ZaT (p : api_Param) (x : api_Part) (f : Int) (j : Int) : Option api_Place :=
  some (api_Place.mk (i64 (f + x.Frame)) (i64 (x.Word + (i64 (j * p.Step)))) x.Low x.Bits)

noncomputable def QH (p : api_Param) (x : Int) (i2 : Int) (Places2 : List api_Place) (i3 : Int) : Option (((List api_Place) × Int) ⊕ ((List api_Place))) :=
  if (decide (i3 < (p.Parts.length : Int))) = true then
  (idx p.Parts i3).bind fun x2 =>
  (ZaT p x2 x i2).bind fun y2 =>
  (app Places2 ([y2] : List api_Place)).bind fun l =>
  some (.inl (l, (i64 (i3 + 1))))
  else
  some (.inr Places2)

noncomputable def Zcj (number : Int) (p : api_Param) (x : Int) (out4 : List api_Cell) (i2 : Int) : Option (((List api_Cell) × Int) ⊕ ((List api_Cell))) :=
  if (decide (i2 < p.Times)) = true then
  ((loop (t2 (QH p x i2)) ([], 0)) : Option (((List api_Place)))).bind (t1 fun (Places : List api_Place) =>
  (app out4 ([(api_Cell.mk number (out4.length : Int) x Places)] : List api_Cell)).bind fun l2 =>
  some (.inl (l2, (i64 (i2 + 1)))))
  else
  some (.inr out4)

noncomputable def Xo (number : Int) (p : api_Param) (y : (List Int)) (out2 : List api_Cell) (i : Int) : Option (((List api_Cell) × Int) ⊕ ((List api_Cell))) :=
  if (decide (i < (y.length : Int))) = true then
  (((idx y i).bind fun x =>
  loop (t2 (Zcj number p x)) (out2, 0)) : Option (((List api_Cell)))).bind (t1 fun (out3 : List api_Cell) =>
  some (.inl (out3, (i64 (i + 1)))))
  else
  some (.inr out2)

noncomputable def Xm (number : Int) (p : api_Param) : Option (List api_Cell) :=
  (((Zav p).bind fun y =>
  loop (t2 (Xo number p y)) ([], 0)) : Option (((List api_Cell)))).bind (t1 fun (out : List api_Cell) =>
  some out)

def kq_layout_bit (a b : layout_bit) : Bool := (decide (a.frame = b.frame) && (decide (a.word = b.word) && (decide (a.bit = b.bit) && true)))

noncomputable def JC (x : api_Place) (out2 : List layout_bit) (i : Int) : Option (((List layout_bit) × Int) ⊕ ((List layout_bit))) :=
  if (decide (i < x.Bits)) = true then
  (app out2 ([(layout_bit.mk x.Frame x.Word (i64 (x.Low + i)))] : List layout_bit)).bind fun l =>
  some (.inl (l, (i64 (i + 1))))
  else
  some (.inr out2)

noncomputable def ZbA (x : api_Place) : Option (List layout_bit) :=
  ((loop (t2 (JC x)) ([], 0)) : Option (((List layout_bit)))).bind (t1 fun (out : List layout_bit) =>
  some out)

noncomputable def XY (owner : Int) (y : (List layout_bit)) (o4 : List (layout_bit × Int)) (i2 : Int) : Option (((List (layout_bit × Int)) × Int) ⊕ (Bool × (List (layout_bit × Int))) ⊕ ((List (layout_bit × Int)))) :=
  if (decide (i2 < (y.length : Int))) = true then
  (idx y i2).bind fun x2 =>
  (some (JX kq_layout_bit o4 x2)).bind fun o5 =>
  if o5.isSome = true then
  some (.inr (.inl (false, o4)))
  else
  some (.inl ((Zei kq_layout_bit o4 x2 owner), (i64 (i2 + 1))))
  else
  some (.inr (.inr o4))

noncomputable def XU (owner : Int) (l : List api_Place) (o2 : List (layout_bit × Int)) (i : Int) : Option (((List (layout_bit × Int)) × Int) ⊕ (Bool × (List (layout_bit × Int))) ⊕ ((List (layout_bit × Int)))) :=
  if (decide (i < (l.length : Int))) = true then
  (((idx l i).bind fun x =>
  (ZbA x).bind fun y =>
  loop (t2 (XY owner y)) (o2, 0)) : Option ((Bool × (List (layout_bit × Int))) ⊕ ((List (layout_bit × Int))))).bind (Sum.elim (fun q' => some (.inr (.inl q'))) (t1 fun (o3 : List (layout_bit × Int)) =>
  some (.inl (o3, (i64 (i + 1))))))
  else
  some (.inr (.inr o2))

noncomputable def ZbU (taken : List (layout_bit × Int)) (owner : Int) (l : List api_Place) : Option (Bool × (List (layout_bit × Int))) :=
  ((loop (t2 (XU owner l)) (taken, 0)) : Option ((Bool × (List (layout_bit × Int))) ⊕ ((List (layout_bit × Int))))).bind (Sum.elim (fun q' => some q') (t1 fun (o : List (layout_bit × Int)) =>
  some (true, o)))

noncomputable def QR (y5 : (List api_Cell)) (taken : List (layout_bit × Int)) (i : Int) : Option (((List (layout_bit × Int)) × Int) ⊕ (Int) ⊕ (Unit)) :=
  if (decide (i < (y5.length : Int))) = true then
  (idx y5 i).bind fun x =>
  (ZbU taken 0 x.Places).bind fun y6 =>
  if (!y6.1) = true then
  some (.inr (.inl 5))
  else
  some (.inl (y6.2, (i64 (i + 1))))
  else
  some (.inr (.inr ()))

noncomputable def Jh (p : api_Param) : Option Int :=
  (Zam p.Name).bind fun y =>
  if (!y) = true then
  some 8
  else
  (QK p.Kind 1 6).bind fun y2 =>
  if (!y2) = true then
  some 7
  else
  (Jo p).bind fun y3 =>
  if (!decide (y3 = 0)) = true then
  some y3
  else
  (Jg p).bind fun y4 =>
  if (!decide (y4 = 0)) = true then
  some y4
  else
  (Xm 0 p).bind fun y5 =>
  ((loop (t2 (QR y5)) (([] : List (layout_bit × Int)), 0)) : Option ((Int) ⊕ (Unit))).bind (Sum.elim (fun q' => some q') (t0 (if (decide ((y5.length : Int) = 0)) = true then
  some 13
  else
  some 0)))

noncomputable def Zz (s : List api_Param) (f : api_Param → Option Bool) (i : Int) : Option ((Int) ⊕ (Int) ⊕ (Unit)) :=
  if (decide (i < (s.length : Int))) = true then
  (idx s i).bind fun x =>
  (f x).bind fun y =>
  if y = true then
  some (.inr (.inl i))
  else
  some (.inl (i64 (i + 1)))
  else
  some (.inr (.inr ()))

noncomputable def ZH (s : List api_Param) (f : api_Param → Option Bool) : Option Int :=
  ((loop (t1 (Zz s f)) 0) : Option ((Int) ⊕ (Unit))).bind (Sum.elim (fun q' => some q') (t0 (some (-1))))

noncomputable def ZP (s : List api_Param) (f : api_Param → Option Bool) : Option Bool :=
  (ZH s f).bind fun y =>
  some (decide (0 ≤ y))

noncomputable def Zca (q : api_Param) (c0 : api_Param) : Option Bool :=
  some (decide (q.Name = c0.Name))

noncomputable def Zal (m : api_Map) (i : Int) : Option ((Int) ⊕ (Int × Int) ⊕ (Unit)) :=
  if (decide (i < (m.Params.length : Int))) = true then
  (idx m.Params i).bind fun x =>
  (Jh x).bind fun y2 =>
  if (!decide (y2 = 0)) = true then
  some (.inr (.inl (i, y2)))
  else
  (slc m.Params 0 i).bind fun l =>
  (ZP l (fun z0 => Zca z0 x)).bind fun y3 =>
  if y3 = true then
  some (.inr (.inl (i, 5)))
  else
  some (.inl (i64 (i + 1)))
  else
  some (.inr (.inr ()))

noncomputable def Jb (m : api_Map) (cells : Int) (i2 : Int) : Option ((Int × Int) ⊕ (Int × Int) ⊕ (Unit)) :=
  if (decide (i2 < (m.Params.length : Int))) = true then
  (idx m.Params i2).bind fun x2 =>
  (Zav x2).bind fun y4 =>
  if (decide (4000 < (i64 (cells + (i64 ((y4.length : Int) * x2.Times)))))) = true then
  some (.inr (.inl (i2, 3)))
  else
  some (.inl ((i64 (cells + (i64 ((y4.length : Int) * x2.Times)))), (i64 (i2 + 1))))
  else
  some (.inr (.inr ()))

noncomputable def Jd (i3 : Int) (y5 : (List api_Cell)) (taken3 : List (layout_bit × Int)) (i4 : Int) : Option (((List (layout_bit × Int)) × Int) ⊕ (Int × Int) ⊕ ((List (layout_bit × Int)))) :=
  if (decide (i4 < (y5.length : Int))) = true then
  (idx y5 i4).bind fun x4 =>
  (ZbU taken3 i3 x4.Places).bind fun y6 =>
  if (!y6.1) = true then
  some (.inr (.inl (i3, 5)))
  else
  some (.inl (y6.2, (i64 (i4 + 1))))
  else
  some (.inr (.inr taken3))

noncomputable def Ja (m : api_Map) (taken : List (layout_bit × Int)) (i3 : Int) : Option (((List (layout_bit × Int)) × Int) ⊕ (Int × Int) ⊕ (Unit)) :=
  if (decide (i3 < (m.Params.length : Int))) = true then
  (((idx m.Params i3).bind fun x3 =>
  (Xm i3 x3).bind fun y5 =>
  loop (t2 (Jd i3 y5)) (taken, 0)) : Option ((Int × Int) ⊕ ((List (layout_bit × Int))))).bind (Sum.elim (fun q' => some (.inr (.inl q'))) (t1 fun (taken2 : List (layout_bit × Int)) =>
  some (.inl (taken2, (i64 (i3 + 1))))))
  else
  some (.inr (.inr ()))

noncomputable def Za5 (m : api_Map) : Option (Int × Int) :=
  (QK m.Version 0 2047).bind fun y =>
  if (!y) = true then
  some ((-1), 9)
  else
  if (decide (200 < (m.Params.length : Int))) = true then
  some ((-1), 3)
  else
  ((loop (t1 (Zal m)) 0) : Option ((Int × Int) ⊕ (Unit))).bind (Sum.elim (fun q' => some q') (t0 (((loop (t2 (Jb m)) (0, 0)) : Option ((Int × Int) ⊕ (Unit))).bind (Sum.elim (fun q' => some q') (t0 (((loop (t2 (Ja m)) (([] : List (layout_bit × Int)), 0)) : Option ((Int × Int) ⊕ (Unit))).bind (Sum.elim (fun q' => some q') (t0 (some ((-1), 0))))))))))

noncomputable def Zcf (m : api_Map) : Option (Int × Int) :=
  (Za5 m).bind fun y =>
  some ((max y.1 0), y.2)

noncomputable def QO (p : api_Param) (c0 : Str) : Option Bool :=
  some (decide (p.Name = c0))

noncomputable def JL (n : Int) (low : Int) (high : Int) : Option Bool :=
  some ((decide (low ≤ n)) && (decide (n ≤ high)))

noncomputable def Zct (x : Int) : Option Int :=
  (shr .u16 x 8).bind fun q =>
  (ZjH [0, 1, 1, 2, 1, 2, 2, 3, 1, 2, 2, 3, 2, 3, 3, 4, 1, 2, 2, 3, 2, 3, 3, 4, 2, 3, 3, 4, 3, 4, 4, 5, 1, 2, 2, 3, 2, 3, 3, 4, 2, 3, 3, 4, 3, 4, 4, 5, 2, 3, 3, 4, 3, 4, 4, 5, 3, 4, 4, 5, 4, 5, 5, 6, 1, 2, 2, 3, 2, 3, 3, 4, 2, 3, 3, 4, 3, 4, 4, 5, 2, 3, 3, 4, 3, 4, 4, 5, 3, 4, 4, 5, 4, 5, 5, 6, 2, 3, 3, 4, 3, 4, 4, 5, 3, 4, 4, 5, 4, 5, 5, 6, 3, 4, 4, 5, 4, 5, 5, 6, 4, 5, 5, 6, 5, 6, 6, 7, 1, 2, 2, 3, 2, 3, 3, 4, 2, 3, 3, 4, 3, 4, 4, 5, 2, 3, 3, 4, 3, 4, 4, 5, 3, 4, 4, 5, 4, 5, 5, 6, 2, 3, 3, 4, 3, 4, 4, 5, 3, 4, 4, 5, 4, 5, 5, 6, 3, 4, 4, 5, 4, 5, 5, 6, 4, 5, 5, 6, 5, 6, 6, 7, 2, 3, 3, 4, 3, 4, 4, 5, 3, 4, 4, 5, 4, 5, 5, 6, 3, 4, 4, 5, 4, 5, 5, 6, 4, 5, 5, 6, 5, 6, 6, 7, 3, 4, 4, 5, 4, 5, 5, 6, 4, 5, 5, 6, 5, 6, 6, 7, 4, 5, 5, 6, 5, 6, 6, 7, 5, 6, 6, 7, 6, 7, 7, 8] q).bind fun b =>
  (ZjH [0, 1, 1, 2, 1, 2, 2, 3, 1, 2, 2, 3, 2, 3, 3, 4, 1, 2, 2, 3, 2, 3, 3, 4, 2, 3, 3, 4, 3, 4, 4, 5, 1, 2, 2, 3, 2, 3, 3, 4, 2, 3, 3, 4, 3, 4, 4, 5, 2, 3, 3, 4, 3, 4, 4, 5, 3, 4, 4, 5, 4, 5, 5, 6, 1, 2, 2, 3, 2, 3, 3, 4, 2, 3, 3, 4, 3, 4, 4, 5, 2, 3, 3, 4, 3, 4, 4, 5, 3, 4, 4, 5, 4, 5, 5, 6, 2, 3, 3, 4, 3, 4, 4, 5, 3, 4, 4, 5, 4, 5, 5, 6, 3, 4, 4, 5, 4, 5, 5, 6, 4, 5, 5, 6, 5, 6, 6, 7, 1, 2, 2, 3, 2, 3, 3, 4, 2, 3, 3, 4, 3, 4, 4, 5, 2, 3, 3, 4, 3, 4, 4, 5, 3, 4, 4, 5, 4, 5, 5, 6, 2, 3, 3, 4, 3, 4, 4, 5, 3, 4, 4, 5, 4, 5, 5, 6, 3, 4, 4, 5, 4, 5, 5, 6, 4, 5, 5, 6, 5, 6, 6, 7, 2, 3, 3, 4, 3, 4, 4, 5, 3, 4, 4, 5, 4, 5, 5, 6, 3, 4, 4, 5, 4, 5, 5, 6, 4, 5, 5, 6, 5, 6, 6, 7, 3, 4, 4, 5, 4, 5, 5, 6, 4, 5, 5, 6, 5, 6, 6, 7, 4, 5, 5, 6, 5, 6, 6, 7, 5, 6, 6, 7, 6, 7, 7, 8] (Ju .u16 x 255)).bind fun b2 =>
  some (i64 (u8 (b + b2)))

noncomputable def ZcA (w : Int) : Option Bool :=
  (gd ((decide (w ≤ 4095)) == true) 0 (Zct w)).bind fun y =>
  (gd ((decide (w ≤ 4095)) == true) 0 (rem y 2)).bind fun q =>
  some ((decide (w ≤ 4095)) && (decide (q = 1)))

noncomputable def Jv (w : Int) : Option Int :=
  some (i64 (Ju .u16 w 2047))

noncomputable def JF (f : Vector Int 64) : Option Int :=
  (Qo f 1).bind fun x =>
  (Jv x).bind fun y =>
  (Qo f 2).bind fun x2 =>
  (Jv x2).bind fun y2 =>
  (shl .i64 y2 11).bind fun q =>
  some (bor .i64 y q)

noncomputable def Zb4 (f : Vector Int 64) : Option (Int × Bool) :=
  (Qo f 1).bind fun x =>
  (ZcA x).bind fun y =>
  (gd ((!y) == false) 0 (Qo f 2)).bind fun x2 =>
  (gd ((!y) == false) false (ZcA x2)).bind fun y2 =>
  if ((!y) || (!y2)) = true then
  some (0, false)
  else
  (JF f).bind fun y3 =>
  some (y3, true)

noncomputable def ZbB (f : Vector Int 64) (i : Int) : Option ((Int) ⊕ (Bool) ⊕ (Unit)) :=
  if (decide (i < 64)) = true then
  (Qo f i).bind fun x =>
  if (decide (4095 < x)) = true then
  some (.inr (.inl true))
  else
  some (.inl (i64 (i + 1)))
  else
  some (.inr (.inr ()))

noncomputable def ZdH (f : Vector Int 64) : Option Bool :=
  ((loop (t1 (ZbB f)) 0) : Option ((Bool) ⊕ (Unit))).bind (Sum.elim (fun q' => some q') (t0 (some false)))

def gv_frame_syncs : Vector Int 4 := #v[583, 1464, 2631, 3512]

noncomputable def ZaN (f : Vector Int 64) (n2 : Int) (i : Int) : Option ((Int × Int) ⊕ (Int)) :=
  if (decide (i < 60)) = true then
  (Qo f (i64 (i + 1))).bind fun x =>
  (Jv x).bind fun y =>
  some (.inl ((ZiF .i64 n2 y), (i64 (i + 1))))
  else
  some (.inr n2)

noncomputable def Zc0 (f : Vector Int 64) : Option Int :=
  ((loop (t2 (ZaN f)) (0, 0)) : Option ((Int))).bind (t1 fun (n : Int) =>
  some n)

noncomputable def XS (f : Vector Int 64) (i : Int) (n4 : Int) (k : Int) : Option ((Int × Int) ⊕ (Int)) :=
  if (decide (0 ≤ k)) = true then
  (shl .i64 n4 1).bind fun q =>
  (Qo f i).bind fun x =>
  (shr .u16 x k).bind fun q2 =>
  if (!((!decide ((Ju .i64 n4 2097152) = 0)) == (decide ((Ju .u16 q2 1) = 1)))) = true then
  some (.inl ((ZiF .i64 (Ju .i64 q 4194303) 2097167), (i64 (k - 1))))
  else
  some (.inl ((Ju .i64 q 4194303), (i64 (k - 1))))
  else
  some (.inr n4)

noncomputable def JH (f : Vector Int 64) (n2 : Int) (i : Int) : Option ((Int × Int) ⊕ (Int)) :=
  if (decide (i < 62)) = true then
  ((loop (t2 (XS f i)) (n2, 11)) : Option ((Int))).bind (t1 fun (n3 : Int) =>
  some (.inl (n3, (i64 (i + 1)))))
  else
  some (.inr n2)

noncomputable def ZbD (f : Vector Int 64) : Option Int :=
  ((loop (t2 (JH f)) (0, 0)) : Option ((Int))).bind (t1 fun (n : Int) =>
  some n)

noncomputable def ZaI (f : Vector Int 64) (i : Int) : Option ((Int) ⊕ (Bool) ⊕ (Unit)) :=
  if (decide (i < 64)) = true then
  (Qo f i).bind fun x4 =>
  (ZcA x4).bind fun y5 =>
  if (!y5) = true then
  some (.inr (.inl false))
  else
  some (.inl (i64 (i + 1)))
  else
  some (.inr (.inr ()))

noncomputable def ZcY (f : Vector Int 64) : Option Bool :=
  (ZdH f).bind fun y =>
  (gd (y == false) 0 (Qo f 0)).bind fun x =>
  (gd (y == false) 0 (JF f)).bind fun y2 =>
  (gd (y == false) 0 (rem y2 4)).bind fun q =>
  (gd (y == false) 0 (Qo gv_frame_syncs q)).bind fun x2 =>
  (gd ((y || (!decide (x = x2))) == false) 0 (Qo f 61)).bind fun x3 =>
  (gd ((y || (!decide (x = x2))) == false) 0 (Jv x3)).bind fun y3 =>
  (gd ((y || (!decide (x = x2))) == false) 0 (Zc0 f)).bind fun y4 =>
  if ((y || (!decide (x = x2))) || (!decide (y3 = y4))) = true then
  some false
  else
  ((loop (t1 (ZaI f)) 1) : Option ((Bool) ⊕ (Unit))).bind (Sum.elim (fun q' => some q') (t0 ((Qo f 62).bind fun x5 =>
  (Jv x5).bind fun y6 =>
  (shl .i64 y6 11).bind fun q2 =>
  (Qo f 63).bind fun x6 =>
  (Jv x6).bind fun y7 =>
  (ZbD f).bind fun y8 =>
  some (decide ((bor .i64 q2 y7) = y8)))))

noncomputable def Zc1 (f : Vector Int 64) : Option Bool :=
  (ZcY f).bind fun y =>
  some y

noncomputable def Jc (f : Vector Int 64) (number : Int) : Option Bool :=
  (Zb4 f).bind fun y =>
  (Zc1 f).bind fun y2 =>
  some (y2 && (decide (y.1 = number)))

noncomputable def Qg (s : List Int) (f : Int → Option Bool) (i : Int) : Option ((Int) ⊕ (Int) ⊕ (Unit)) :=
  if (decide (i < (s.length : Int))) = true then
  (idx s i).bind fun x =>
  (f x).bind fun y =>
  if y = true then
  some (.inr (.inl i))
  else
  some (.inl (i64 (i + 1)))
  else
  some (.inr (.inr ()))

noncomputable def Xf (s : List Int) (f : Int → Option Bool) : Option Int :=
  ((loop (t1 (Qg s f)) 0) : Option ((Int) ⊕ (Unit))).bind (Sum.elim (fun q' => some q') (t0 (some (-1))))

noncomputable def Qh (s : List Int) (f : Int → Option Bool) : Option Bool :=
  (Xf s f).bind fun y =>
  some (decide (0 ≤ y))

noncomputable def Zb6 (s : Int) (c0 : Int) (c1 : Int) : Option Bool :=
  some ((decide (s = c0)) || (decide (s = c1)))

noncomputable def Za9 (r_ : api_Rest) (a : Int) (b : Int) : Option Bool :=
  (slc r_.States.toList 0 (64 : Int)).bind fun l =>
  (Qh l (fun z0 => Zb6 z0 a b)).bind fun y =>
  some y

noncomputable def ZcK (s : Int) (c0 : Int) : Option Bool :=
  some (!decide (s = c0))

noncomputable def Zc4 (r_ : api_Rest) (state : Int) : Option Bool :=
  (slc r_.States.toList 0 (64 : Int)).bind fun l =>
  (Qh l (fun z0 => ZcK z0 state)).bind fun y =>
  some (!y)

noncomputable def QA (r_ : api_Rest) (i : Int) : Option ((Int) ⊕ (Int) ⊕ (Unit)) :=
  if (decide (i < 64)) = true then
  (Qo r_.States i).bind fun x =>
  (JL x 0 3).bind fun y2 =>
  if (!y2) = true then
  some (.inr (.inl 9))
  else
  (gd ((decide (x = 0)) == true) 0 (Qo r_.Frame i)).bind fun x2 =>
  (gd (((decide (x = 0)) && (!decide (x2 = 0))) == false) 0 (Qo r_.Frame i)).bind fun x3 =>
  if (((decide (x = 0)) && (!decide (x2 = 0))) || (decide (4095 < x3))) = true then
  some (.inr (.inl 2))
  else
  some (.inl (i64 (i + 1)))
  else
  some (.inr (.inr ()))

noncomputable def Jj (r_ : api_Rest) : Option Int :=
  (JL r_.Number 0 4194303).bind fun y =>
  if (!y) = true then
  some 9
  else
  ((loop (t1 (QA r_)) 0) : Option ((Int) ⊕ (Unit))).bind (Sum.elim (fun q' => some q') (t0 ((gd (r_.Sound == true) false (Jc r_.Frame r_.Number)).bind fun y3 =>
  (gd ((r_.Sound == true) && ((!y3) == false)) false (Za9 r_ 0 1)).bind fun y4 =>
  if (r_.Sound && ((!y3) || y4)) = true then
  some 2
  else
  (gd ((!r_.Sound) == true) false (Za9 r_ 3 2)).bind fun y5 =>
  if ((!r_.Sound) && y5) = true then
  some 2
  else
  (gd (((decide (r_.Copies < 0)) == false) && (((decide (r_.Copies = 0)) && r_.Sound) == true)) false (Zc4 r_ 3)).bind fun y6 =>
  if ((decide (r_.Copies < 0)) || (((decide (r_.Copies = 0)) && r_.Sound) && y6)) = true then
  some 9
  else
  if (r_.Conflict && r_.Sound) = true then
  some 2
  else
  some 0)))

noncomputable def Qe (l : List api_Rest) (i : Int) : Option ((Int) ⊕ (Int) ⊕ (Unit)) :=
  if (decide (i < (l.length : Int))) = true then
  (idx l i).bind fun x =>
  (Jj x).bind fun y =>
  if (!decide (y = 0)) = true then
  some (.inr (.inl y))
  else
  some (.inl (i64 (i + 1)))
  else
  some (.inr (.inr ()))

noncomputable def Qc (l : List api_Rest) (i2 : Int) : Option ((Int) ⊕ (Int) ⊕ (Unit)) :=
  if (decide (i2 < (l.length : Int))) = true then
  (idx l i2).bind fun x2 =>
  (idx l (i64 (i2 - 1))).bind fun x3 =>
  if (decide (x2.Number ≤ x3.Number)) = true then
  some (.inr (.inl 10))
  else
  some (.inl (i64 (i2 + 1)))
  else
  some (.inr (.inr ()))

noncomputable def Jq (l : List api_Rest) : Option Int :=
  if (decide (5000 < (l.length : Int))) = true then
  some 3
  else
  ((loop (t1 (Qe l)) 0) : Option ((Int) ⊕ (Unit))).bind (Sum.elim (fun q' => some q') (t0 (((loop (t1 (Qc l)) 1) : Option ((Int) ⊕ (Unit))).bind (Sum.elim (fun q' => some q') (t0 (some 0))))))

noncomputable def Zdb (m : api_Map) (out2 : List api_Cell) (i : Int) : Option (((List api_Cell) × Int) ⊕ ((List api_Cell))) :=
  if (decide (i < (m.Params.length : Int))) = true then
  (idx m.Params i).bind fun x =>
  (Xm i x).bind fun y =>
  (app out2 y).bind fun l =>
  some (.inl (l, (i64 (i + 1))))
  else
  some (.inr out2)

noncomputable def Zb5 (m : api_Map) : Option (List api_Cell) :=
  ((loop (t2 (Zdb m)) ([], 0)) : Option (((List api_Cell)))).bind (t1 fun (out : List api_Cell) =>
  some out)

noncomputable def Za1 (m : api_Map) : Option ((List api_Cell) × Int) :=
  (Za5 m).bind fun y =>
  if (!decide (y.2 = 0)) = true then
  some ([], y.2)
  else
  (Zb5 m).bind fun y2 =>
  some (y2, 0)

noncomputable def Q5 (p : api_Param) (cells : List api_Cell) (first : Int) (out2 : List Int) (i : Int) : Option (((List Int) × Int) ⊕ ((List Int))) :=
  if (decide (i < (cells.length : Int))) = true then
  (idx cells i).bind fun x =>
  (rem x.Index p.Times).bind fun q =>
  (quo .i64 (i64 (64 * q)) p.Times).bind fun q2 =>
  (app out2 ([(i64 ((i64 (64 * (i64 (first + x.Frame)))) + q2))] : List Int)).bind fun l =>
  some (.inl (l, (i64 (i + 1))))
  else
  some (.inr out2)

noncomputable def XZ (p : api_Param) (cells : List api_Cell) (first : Int) : Option (List Int) :=
  ((loop (t2 (Q5 p cells first)) ([], 0)) : Option (((List Int)))).bind (t1 fun (out : List Int) =>
  some out)

noncomputable def Xq (v : Int) : Option Int :=
  some v

noncomputable def Zbf (raw : Int) (c0 : Int) : Option (Int × Bool) :=
  some (raw, (decide (raw ≤ c0)))

noncomputable def QG (high : Int) : Option layout_number :=
  some (layout_number.mk 0 high (Fv.mk (fun z0 => Xq z0) 132 []) (Fv.mk (fun z0 => Zbf z0 high) 134 [.rp [.int .i64 high] 0]))

noncomputable def Xr (c1 : Int) : Option layout_number :=
  (QG (i64 ((i64 (2 * c1)) - 1))).bind fun y =>
  some y

noncomputable def Xt  : Option layout_number :=
  (QG 1).bind fun y =>
  some y

noncomputable def Xv (c1 : api_Param) : Option layout_number :=
  (QG (i64 ((c1.Names.length : Int) - 1))).bind fun y =>
  some y

noncomputable def Zbd (v : Int) (c0 : Int) : Option Int :=
  some (Ju .i64 v (i64 ((i64 (2 * c0)) - 1)))

noncomputable def XE (raw : Int) (c0 : Int) : Option (Int × Bool) :=
  if (decide (c0 ≤ raw)) = true then
  some ((i64 (raw - (i64 (2 * c0)))), true)
  else
  some (raw, true)

noncomputable def Xu (c0 : Int) : Option layout_number :=
  some (layout_number.mk (i64 (-c0)) (i64 (c0 - 1)) (Fv.mk (fun z0 => Zbd z0 c0) 139 [.rp [.int .i64 c0] 0]) (Fv.mk (fun z0 => XE z0 c0) 140 [.rp [.int .i64 c0] 0]))

noncomputable def XB (v : Int) (c0 : Int) : Option Int :=
  if (decide (v < 0)) = true then
  some (i64 (c0 - v))
  else
  some v

noncomputable def XF (raw : Int) (c0 : Int) : Option (Int × Bool) :=
  if (decide (c0 ≤ raw)) = true then
  some ((i64 (c0 - raw)), (decide (c0 < raw)))
  else
  some (raw, true)

noncomputable def Xw (c0 : Int) : Option layout_number :=
  some (layout_number.mk (i64 (1 - c0)) (i64 (c0 - 1)) (Fv.mk (fun z0 => XB z0 c0) 142 [.rp [.int .i64 c0] 0]) (Fv.mk (fun z0 => XF z0 c0) 143 [.rp [.int .i64 c0] 0]))

noncomputable def Qd (v2 : Int) (raw2 : Int) (shift : Int) : Option ((Int × Int × Int) ⊕ (Int)) :=
  if (decide (0 < v2)) = true then
  (rem v2 10).bind fun q =>
  (shl .i64 q shift).bind fun q2 =>
  (quo .i64 v2 10).bind fun q3 =>
  some (.inl (q3, (bor .i64 raw2 q2), (i64 (shift + 4))))
  else
  some (.inr raw2)

noncomputable def XC (v : Int) : Option Int :=
  ((loop (t3 (Qd)) (v, 0, 0)) : Option ((Int))).bind (t1 fun (raw : Int) =>
  some raw)

noncomputable def Jm (raw : Int) (v2 : Int) (ok2 : Bool) (shift : Int) : Option ((Int × Bool × Int) ⊕ (Int × Bool)) :=
  if (decide (0 ≤ shift)) = true then
  (shr .i64 raw shift).bind fun q =>
  some (.inl ((i64 ((i64 (v2 * 10)) + (Ju .i64 q 15))), (ok2 && (decide ((Ju .i64 q 15) < 10))), (i64 (shift - 4))))
  else
  some (.inr (v2, ok2))

noncomputable def ZaY (raw : Int) : Option (Int × Bool) :=
  ((loop (t3 (Jm raw)) (0, true, 60)) : Option ((Int × Bool))).bind (t2 fun (v : Int) (ok : Bool) =>
  some (v, ok))

noncomputable def ZaG (q : Int) (high2 : Int) (i : Int) : Option ((Int × Int) ⊕ (Int)) :=
  if (decide (i < q)) = true then
  some (.inl ((i64 (high2 * 10)), (i64 (i + 1))))
  else
  some (.inr high2)

noncomputable def QW (c0 : Int) : Option layout_number :=
  (((quo .i64 c0 4).bind fun q =>
  loop (t2 (ZaG q)) (1, 0)) : Option ((Int))).bind (t1 fun (high : Int) =>
  some (layout_number.mk 0 (i64 (high - 1)) (Fv.mk (fun z0 => XC z0) 145 []) (Fv.mk (fun z0 => ZaY z0) 146 [])))

noncomputable def Q1 (p : api_Param) : Option layout_number :=
  (XN p).bind fun y =>
  (shl .i64 1 (i64 (y - 1))).bind fun q =>
  if decide (p.Kind = 1) = true then
  (Xr q).bind fun y2 =>
  some y2
  else
  if decide (p.Kind = 5) = true then
  (Xt).bind fun y3 =>
  some y3
  else
  if decide (p.Kind = 6) = true then
  (Xv p).bind fun y4 =>
  some y4
  else
  if decide (p.Kind = 2) = true then
  (Xu q).bind fun y5 =>
  some y5
  else
  if decide (p.Kind = 3) = true then
  (Xw q).bind fun y6 =>
  some y6
  else
  if decide (p.Kind = 4) = true then
  (QW y).bind fun y7 =>
  some y7
  else
  none

noncomputable def ZaP (p : api_Param) (raw : Int) : Option (Int × Bool) :=
  (Q1 p).bind fun y =>
  (y.decode.fn raw).bind fun y2 =>
  if (!y2.2) = true then
  some (0, false)
  else
  some (y2.1, true)

noncomputable def Zch (p : api_Param) (raw : Int) : Option (Int × Bool) :=
  (ZaP p raw).bind fun y =>
  some (y.1, y.2)

noncomputable def Qw (m : api_Map) (c_ : api_Cell) (l : Vector api_Rest 16) (least2 : Int) (raw2 : Int) (old2 : Bool) (i : Int) : Option ((Int × Int × Bool × Int) ⊕ (Int × Int × Bool)) :=
  if (decide (i < (c_.Places.length : Int))) = true then
  (idx c_.Places i).bind fun x =>
  (Qo l x.Frame).bind fun x2 =>
  (Qo x2.States x.Word).bind fun x3 =>
  (Qo x2.States 3).bind fun x4 =>
  (gd (old2 == false) 0 (Qo x2.Frame 3)).bind fun x5 =>
  (shl .i64 raw2 x.Bits).bind fun q =>
  (Qo x2.Frame x.Word).bind fun x6 =>
  (shr .i64 (i64 x6) x.Low).bind fun q2 =>
  (shl .i64 1 x.Bits).bind fun q3 =>
  some (.inl ((min (min least2 x3) x4), (bor .i64 q (Ju .i64 q2 (i64 (q3 - 1)))), (old2 || (!decide ((i64 (Ju .u16 x5 2047)) = m.Version))), (i64 (i + 1))))
  else
  some (.inr (least2, raw2, old2))

noncomputable def J9 (m : api_Map) (p : api_Param) (c_ : api_Cell) (l : Vector api_Rest 16) : Option (Int × Int) :=
  ((loop (t4 (Qw m c_ l)) (3, 0, false, 0)) : Option ((Int × Int × Bool))).bind (t3 fun (least : Int) (raw : Int) (old : Bool) =>
  if ((decide (least = 0)) || old) = true then
  some (0, 0)
  else
  (Zch p raw).bind fun y =>
  if (!y.2) = true then
  some (0, 1)
  else
  (some ((JX kqI ([(1, 2), (2, 3), (3, 4)] : List (Int × Int)) least).getD 0)).bind fun o =>
  some (y.1, o))

noncomputable def Qa (s : Int) (l5 : List api_Rest) (rests2 : Vector api_Rest 16) : Option (((List api_Rest) × (Vector api_Rest 16)) ⊕ ((List api_Rest) × (Vector api_Rest 16))) :=
  (gd ((decide (0 < (l5.length : Int))) == true) (api_Rest.mk 0 (Vector.replicate 64 0) (Vector.replicate 64 0) false 0 false) (idx l5 0)).bind fun x =>
  (gd ((decide (0 < (l5.length : Int))) == true) 0 (quo .i64 x.Number 16)).bind fun q =>
  if ((decide (0 < (l5.length : Int))) && (decide (q ≤ s))) = true then
  (idx l5 0).bind fun x2 =>
  (quo .i64 x2.Number 16).bind fun q2 =>
  if (decide (q2 = s)) = true then
  (idx l5 0).bind fun x3 =>
  (rem x3.Number 16).bind fun q3 =>
  (idx l5 0).bind fun x4 =>
  (Qo rests2 q3).bind fun x5 =>
  (slc l5 1 (l5.length : Int)).bind fun l6 =>
  some (.inl (l6, (ZoR rests2 q3 x4)))
  else
  (slc l5 1 (l5.length : Int)).bind fun l7 =>
  some (.inl (l7, rests2))
  else
  some (.inr (l5, rests2))

noncomputable def Q0 (m : api_Map) (p : api_Param) (cells : List api_Cell) (l4 : List api_Rest) (rests : Vector api_Rest 16) (y : (List Int)) (out4 : List api_Sample) (i : Int) : Option (((List api_Sample) × Int) ⊕ ((List api_Rest) × (List api_Sample))) :=
  if (decide (i < (cells.length : Int))) = true then
  (idx cells i).bind fun x6 =>
  (J9 m p x6 rests).bind fun y2 =>
  (idx y i).bind fun x7 =>
  (app out4 ([(api_Sample.mk x7 y2.1 y2.2)] : List api_Sample)).bind fun l8 =>
  some (.inl (l8, (i64 (i + 1))))
  else
  some (.inr (l4, out4))

noncomputable def QF (m : api_Map) (p : api_Param) (cells : List api_Cell) (last : Int) (l2 : List api_Rest) (out2 : List api_Sample) (s : Int) : Option (((List api_Rest) × (List api_Sample) × Int) ⊕ ((List api_Sample))) :=
  if (decide (s ≤ last)) = true then
  ((((loop (t2 (Qa s)) (l2, (Vector.replicate 16 (api_Rest.mk 0 (Vector.replicate 64 0) (Vector.replicate 64 0) false 0 false)))) : Option (((List api_Rest) × (Vector api_Rest 16)))).bind (t2 fun (l4 : List api_Rest) (rests : Vector api_Rest 16) =>
  (XZ p cells (i64 (s * 16))).bind fun y =>
  loop (t2 (Q0 m p cells l4 rests y)) (out2, 0))) : Option (((List api_Rest) × (List api_Sample)))).bind (t2 fun (l3 : List api_Rest) (out3 : List api_Sample) =>
  some (.inl (l3, out3, (i64 (s + 1)))))
  else
  some (.inr out2)

noncomputable def JG (m : api_Map) (p : api_Param) (cells : List api_Cell) (l : List api_Rest) (first : Int) (last : Int) : Option (List api_Sample) :=
  ((loop (t3 (QF m p cells last)) (l, [], first)) : Option (((List api_Sample)))).bind (t1 fun (out : List api_Sample) =>
  some out)

noncomputable def JK (m : api_Map) (name : Str) (l : List api_Rest) : Option (api_Series × Int) :=
  (Zcf m).bind fun y =>
  if (!decide (y.2 = 0)) = true then
  some ((api_Series.mk 0 []), y.2)
  else
  (ZH m.Params (fun z0 => QO z0 name)).bind fun y2 =>
  if (decide (y2 < 0)) = true then
  some ((api_Series.mk 0 []), 4)
  else
  (Jq l).bind fun y3 =>
  if (!decide (y3 = 0)) = true then
  some ((api_Series.mk 0 []), y3)
  else
  if (decide ((l.length : Int) = 0)) = true then
  some ((api_Series.mk 1 []), 0)
  else
  (idx m.Params y2).bind fun x =>
  (Za1 (api_Map.mk 0 ([x] : List api_Param))).bind fun y4 =>
  (idx l 0).bind fun x2 =>
  (quo .i64 x2.Number 16).bind fun q =>
  (idx l (i64 ((l.length : Int) - 1))).bind fun x3 =>
  (quo .i64 x3.Number 16).bind fun q2 =>
  if (decide (20000 < (i64 ((i64 ((i64 ((i64 (q2 - q)) + 1)) * (y4.1.length : Int))) + 1)))) = true then
  some ((api_Series.mk 0 []), 3)
  else
  (JG m x y4.1 l q q2).bind fun y5 =>
  (app y5 ([(api_Sample.mk (i64 ((i64 (q2 + 1)) * 1024)) 0 0)] : List api_Sample)).bind fun l2 =>
  some ((api_Series.mk 1 l2), 0)

noncomputable def ZaJ (i : Int) : Option Str :=
  if (decide (i < 10)) = true then
  (slc [48, 49, 50, 51, 52, 53, 54, 55, 56, 57, 97, 98, 99, 100, 101, 102, 103, 104, 105, 106, 107, 108, 109, 110, 111, 112, 113, 114, 115, 116, 117, 118, 119, 120, 121, 122] i (i64 (i + 1))).bind fun s =>
  some s
  else
  (slc [48, 48, 48, 49, 48, 50, 48, 51, 48, 52, 48, 53, 48, 54, 48, 55, 48, 56, 48, 57, 49, 48, 49, 49, 49, 50, 49, 51, 49, 52, 49, 53, 49, 54, 49, 55, 49, 56, 49, 57, 50, 48, 50, 49, 50, 50, 50, 51, 50, 52, 50, 53, 50, 54, 50, 55, 50, 56, 50, 57, 51, 48, 51, 49, 51, 50, 51, 51, 51, 52, 51, 53, 51, 54, 51, 55, 51, 56, 51, 57, 52, 48, 52, 49, 52, 50, 52, 51, 52, 52, 52, 53, 52, 54, 52, 55, 52, 56, 52, 57, 53, 48, 53, 49, 53, 50, 53, 51, 53, 52, 53, 53, 53, 54, 53, 55, 53, 56, 53, 57, 54, 48, 54, 49, 54, 50, 54, 51, 54, 52, 54, 53, 54, 54, 54, 55, 54, 56, 54, 57, 55, 48, 55, 49, 55, 50, 55, 51, 55, 52, 55, 53, 55, 54, 55, 55, 55, 56, 55, 57, 56, 48, 56, 49, 56, 50, 56, 51, 56, 52, 56, 53, 56, 54, 56, 55, 56, 56, 56, 57, 57, 48, 57, 49, 57, 50, 57, 51, 57, 52, 57, 53, 57, 54, 57, 55, 57, 56, 57, 57] (i64 (i * 2)) (i64 ((i64 (i * 2)) + 2))).bind fun s2 =>
  some s2

noncomputable def XD (dst_ : List Int) (i : Int) (base : Int) : Option (List Int) :=
  if (decide (base = 10)) = true then
  if (decide (i < 100)) = true then
  (ZaJ (i64 i)).bind fun y =>
  (app dst_ (bytes y)).bind fun l =>
  some l
  else
  (Zen i).bind fun y2 =>
  (slc (Vector.replicate 24 0).toList 0 y2).bind fun l2 =>
  (Zj2 (Vector.replicate 24 0) (Int.toNat (y2 - 0)) i).bind fun y3 =>
  (slc y3.toList 0 y2).bind fun l3 =>
  (slc y3.toList 0 y2).bind fun l4 =>
  (app dst_ l4).bind fun l5 =>
  some l5
  else
  none

noncomputable def JU (dst_ : List Int) (i : Int) (base : Int) : Option (List Int) :=
  ((if (decide (i < 0)) = true then
  (app dst_ ([45] : List Int)).bind fun l =>
  some (l, (u64 (-(u64 i))))
  else
  some (dst_, (u64 i))) : Option (((List Int) × Int))).bind (t2 fun (o : List Int) (u : Int) =>
  (XD o u base).bind fun y =>
  some y)

noncomputable def Jn (dst_ : List Int) (i : Int) (base : Int) : Option (List Int) :=
  (JU dst_ i base).bind fun y =>
  some y

noncomputable def XK (k : ref0_Ink) (n : Int) : Option ref0_Ink :=
  (Jn k.out n 10).bind fun y =>
  (app y ([32] : List Int)).bind fun l =>
  some (ref0_Ink.mk l)

noncomputable def Za0 (l : List Int) (out : List Int) (i : Int) : Option (((List Int) × Int) ⊕ (ref0_Ink)) :=
  if (decide (i < (l.length : Int))) = true then
  (idx l i).bind fun x =>
  (XK (ref0_Ink.mk out) x).bind fun y2 =>
  some (.inl (y2.out, (i64 (i + 1))))
  else
  some (.inr (ref0_Ink.mk out))

noncomputable def Zbn (k : ref0_Ink) (l : List Int) : Option ref0_Ink :=
  (XK k (l.length : Int)).bind fun y =>
  loop (t2 (Za0 l)) (y.out, 0)

noncomputable def Zab (k : ref0_Ink) (x : api_Sample) : Option ref0_Ink :=
  (Zbn k ([x.At, x.N, x.Mark] : List Int)).bind fun y =>
  some y

noncomputable def J7 (s : api_Series) (out : List Int) (i : Int) : Option (((List Int) × Int) ⊕ (ref0_Ink)) :=
  if (decide (i < (s.Samples.length : Int))) = true then
  (idx s.Samples i).bind fun x =>
  (Zab (ref0_Ink.mk out) x).bind fun y3 =>
  some (.inl (y3.out, (i64 (i + 1))))
  else
  some (.inr (ref0_Ink.mk out))

noncomputable def J8 (k : ref0_Ink) (s : api_Series) : Option ref0_Ink :=
  (XK k s.Den).bind fun y =>
  (XK y (s.Samples.length : Int)).bind fun y2 =>
  loop (t2 (J7 s)) (y2.out, 0)

noncomputable def Zcg (k : ref0_Ink) (e : Int) : Option ref0_Ink :=
  (XK k e).bind fun y =>
  some y

noncomputable def ZcG (k : ref0_Ink) : Option Str :=
  some (Zdm k.out)

noncomputable def ZbV (s : api_Series) (e : Int) : Option Str :=
  (J8 (ref0_Ink.mk []) s).bind fun y =>
  (Zcg y e).bind fun y2 =>
  (ZcG y2).bind fun y3 =>
  some y3

noncomputable def QD (n : Int) (low : Int) (high : Int) : Option Bool :=
  some ((decide (n < low)) || (decide (high < n)))

noncomputable def JM (s : Str) (i : Int) : Option ((Int) ⊕ (Bool) ⊕ (Unit)) :=
  if (decide (i < (s.length : Int))) = true then
  (ZjH s i).bind fun b =>
  if (!(((decide (97 ≤ b)) && (decide (b ≤ 122))) || ((decide (0 < i)) && (((decide (48 ≤ b)) && (decide (b ≤ 57))) || (decide (b = 45)))))) = true then
  some (.inr (.inl false))
  else
  some (.inl (i64 (i + 1)))
  else
  some (.inr (.inr ()))

noncomputable def ZbT (s : Str) : Option Bool :=
  ((loop (t1 (JM s)) 0) : Option ((Bool) ⊕ (Unit))).bind (Sum.elim (fun q' => some q') (t0 (some ((decide (1 ≤ (s.length : Int))) && (decide ((s.length : Int) ≤ 30))))))

noncomputable def Zhq (p : api_Param) (n2 : Int) (i : Int) : Option ((Int × Int) ⊕ (Int)) :=
  if (decide (i < (p.Parts.length : Int))) = true then
  (idx p.Parts i).bind fun x =>
  some (.inl ((i64 (n2 + x.Bits)), (i64 (i + 1))))
  else
  some (.inr n2)

noncomputable def Zcy (p : api_Param) : Option Int :=
  ((loop (t2 (Zhq p)) (0, 0)) : Option ((Int))).bind (t1 fun (n : Int) =>
  some n)

noncomputable def JY (p : api_Param) (i : Int) : Option ((Int) ⊕ (Int) ⊕ (Unit)) :=
  if (decide (i < (p.Parts.length : Int))) = true then
  (idx p.Parts i).bind fun x =>
  (QD x.Frame 0 15).bind fun y =>
  (gd (y == false) false (QD x.Word 4 60)).bind fun y2 =>
  (gd ((y || y2) == false) false (QD x.Low 0 10)).bind fun y3 =>
  (gd (((y || y2) || y3) == false) false (QD x.Bits 1 (i64 (11 - x.Low)))).bind fun y4 =>
  if (((y || y2) || y3) || y4) = true then
  some (.inr (.inl 9))
  else
  some (.inl (i64 (i + 1)))
  else
  some (.inr (.inr ()))

noncomputable def Zaa (p : api_Param) : Option Int :=
  if (decide ((p.Parts.length : Int) = 0)) = true then
  some 13
  else
  if (decide (8 < (p.Parts.length : Int))) = true then
  some 3
  else
  ((loop (t1 (JY p)) 0) : Option ((Int) ⊕ (Unit))).bind (Sum.elim (fun q' => some q') (t0 ((Zcy p).bind fun y5 =>
  if (decide (40 < y5)) = true then
  some 3
  else
  some 0)))

noncomputable def XW (p : api_Param) (i : Int) : Option ((Int) ⊕ (Int) ⊕ (Unit)) :=
  if (decide (i < (p.Parts.length : Int))) = true then
  (idx p.Parts i).bind fun x =>
  if (((decide (1 < p.Times)) && (decide (57 < p.Step))) || (decide (60 < (i64 (x.Word + (i64 ((i64 (p.Times - 1)) * p.Step))))))) = true then
  some (.inr (.inl 9))
  else
  some (.inl (i64 (i + 1)))
  else
  some (.inr (.inr ()))

noncomputable def Zae (p : api_Param) : Option Int :=
  ((if (decide (p.Every = 1)) = true then
  if (decide (p.Every = 1)) = true then
  some (.inr ())
  else
  some (.inl 9)
  else
  if (decide (p.Every = 2)) = true then
  if (decide (p.Every = 2)) = true then
  some (.inr ())
  else
  some (.inl 9)
  else
  if (decide (p.Every = 4)) = true then
  if (decide (p.Every = 4)) = true then
  some (.inr ())
  else
  some (.inl 9)
  else
  if (decide (p.Every = 8)) = true then
  if (decide (p.Every = 8)) = true then
  some (.inr ())
  else
  some (.inl 9)
  else
  if (decide (p.Every = 16)) = true then
  some (.inr ())
  else
  some (.inl 9)) : Option ((Int) ⊕ (Unit))).bind (Sum.elim (fun q' => some q') (t0 ((QD p.First 0 (i64 (p.Every - 1))).bind fun y =>
  (gd (y == false) false (QD p.Times 1 57)).bind fun y2 =>
  if (((y || y2) || (decide (p.Step < 0))) || (!((decide (p.Step = 0)) == (decide (p.Times = 1))))) = true then
  some 9
  else
  ((loop (t1 (XW p)) 0) : Option ((Int) ⊕ (Unit))).bind (Sum.elim (fun q' => some q') (t0 (some 0))))))

noncomputable def Jl (x : Str) (l : List Str) (i2 : Int) : Option ((Int) ⊕ (Int) ⊕ (Unit)) :=
  if (decide (i2 < (l.length : Int))) = true then
  (idx l i2).bind fun x2 =>
  if (decide (x = x2)) = true then
  some (.inr (.inl 5))
  else
  some (.inl (i64 (i2 + 1)))
  else
  some (.inr (.inr ()))

noncomputable def Ji (p : api_Param) (i : Int) : Option ((Int) ⊕ (Int) ⊕ (Unit)) :=
  if (decide (i < (p.Names.length : Int))) = true then
  (((idx p.Names i).bind fun x =>
  (ZbT x).bind fun y2 =>
  if (!y2) = true then
  some (.inl 8)
  else
  (slc p.Names 0 i).bind fun l =>
  loop (t1 (Jl x l)) 0) : Option ((Int) ⊕ (Unit))).bind (Sum.elim (fun q' => some (.inr (.inl q'))) (t0 (some (.inl (i64 (i + 1))))))
  else
  some (.inr (.inr ()))

noncomputable def ZaX (p : api_Param) : Option Int :=
  (Zcy p).bind fun y =>
  (gd ((decide (p.Kind = 4)) == true) 0 (rem y 4)).bind fun q =>
  if ((((decide (p.Kind = 4)) && (!decide (q = 0))) || ((decide (p.Kind = 5)) && (!decide (y = 1)))) || (((decide (p.Kind = 2)) || (decide (p.Kind = 3))) && (decide (y = 1)))) = true then
  some 2
  else
  if (!decide (p.Kind = 6)) = true then
  if (decide (0 < (p.Names.length : Int))) = true then
  some 2
  else
  some 0
  else
  if (decide ((p.Names.length : Int) = 0)) = true then
  some 13
  else
  (gd ((decide (64 < (p.Names.length : Int))) == false) 0 (shl .i64 1 y)).bind fun q2 =>
  if ((decide (64 < (p.Names.length : Int))) || (decide (q2 < (p.Names.length : Int)))) = true then
  some 3
  else
  ((loop (t1 (Ji p)) 0) : Option ((Int) ⊕ (Unit))).bind (Sum.elim (fun q' => some q') (t0 (some 0)))

noncomputable def Zap (p : api_Param) (f : Int) (inside2 : Bool) (i : Int) : Option ((Bool × Int) ⊕ (Bool)) :=
  if (decide (i < (p.Parts.length : Int))) = true then
  (idx p.Parts i).bind fun x =>
  some (.inl ((inside2 && (decide ((i64 (f + x.Frame)) < 16))), (i64 (i + 1))))
  else
  some (.inr inside2)

noncomputable def ZcI (p : api_Param) (f : Int) (j : Int) (Places2 : List api_Place) (i2 : Int) : Option (((List api_Place) × Int) ⊕ ((List api_Place))) :=
  if (decide (i2 < (p.Parts.length : Int))) = true then
  (idx p.Parts i2).bind fun x2 =>
  (app Places2 ([(api_Place.mk (i64 (f + x2.Frame)) (i64 (x2.Word + (i64 (j * p.Step)))) x2.Low x2.Bits)] : List api_Place)).bind fun l =>
  some (.inl (l, (i64 (i2 + 1))))
  else
  some (.inr Places2)

noncomputable def Zau (p : api_Param) (number : Int) (f : Int) (Zax : Bool) (out4 : List api_Cell) (j : Int) : Option (((List api_Cell) × Int) ⊕ ((List api_Cell))) :=
  if ((decide (j < p.Times)) && Zax) = true then
  ((loop (t2 (ZcI p f j)) ([], 0)) : Option (((List api_Place)))).bind (t1 fun (Places : List api_Place) =>
  (app out4 ([(api_Cell.mk number (out4.length : Int) f Places)] : List api_Cell)).bind fun l2 =>
  some (.inl (l2, (i64 (j + 1)))))
  else
  some (.inr out4)

noncomputable def XL (p : api_Param) (number : Int) (out2 : List api_Cell) (f : Int) : Option (((List api_Cell) × Int) ⊕ ((List api_Cell))) :=
  if (decide (f < 16)) = true then
  ((((loop (t2 (Zap p f)) (true, 0)) : Option ((Bool))).bind (t1 fun (Zax : Bool) =>
  loop (t2 (Zau p number f Zax)) (out2, 0))) : Option (((List api_Cell)))).bind (t1 fun (out3 : List api_Cell) =>
  some (.inl (out3, (i64 (f + p.Every)))))
  else
  some (.inr out2)

noncomputable def JV (p : api_Param) (number : Int) : Option (List api_Cell) :=
  ((loop (t2 (XL p number)) ([], p.First)) : Option (((List api_Cell)))).bind (t1 fun (out : List api_Cell) =>
  some out)

noncomputable def Q9 (x : api_Place) (o4 : List ((Vector Int 3) × Bool)) (ok4 : Bool) (b : Int) : Option (((List ((Vector Int 3) × Bool)) × Bool × Int) ⊕ ((List ((Vector Int 3) × Bool)) × Bool)) :=
  if (decide (b < (i64 (x.Low + x.Bits)))) = true then
  (gd (ok4 == true) false (some ((JX kqV o4 (#v[x.Frame, x.Word, b] : Vector Int 3)).getD false))).bind fun o5 =>
  some (.inl ((Zei kqV o4 (#v[x.Frame, x.Word, b] : Vector Int 3) true), (ok4 && (!o5)), (i64 (b + 1))))
  else
  some (.inr (o4, ok4))

noncomputable def Q8 (l : List api_Place) (o2 : List ((Vector Int 3) × Bool)) (ok2 : Bool) (i : Int) : Option (((List ((Vector Int 3) × Bool)) × Bool × Int) ⊕ ((List ((Vector Int 3) × Bool)) × Bool)) :=
  if (decide (i < (l.length : Int))) = true then
  (((idx l i).bind fun x =>
  loop (t3 (Q9 x)) (o2, ok2, x.Low)) : Option (((List ((Vector Int 3) × Bool)) × Bool))).bind (t2 fun (o3 : List ((Vector Int 3) × Bool)) (ok3 : Bool) =>
  some (.inl (o3, ok3, (i64 (i + 1)))))
  else
  some (.inr (o2, ok2))

noncomputable def Zag (t : List ((Vector Int 3) × Bool)) (l : List api_Place) : Option (Bool × (List ((Vector Int 3) × Bool))) :=
  ((loop (t3 (Q8 l)) (t, true, 0)) : Option (((List ((Vector Int 3) × Bool)) × Bool))).bind (t2 fun (o : List ((Vector Int 3) × Bool)) (ok : Bool) =>
  some (ok, o))

noncomputable def QI (l : List api_Cell) (o2 : List ((Vector Int 3) × Bool)) (ok2 : Bool) (i : Int) : Option (((List ((Vector Int 3) × Bool)) × Bool × Int) ⊕ ((List ((Vector Int 3) × Bool)) × Bool)) :=
  if (decide (i < (l.length : Int))) = true then
  (idx l i).bind fun x =>
  (Zag o2 x.Places).bind fun y =>
  if (!y.1) = true then
  some (.inl (y.2, false, (i64 (i + 1))))
  else
  some (.inl (y.2, ok2, (i64 (i + 1))))
  else
  some (.inr (o2, ok2))

noncomputable def Xa (t : List ((Vector Int 3) × Bool)) (l : List api_Cell) : Option (Bool × (List ((Vector Int 3) × Bool))) :=
  ((loop (t3 (QI l)) (t, true, 0)) : Option (((List ((Vector Int 3) × Bool)) × Bool))).bind (t2 fun (o : List ((Vector Int 3) × Bool)) (ok : Bool) =>
  some (ok, o))

noncomputable def Jf (p : api_Param) : Option Int :=
  (ZbT p.Name).bind fun y =>
  if (!y) = true then
  some 8
  else
  (QD p.Kind 1 6).bind fun y2 =>
  if y2 = true then
  some 7
  else
  (Zaa p).bind fun y3 =>
  if (!decide (y3 = 0)) = true then
  some y3
  else
  (Zae p).bind fun y4 =>
  if (!decide (y4 = 0)) = true then
  some y4
  else
  (ZaX p).bind fun y5 =>
  if (!decide (y5 = 0)) = true then
  some y5
  else
  (JV p 0).bind fun y6 =>
  (Xa ([] : List ((Vector Int 3) × Bool)) y6).bind fun y7 =>
  if (!y7.1) = true then
  some 5
  else
  if (decide ((y6.length : Int) = 0)) = true then
  some 13
  else
  some 0

noncomputable def Zbl (i : Int) (x : api_Param) (l : List api_Param) (i2 : Int) : Option ((Int) ⊕ (Int × Int) ⊕ (Unit)) :=
  if (decide (i2 < (l.length : Int))) = true then
  (idx l i2).bind fun x2 =>
  if (decide (x2.Name = x.Name)) = true then
  some (.inr (.inl (i, 5)))
  else
  some (.inl (i64 (i2 + 1)))
  else
  some (.inr (.inr ()))

noncomputable def Zbj (m : api_Map) (i : Int) : Option ((Int) ⊕ (Int × Int) ⊕ (Unit)) :=
  if (decide (i < (m.Params.length : Int))) = true then
  (((idx m.Params i).bind fun x =>
  (Jf x).bind fun y2 =>
  if (!decide (y2 = 0)) = true then
  some (.inl (i, y2))
  else
  (slc m.Params 0 i).bind fun l =>
  loop (t1 (Zbl i x l)) 0) : Option ((Int × Int) ⊕ (Unit))).bind (Sum.elim (fun q' => some (.inr (.inl q'))) (t0 (some (.inl (i64 (i + 1))))))
  else
  some (.inr (.inr ()))

noncomputable def Zas (m : api_Map) (n : Int) (i3 : Int) : Option ((Int × Int) ⊕ (Int × Int) ⊕ (Unit)) :=
  if (decide (i3 < (m.Params.length : Int))) = true then
  (idx m.Params i3).bind fun x3 =>
  (JV x3 i3).bind fun y3 =>
  if (decide (4000 < (i64 (n + (y3.length : Int))))) = true then
  some (.inr (.inl (i3, 3)))
  else
  some (.inl ((i64 (n + (y3.length : Int))), (i64 (i3 + 1))))
  else
  some (.inr (.inr ()))

noncomputable def Zan (m : api_Map) (t : List ((Vector Int 3) × Bool)) (i4 : Int) : Option (((List ((Vector Int 3) × Bool)) × Int) ⊕ (Int × Int) ⊕ (Unit)) :=
  if (decide (i4 < (m.Params.length : Int))) = true then
  (idx m.Params i4).bind fun x4 =>
  (JV x4 i4).bind fun y4 =>
  (Xa t y4).bind fun y5 =>
  if (!y5.1) = true then
  some (.inr (.inl (i4, 5)))
  else
  some (.inl (y5.2, (i64 (i4 + 1))))
  else
  some (.inr (.inr ()))

noncomputable def Zco (m : api_Map) : Option (Int × Int) :=
  (QD m.Version 0 2047).bind fun y =>
  if y = true then
  some (0, 9)
  else
  if (decide (200 < (m.Params.length : Int))) = true then
  some (0, 3)
  else
  ((loop (t1 (Zbj m)) 0) : Option ((Int × Int) ⊕ (Unit))).bind (Sum.elim (fun q' => some q') (t0 (((loop (t2 (Zas m)) (0, 0)) : Option ((Int × Int) ⊕ (Unit))).bind (Sum.elim (fun q' => some q') (t0 (((loop (t2 (Zan m)) (([] : List ((Vector Int 3) × Bool)), 0)) : Option ((Int × Int) ⊕ (Unit))).bind (Sum.elim (fun q' => some q') (t0 (some (0, 0))))))))))

noncomputable def Zd3 (m : api_Map) (name : Str) (i : Int) : Option ((Int) ⊕ (Int) ⊕ (Unit)) :=
  if (decide (i < (m.Params.length : Int))) = true then
  (idx m.Params i).bind fun x =>
  if (decide (x.Name = name)) = true then
  some (.inr (.inl i))
  else
  some (.inl (i64 (i + 1)))
  else
  some (.inr (.inr ()))

noncomputable def Zdv (m : api_Map) (name : Str) : Option Int :=
  ((loop (t1 (Zd3 m name)) 0) : Option ((Int) ⊕ (Unit))).bind (Sum.elim (fun q' => some q') (t0 (some (-1))))

noncomputable def Zaq (f : Vector Int 64) : Option Int :=
  (Qo f 1).bind fun x =>
  (rem (i64 x) 2048).bind fun q =>
  (Qo f 2).bind fun x2 =>
  (rem (i64 x2) 2048).bind fun q2 =>
  some (i64 (q + (i64 (q2 * 2048))))

noncomputable def ZcR (number : Int) : Option Int :=
  (rem number 4).bind fun q =>
  (Qo (#v[583, 1464, 2631, 3512] : Vector Int 4) q).bind fun x =>
  some x

noncomputable def ZdX (n2 : Int) (ones2 : Int) : Option ((Int × Int) ⊕ (Int)) :=
  if (decide (0 < n2)) = true then
  (rem n2 2).bind fun q =>
  (quo .i64 n2 2).bind fun q2 =>
  some (.inl (q2, (i64 (ones2 + q))))
  else
  some (.inr ones2)

noncomputable def Zc3 (n : Int) : Option Bool :=
  ((loop (t2 (ZdX)) (n, 0)) : Option ((Int))).bind (t1 fun (ones : Int) =>
  (rem ones 2).bind fun q3 =>
  some (decide (q3 = 1)))

noncomputable def ZcM (f : Vector Int 64) (x2 : Int) (i : Int) : Option ((Int × Int) ⊕ (Int)) :=
  if (decide (i ≤ 60)) = true then
  (Qo f i).bind fun x3 =>
  (rem (i64 x3) 2048).bind fun q =>
  some (.inl ((ZiF .i64 x2 q), (i64 (i + 1))))
  else
  some (.inr x2)

noncomputable def Zfi (f : Vector Int 64) : Option Int :=
  ((loop (t2 (ZcM f)) (0, 1)) : Option ((Int))).bind (t1 fun (x : Int) =>
  some x)

noncomputable def Zbt (f : Vector Int 64) (rest2 : Int) (i : Int) : Option ((Int × Int) ⊕ (Int)) :=
  if (decide (i < 766)) = true then
  ((if (decide (i < 744)) = true then
  (quo .i64 i 12).bind fun q =>
  (Qo f q).bind fun x =>
  (rem i 12).bind fun q2 =>
  (shr .i64 (i64 x) (i64 (11 - q2))).bind fun q3 =>
  some (Ju .i64 q3 1)
  else
  some 0) : Option ((Int))).bind (t1 fun (bit : Int) =>
  if (decide (4194304 ≤ (i64 ((i64 (rest2 * 2)) + bit)))) = true then
  some (.inl ((ZiF .i64 (i64 ((i64 (rest2 * 2)) + bit)) 6291471), (i64 (i + 1))))
  else
  some (.inl ((i64 ((i64 (rest2 * 2)) + bit)), (i64 (i + 1)))))
  else
  some (.inr rest2)

noncomputable def ZdN (f : Vector Int 64) : Option Int :=
  ((loop (t2 (Zbt f)) (0, 0)) : Option ((Int))).bind (t1 fun (rest : Int) =>
  some rest)

noncomputable def Zby (f : Vector Int 64) (out2 : List api_Flaw) (i : Int) : Option (((List api_Flaw) × Int) ⊕ ((List api_Flaw))) :=
  if (decide (i < 64)) = true then
  (Qo f i).bind fun x =>
  if (decide (4095 < x)) = true then
  (app out2 ([(api_Flaw.mk i 5)] : List api_Flaw)).bind fun l =>
  some (.inl (l, (i64 (i + 1))))
  else
  some (.inl (out2, (i64 (i + 1))))
  else
  some (.inr out2)

noncomputable def Zbr (f : Vector Int 64) (out5 : List api_Flaw) (i2 : Int) : Option (((List api_Flaw) × Int) ⊕ ((List api_Flaw))) :=
  if (decide (i2 < 64)) = true then
  (Qo f i2).bind fun x3 =>
  (Zc3 (i64 x3)).bind fun y3 =>
  if (!y3) = true then
  (app out5 ([(api_Flaw.mk i2 2)] : List api_Flaw)).bind fun l3 =>
  some (.inl (l3, (i64 (i2 + 1))))
  else
  some (.inl (out5, (i64 (i2 + 1))))
  else
  some (.inr out5)

noncomputable def ZdP (f : Vector Int 64) : Option (List api_Flaw) :=
  ((loop (t2 (Zby f)) ([], 0)) : Option (((List api_Flaw)))).bind (t1 fun (out : List api_Flaw) =>
  if (decide (0 < (out.length : Int))) = true then
  some out
  else
  (((Qo f 0).bind fun x2 =>
  (Zaq f).bind fun y =>
  (ZcR y).bind fun y2 =>
  if (!decide ((i64 x2) = y2)) = true then
  (app out ([(api_Flaw.mk 0 1)] : List api_Flaw)).bind fun l2 =>
  some l2
  else
  some out) : Option (((List api_Flaw)))).bind (t1 fun (out3 : List api_Flaw) =>
  ((loop (t2 (Zbr f)) (out3, 1)) : Option (((List api_Flaw)))).bind (t1 fun (out4 : List api_Flaw) =>
  (((Qo f 61).bind fun x4 =>
  (rem (i64 x4) 2048).bind fun q =>
  (Zfi f).bind fun y4 =>
  if (!decide (q = y4)) = true then
  (app out4 ([(api_Flaw.mk 61 3)] : List api_Flaw)).bind fun l4 =>
  some l4
  else
  some out4) : Option (((List api_Flaw)))).bind (t1 fun (out6 : List api_Flaw) =>
  (Qo f 62).bind fun x5 =>
  (rem (i64 x5) 2048).bind fun q2 =>
  (Qo f 63).bind fun x6 =>
  (rem (i64 x6) 2048).bind fun q3 =>
  (ZdN f).bind fun y5 =>
  if (!decide ((i64 ((i64 (q2 * 2048)) + q3)) = y5)) = true then
  (app out6 ([(api_Flaw.mk 62 4)] : List api_Flaw)).bind fun l5 =>
  some l5
  else
  some out6))))

noncomputable def Zcx (f : Vector Int 64) : Option Bool :=
  (ZdP f).bind fun y =>
  some (decide ((y.length : Int) = 0))

noncomputable def Zcu (w : Int) : Option Bool :=
  (gd ((decide (w ≤ 4095)) == true) false (Zc3 (i64 w))).bind fun y =>
  some ((decide (w ≤ 4095)) && y)

noncomputable def ZcQ (f : Vector Int 64) : Option (Int × Bool) :=
  (Qo f 1).bind fun x =>
  (Zcu x).bind fun y =>
  (gd ((!y) == false) 0 (Qo f 2)).bind fun x2 =>
  (gd ((!y) == false) false (Zcu x2)).bind fun y2 =>
  if ((!y) || (!y2)) = true then
  some (0, false)
  else
  (Zaq f).bind fun y3 =>
  some (y3, true)

noncomputable def Zc2 (f : Vector Int 64) : Option Int :=
  (ZcQ f).bind fun y =>
  some y.1

noncomputable def Qk (r_ : api_Rest) (good2 : Int) (known2 : Int) (mended2 : Int) (lost2 : Int) (i : Int) : Option ((Int × Int × Int × Int × Int) ⊕ (Int) ⊕ (Int × Int × Int × Int)) :=
  if (decide (i < 64)) = true then
  (((Qo r_.States i).bind fun x =>
  if ((decide (x < 0)) || (decide (3 < x))) = true then
  some (.inl 9)
  else
  (gd ((decide (x = 0)) == true) 0 (Qo r_.Frame i)).bind fun x2 =>
  (gd (((decide (x = 0)) && (!decide (x2 = 0))) == false) 0 (Qo r_.Frame i)).bind fun x3 =>
  if (((decide (x = 0)) && (!decide (x2 = 0))) || (decide (4095 < x3))) = true then
  some (.inl 2)
  else
  if (decide (x = 3)) = true then
  some (.inr ((i64 (good2 + 1)), known2, mended2, lost2))
  else
  if (decide (x = 2)) = true then
  some (.inr (good2, known2, (i64 (mended2 + 1)), lost2))
  else
  if (decide (x = 1)) = true then
  some (.inr (good2, (i64 (known2 + 1)), mended2, lost2))
  else
  some (.inr (good2, known2, mended2, (i64 (lost2 + 1))))) : Option ((Int) ⊕ (Int × Int × Int × Int))).bind (Sum.elim (fun q' => some (.inr (.inl q'))) (t4 fun (good3 : Int) (known3 : Int) (mended3 : Int) (lost3 : Int) =>
  some (.inl (good3, known3, mended3, lost3, (i64 (i + 1))))))
  else
  some (.inr (.inr (good2, known2, mended2, lost2)))

noncomputable def ZaR (r_ : api_Rest) : Option Int :=
  if ((decide (r_.Number < 0)) || (decide (4194304 ≤ r_.Number))) = true then
  some 9
  else
  ((loop (t5 (Qk r_)) (0, 0, 0, 0, 0)) : Option ((Int) ⊕ (Int × Int × Int × Int))).bind (Sum.elim (fun q' => some q') (t4 fun (good : Int) (known : Int) (mended : Int) (lost : Int) =>
  (gd (r_.Sound == true) false (Zcx r_.Frame)).bind fun y =>
  (gd ((r_.Sound == true) && ((!y) == false)) 0 (Zc2 r_.Frame)).bind fun y2 =>
  if (r_.Sound && (((!y) || (!decide (y2 = r_.Number))) || (decide (0 < (i64 (lost + known)))))) = true then
  some 2
  else
  if ((!r_.Sound) && (decide (0 < (i64 (good + mended))))) = true then
  some 2
  else
  if ((decide (r_.Copies < 0)) || (((decide (r_.Copies = 0)) && r_.Sound) && (decide (good = 64)))) = true then
  some 9
  else
  if (r_.Conflict && r_.Sound) = true then
  some 2
  else
  some 0))

noncomputable def J5 (l : List api_Rest) (i : Int) : Option ((Int) ⊕ (Int) ⊕ (Unit)) :=
  if (decide (i < (l.length : Int))) = true then
  (idx l i).bind fun x =>
  (ZaR x).bind fun y =>
  if (!decide (y = 0)) = true then
  some (.inr (.inl y))
  else
  some (.inl (i64 (i + 1)))
  else
  some (.inr (.inr ()))

noncomputable def ZbI (l : List api_Rest) (i2 : Int) : Option ((Int) ⊕ (Int) ⊕ (Unit)) :=
  if (decide (i2 < (l.length : Int))) = true then
  (idx l i2).bind fun x2 =>
  (idx l (i64 (i2 - 1))).bind fun x3 =>
  if (decide (x2.Number ≤ x3.Number)) = true then
  some (.inr (.inl 10))
  else
  some (.inl (i64 (i2 + 1)))
  else
  some (.inr (.inr ()))

noncomputable def Zaj (l : List api_Rest) : Option Int :=
  if (decide (5000 < (l.length : Int))) = true then
  some 3
  else
  ((loop (t1 (J5 l)) 0) : Option ((Int) ⊕ (Unit))).bind (Sum.elim (fun q' => some q') (t0 (((loop (t1 (ZbI l)) 1) : Option ((Int) ⊕ (Unit))).bind (Sum.elim (fun q' => some q') (t0 (some 0))))))

noncomputable def Zcw (m : api_Map) (out2 : List api_Cell) (i : Int) : Option (((List api_Cell) × Int) ⊕ ((List api_Cell))) :=
  if (decide (i < (m.Params.length : Int))) = true then
  (idx m.Params i).bind fun x =>
  (JV x i).bind fun y =>
  (app out2 y).bind fun l =>
  some (.inl (l, (i64 (i + 1))))
  else
  some (.inr out2)

noncomputable def Zbk (m : api_Map) : Option (List api_Cell) :=
  ((loop (t2 (Zcw m)) ([], 0)) : Option (((List api_Cell)))).bind (t1 fun (out : List api_Cell) =>
  some out)

noncomputable def ZdB (m : api_Map) : Option ((List api_Cell) × Int) :=
  (Zco m).bind fun y =>
  if (!decide (y.2 = 0)) = true then
  some ([], y.2)
  else
  (Zbk m).bind fun y2 =>
  some (y2, 0)

noncomputable def X9 (n : Int) (y : (List api_Cell) × Int) (out2 : List api_Cell) (i : Int) : Option (((List api_Cell) × Int) ⊕ ((List api_Cell))) :=
  if (decide (i < (y.1.length : Int))) = true then
  (idx y.1 i).bind fun x =>
  if (decide (x.Param = n)) = true then
  (idx y.1 i).bind fun x2 =>
  (app out2 ([x2] : List api_Cell)).bind fun l =>
  some (.inl (l, (i64 (i + 1))))
  else
  some (.inl (out2, (i64 (i + 1))))
  else
  some (.inr out2)

noncomputable def Za4 (m : api_Map) (n : Int) : Option (List api_Cell) :=
  (ZdB m).bind fun y =>
  ((loop (t2 (X9 n y)) ([], 0)) : Option (((List api_Cell)))).bind (t1 fun (out : List api_Cell) =>
  some out)

noncomputable def Xx (p : api_Param) (cells : List api_Cell) (first : Int) (out2 : List Int) (had : List (Int × Int)) (i : Int) : Option (((List Int) × (List (Int × Int)) × Int) ⊕ ((List Int))) :=
  if (decide (i < (cells.length : Int))) = true then
  (idx cells i).bind fun x =>
  (some ((JX kqI had x.Frame).getD 0)).bind fun o =>
  (quo .i64 (i64 (64 * o)) p.Times).bind fun q =>
  (app out2 ([(i64 ((i64 (64 * (i64 (first + x.Frame)))) + q))] : List Int)).bind fun l =>
  (some ((JX kqI had x.Frame).getD 0)).bind fun o2 =>
  some (.inl (l, (Zei kqI had x.Frame (i64 (o2 + 1))), (i64 (i + 1))))
  else
  some (.inr out2)

noncomputable def Zb0 (p : api_Param) (cells : List api_Cell) (first : Int) : Option (List Int) :=
  ((loop (t3 (Xx p cells first)) ([], ([] : List (Int × Int)), 0)) : Option (((List Int)))).bind (t1 fun (out : List Int) =>
  some out)

noncomputable def Zew (l : List api_Rest) (from_ : Int) (a2 : Int) : Option ((Int) ⊕ (Int)) :=
  (gd ((decide (a2 < (l.length : Int))) == true) (api_Rest.mk 0 (Vector.replicate 64 0) (Vector.replicate 64 0) false 0 false) (idx l a2)).bind fun x =>
  if ((decide (a2 < (l.length : Int))) && (decide (x.Number < from_))) = true then
  some (.inl (i64 (a2 + 1)))
  else
  some (.inr a2)

noncomputable def ZeM (l : List api_Rest) (to : Int) (b2 : Int) : Option ((Int) ⊕ (Int)) :=
  (gd ((decide (b2 < (l.length : Int))) == true) (api_Rest.mk 0 (Vector.replicate 64 0) (Vector.replicate 64 0) false 0 false) (idx l b2)).bind fun x2 =>
  if ((decide (b2 < (l.length : Int))) && (decide (x2.Number < to))) = true then
  some (.inl (i64 (b2 + 1)))
  else
  some (.inr b2)

noncomputable def Zeb (l : List api_Rest) (from_ : Int) (to : Int) : Option (List api_Rest) :=
  ((loop (t1 (Zew l from_)) 0) : Option ((Int))).bind (t1 fun (a : Int) =>
  ((loop (t1 (ZeM l to)) a) : Option ((Int))).bind (t1 fun (b : Int) =>
  (slc l a b).bind fun l2 =>
  some l2))

noncomputable def ZdT (a : api_Where) (b : api_Where) : Option Bool :=
  some ((decide (a.Number < b.Number)) || ((decide (a.Number = b.Number)) && (decide (a.Word < b.Word))))

noncomputable def Zbb (l : List api_Where) (x : api_Where) (at_2 : Int) : Option ((Int) ⊕ (Int)) :=
  (gd ((decide (at_2 < (l.length : Int))) == true) (api_Where.mk 0 0) (idx l at_2)).bind fun x2 =>
  (gd ((decide (at_2 < (l.length : Int))) == true) false (ZdT x2 x)).bind fun y =>
  if ((decide (at_2 < (l.length : Int))) && y) = true then
  some (.inl (i64 (at_2 + 1)))
  else
  some (.inr at_2)

noncomputable def Zbv (l : List api_Where) (x : api_Where) : Option (List api_Where) :=
  ((loop (t1 (Zbb l x)) 0) : Option ((Int))).bind (t1 fun (at_ : Int) =>
  (gd ((decide (at_ < (l.length : Int))) == true) (api_Where.mk 0 0) (idx l at_)).bind fun x3 =>
  if ((decide (at_ < (l.length : Int))) && (decide (x3.Number = x.Number) && (decide (x3.Word = x.Word) && true))) = true then
  some l
  else
  (slc l 0 at_).bind fun l2 =>
  (app [] l2).bind fun l3 =>
  (slc l at_ (l.length : Int)).bind fun l4 =>
  (app l3 ([x] : List api_Where)).bind fun l5 =>
  (app l5 l4).bind fun l6 =>
  some l6)

noncomputable def Qi (first : Int) (x : api_Place) (x2 : api_Place) (out4 : List api_Where) (i2 : Int) : Option (((List api_Where) × Int) ⊕ ((List api_Where))) :=
  if (decide (i2 < 2)) = true then
  (Qo (#v[3, x2.Word] : Vector Int 2) i2).bind fun x3 =>
  (Zbv out4 (api_Where.mk (i64 (first + x.Frame)) x3)).bind fun y =>
  some (.inl (y, (i64 (i2 + 1))))
  else
  some (.inr out4)

noncomputable def ZbG (c_ : api_Cell) (first : Int) (out2 : List api_Where) (i : Int) : Option (((List api_Where) × Int) ⊕ ((List api_Where))) :=
  if (decide (i < (c_.Places.length : Int))) = true then
  (((idx c_.Places i).bind fun x =>
  (idx c_.Places i).bind fun x2 =>
  loop (t2 (Qi first x x2)) (out2, 0)) : Option (((List api_Where)))).bind (t1 fun (out3 : List api_Where) =>
  some (.inl (out3, (i64 (i + 1)))))
  else
  some (.inr out2)

noncomputable def ZbY (c_ : api_Cell) (first : Int) : Option (List api_Where) :=
  ((loop (t2 (ZbG c_ first)) ([], 0)) : Option (((List api_Where)))).bind (t1 fun (out : List api_Where) =>
  some out)

noncomputable def JS (l : List api_Rest) (x : api_Where) (i : Int) : Option ((Int) ⊕ (Int × Int) ⊕ (Unit)) :=
  if (decide (i < (l.length : Int))) = true then
  (idx l i).bind fun x2 =>
  if (decide (x2.Number = x.Number)) = true then
  (idx l i).bind fun x3 =>
  (Qo x3.Frame x.Word).bind fun x4 =>
  (idx l i).bind fun x5 =>
  (Qo x5.States x.Word).bind fun x6 =>
  some (.inr (.inl ((Ju .i64 (i64 x4) 2047), x6)))
  else
  some (.inl (i64 (i + 1)))
  else
  some (.inr (.inr ()))

noncomputable def ZbS (l : List api_Rest) (x : api_Where) : Option (Int × Int) :=
  ((loop (t1 (JS l x)) 0) : Option ((Int × Int) ⊕ (Unit))).bind (Sum.elim (fun q' => some q') (t0 (some (0, 0))))

noncomputable def ZaO (raw : Int) (v2 : Int) (k : Int) : Option ((Int × Int) ⊕ (Int × Bool) ⊕ (Int)) :=
  if (decide (0 ≤ k)) = true then
  (shr .i64 raw k).bind fun q6 =>
  if (decide (9 < (Ju .i64 q6 15))) = true then
  some (.inr (.inl (0, false)))
  else
  some (.inl ((i64 ((i64 (10 * v2)) + (Ju .i64 q6 15))), (i64 (k - 4))))
  else
  some (.inr (.inr v2))

noncomputable def ZcS (p : api_Param) (raw : Int) : Option (Int × Bool) :=
  (Zcy p).bind fun y =>
  ((if (decide (p.Kind = 2)) = true then
  (shl .i64 1 (i64 (y - 1))).bind fun q =>
  if (decide (q ≤ raw)) = true then
  (shl .i64 1 y).bind fun q2 =>
  some (.inr (i64 (raw - q2)))
  else
  some (.inr raw)
  else
  if (decide (p.Kind = 3)) = true then
  (shl .i64 1 (i64 (y - 1))).bind fun q3 =>
  if (decide (raw = q3)) = true then
  some (.inl (0, false))
  else
  (shl .i64 1 (i64 (y - 1))).bind fun q4 =>
  if (decide (q4 < raw)) = true then
  (shl .i64 1 (i64 (y - 1))).bind fun q5 =>
  some (.inr (i64 (q5 - raw)))
  else
  some (.inr raw)
  else
  if (decide (p.Kind = 4)) = true then
  loop (t2 (ZaO raw)) (0, (i64 (y - 4)))
  else
  if (decide (p.Kind = 6)) = true then
  if (decide ((p.Names.length : Int) ≤ raw)) = true then
  some (.inl (0, false))
  else
  some (.inr raw)
  else
  some (.inr raw)) : Option ((Int × Bool) ⊕ (Int))).bind (Sum.elim (fun q' => some q') (t1 fun (v : Int) =>
  some (v, true)))

noncomputable def ZbW (p : api_Param) (raw : Int) : Option (Int × Bool × Int) :=
  (Jf p).bind fun y =>
  if (!decide (y = 0)) = true then
  some (0, false, y)
  else
  (Zcy p).bind fun y2 =>
  (shl .i64 1 y2).bind fun q =>
  (QD raw 0 (i64 (q - 1))).bind fun y3 =>
  if y3 = true then
  some (0, false, 9)
  else
  (ZcS p raw).bind fun y4 =>
  some (y4.1, y4.2, 0)

noncomputable def ZaK (m : api_Map) (l : List api_Rest) (y : (List api_Where)) (least2 : Int) (i : Int) : Option ((Int × Int) ⊕ (Int × Int) ⊕ (Int)) :=
  if (decide (i < (y.length : Int))) = true then
  (idx y i).bind fun x =>
  (ZbS l x).bind fun y2 =>
  (gd ((!decide (y2.2 = 0)) == true) (api_Where.mk 0 0) (idx y i)).bind fun x2 =>
  if (((!decide (y2.2 = 0)) && (decide (x2.Word = 3))) && (!decide (y2.1 = m.Version))) = true then
  some (.inr (.inl (0, 0)))
  else
  some (.inl ((min least2 y2.2), (i64 (i + 1))))
  else
  some (.inr (.inr least2))

noncomputable def XV (c_ : api_Cell) (first : Int) (l : List api_Rest) (raw2 : Int) (i2 : Int) : Option ((Int × Int) ⊕ (Int)) :=
  if (decide (i2 < (c_.Places.length : Int))) = true then
  (idx c_.Places i2).bind fun x3 =>
  (ZbS l (api_Where.mk (i64 (first + x3.Frame)) x3.Word)).bind fun y3 =>
  (shl .i64 raw2 x3.Bits).bind fun q =>
  (shr .i64 y3.1 x3.Low).bind fun q2 =>
  (shl .i64 1 x3.Bits).bind fun q3 =>
  some (.inl ((bor .i64 q (Ju .i64 q2 (i64 (q3 - 1)))), (i64 (i2 + 1))))
  else
  some (.inr raw2)

noncomputable def ZcU (m : api_Map) (c_ : api_Cell) (first : Int) (l : List api_Rest) : Option (Int × Int) :=
  (ZbY c_ first).bind fun y =>
  ((loop (t2 (ZaK m l y)) (3, 0)) : Option ((Int × Int) ⊕ (Int))).bind (Sum.elim (fun q' => some q') (t1 fun (least : Int) =>
  if (decide (least = 0)) = true then
  some (0, 0)
  else
  ((loop (t2 (XV c_ first l)) (0, 0)) : Option ((Int))).bind (t1 fun (raw : Int) =>
  (idx m.Params c_.Param).bind fun x4 =>
  (ZbW x4 raw).bind fun y4 =>
  if (!y4.2.1) = true then
  some (0, 1)
  else
  some (y4.1, (i64 (least + 1))))))

noncomputable def Za6 (m : api_Map) (y : (List api_Cell)) (first : Int) (y2 : (List Int)) (y3 : (List api_Rest)) (Samples4 : List api_Sample) (i : Int) : Option (((List api_Sample) × Int) ⊕ ((List api_Sample))) :=
  if (decide (i < (y.length : Int))) = true then
  (idx y i).bind fun x4 =>
  (ZcU m x4 first y3).bind fun y4 =>
  (idx y2 i).bind fun x5 =>
  (app Samples4 ([(api_Sample.mk x5 y4.1 y4.2)] : List api_Sample)).bind fun l2 =>
  some (.inl (l2, (i64 (i + 1))))
  else
  some (.inr Samples4)

noncomputable def Js (m : api_Map) (n : Int) (l : List api_Rest) (y : (List api_Cell)) (q2 : Int) (Samples2 : List api_Sample) (first : Int) : Option (((List api_Sample) × Int) ⊕ ((List api_Sample))) :=
  if (decide (first ≤ (i64 (q2 * 16)))) = true then
  (((idx m.Params n).bind fun x3 =>
  (Zb0 x3 y first).bind fun y2 =>
  (Zeb l first (i64 (first + 16))).bind fun y3 =>
  loop (t2 (Za6 m y first y2 y3)) (Samples2, 0)) : Option (((List api_Sample)))).bind (t1 fun (Samples3 : List api_Sample) =>
  some (.inl (Samples3, (i64 (first + 16)))))
  else
  some (.inr Samples2)

noncomputable def ZfU (m : api_Map) (n : Int) (l : List api_Rest) : Option (api_Series × Bool) :=
  if (decide ((l.length : Int) = 0)) = true then
  some ((api_Series.mk 1 []), true)
  else
  (Za4 m n).bind fun y =>
  (idx l 0).bind fun x =>
  (quo .i64 x.Number 16).bind fun q =>
  (idx l (i64 ((l.length : Int) - 1))).bind fun x2 =>
  (quo .i64 x2.Number 16).bind fun q2 =>
  (quo .i64 (i64 ((i64 (q2 * 16)) - (i64 (q * 16)))) 16).bind fun q3 =>
  if (decide (20000 < (i64 ((i64 ((i64 (q3 + 1)) * (y.length : Int))) + 1)))) = true then
  some ((api_Series.mk 0 []), false)
  else
  ((loop (t2 (Js m n l y q2)) ([], (i64 (q * 16)))) : Option (((List api_Sample)))).bind (t1 fun (Samples : List api_Sample) =>
  (app Samples ([(api_Sample.mk (i64 (64 * (i64 ((i64 (q2 * 16)) + 16)))) 0 0)] : List api_Sample)).bind fun l3 =>
  some ((api_Series.mk 1 l3), true))

noncomputable def ZaQ (m : api_Map) (name : Str) (l : List api_Rest) : Option (api_Series × Int) :=
  (Zco m).bind fun y =>
  if (!decide (y.2 = 0)) = true then
  some ((api_Series.mk 0 []), y.2)
  else
  (Zdv m name).bind fun y2 =>
  if (decide (y2 < 0)) = true then
  some ((api_Series.mk 0 []), 4)
  else
  (Zaj l).bind fun y3 =>
  if (!decide (y3 = 0)) = true then
  some ((api_Series.mk 0 []), y3)
  else
  (ZfU m y2 l).bind fun y4 =>
  if (!y4.2) = true then
  some ((api_Series.mk 0 []), 3)
  else
  some (y4.1, 0)

noncomputable def ZM (n : Int) (low : Int) (high : Int) : Option Bool :=
  some ((decide (low ≤ n)) && (decide (n ≤ high)))

noncomputable def Zah (s : api_Series) (i : Int) : Option ((Int) ⊕ (Int × Int) ⊕ (Unit)) :=
  if (decide (i < (s.Samples.length : Int))) = true then
  (idx s.Samples i).bind fun x =>
  (ZM x.At 0 1099511627776).bind fun y2 =>
  (gd ((!y2) == false) false (ZM x.N (-1125899906842624) 1125899906842624)).bind fun y3 =>
  (gd (((!y2) || (!y3)) == false) false (ZM x.Mark 0 4)).bind fun y4 =>
  if (((!y2) || (!y3)) || (!y4)) = true then
  some (.inr (.inl (i, 9)))
  else
  if ((!decide (x.N = 0)) && (decide (x.Mark ≤ 1))) = true then
  some (.inr (.inl (i, 2)))
  else
  (gd ((decide (0 < i)) == true) (api_Sample.mk 0 0 0) (idx s.Samples (i64 (i - 1)))).bind fun x2 =>
  if ((decide (0 < i)) && (decide (x.At ≤ x2.At))) = true then
  some (.inr (.inl (i, 10)))
  else
  some (.inl (i64 (i + 1)))
  else
  some (.inr (.inr ()))

noncomputable def Zcc (s : api_Series) : Option (Int × Int) :=
  (ZM s.Den 1 1000000).bind fun y =>
  if (!y) = true then
  some ((-1), 9)
  else
  if (decide (20000 < (s.Samples.length : Int))) = true then
  some ((-1), 3)
  else
  ((loop (t1 (Zah s)) 0) : Option ((Int × Int) ⊕ (Unit))).bind (Sum.elim (fun q' => some q') (t0 (some ((-1), 0))))

noncomputable def Zba (s : api_Series) : Option Int :=
  (Zcc s).bind fun y =>
  some y.2

noncomputable def XP (l : api_Line) (v : Int) : Option Int :=
  some (i64 ((i64 (l.A_ * v)) + l.B))

noncomputable def ZT (c_ : api_Calibration) (i : Int) : Option ((Int) ⊕ (Int) ⊕ (Unit)) :=
  if (decide (i < (c_.Lines.length : Int))) = true then
  (idx c_.Lines i).bind fun x =>
  (ZM x.From (-1099511627776) 1099511627776).bind fun y2 =>
  (gd ((!y2) == false) false (ZM x.To (-1099511627776) 1099511627776)).bind fun y3 =>
  (gd ((((!y2) || (!y3)) || (decide (x.To < x.From))) == false) false (ZM x.A_ (-1048576) 1048576)).bind fun y4 =>
  (gd (((((!y2) || (!y3)) || (decide (x.To < x.From))) || (!y4)) == false) false (ZM x.B (-1125899906842624) 1125899906842624)).bind fun y5 =>
  if (((((!y2) || (!y3)) || (decide (x.To < x.From))) || (!y4)) || (!y5)) = true then
  some (.inr (.inl 9))
  else
  (gd ((decide (0 < i)) == true) (api_Line.mk 0 0 0 0) (idx c_.Lines (i64 (i - 1)))).bind fun x2 =>
  if ((decide (0 < i)) && (decide (x.From ≤ x2.To))) = true then
  some (.inr (.inl 10))
  else
  some (.inl (i64 (i + 1)))
  else
  some (.inr (.inr ()))

noncomputable def ZS (c_ : api_Calibration) (i2 : Int) : Option ((Int) ⊕ (Int) ⊕ (Unit)) :=
  if (decide (i2 < (c_.Lines.length : Int))) = true then
  (idx c_.Lines i2).bind fun x3 =>
  (XP x3 x3.From).bind fun y6 =>
  (ZM y6 (-1125899906842624) 1125899906842624).bind fun y7 =>
  (gd ((!y7) == false) 0 (XP x3 x3.To)).bind fun y8 =>
  (gd ((!y7) == false) false (ZM y8 (-1125899906842624) 1125899906842624)).bind fun y9 =>
  if ((!y7) || (!y9)) = true then
  some (.inr (.inl 9))
  else
  some (.inl (i64 (i2 + 1)))
  else
  some (.inr (.inr ()))

noncomputable def Qt (c_ : api_Calibration) : Option Int :=
  (ZM c_.Den 1 1000000).bind fun y =>
  if (!y) = true then
  some 9
  else
  if (decide ((c_.Lines.length : Int) = 0)) = true then
  some 13
  else
  if (decide (50 < (c_.Lines.length : Int))) = true then
  some 3
  else
  ((loop (t1 (ZT c_)) 0) : Option ((Int) ⊕ (Unit))).bind (Sum.elim (fun q' => some q') (t0 (((loop (t1 (ZS c_)) 0) : Option ((Int) ⊕ (Unit))).bind (Sum.elim (fun q' => some q') (t0 ((ZM c_.Low (-1125899906842624) 1125899906842624).bind fun y10 =>
  (gd ((!y10) == false) false (ZM c_.High (-1125899906842624) 1125899906842624)).bind fun y11 =>
  if (((!y10) || (!y11)) || (decide (c_.High < c_.Low))) = true then
  some 9
  else
  some 0))))))

noncomputable def Zac (c_ : api_Calibration) (v : Int) (i : Int) : Option ((Int) ⊕ (Int × Bool) ⊕ (Unit)) :=
  if (decide (i < (c_.Lines.length : Int))) = true then
  (idx c_.Lines i).bind fun x =>
  (ZM v x.From x.To).bind fun y =>
  if y = true then
  (XP x v).bind fun y2 =>
  (ZM y2 c_.Low c_.High).bind fun y3 =>
  if y3 = true then
  some (.inr (.inl (y2, true)))
  else
  some (.inl (i64 (i + 1)))
  else
  some (.inl (i64 (i + 1)))
  else
  some (.inr (.inr ()))

noncomputable def Zb9 (c_ : api_Calibration) (v : Int) : Option (Int × Bool) :=
  ((loop (t1 (Zac c_ v)) 0) : Option ((Int × Bool) ⊕ (Unit))).bind (Sum.elim (fun q' => some q') (t0 (some (0, false))))

noncomputable def ZI (c_ : api_Calibration) (y3 : List api_Sample) (Samples2 : List api_Sample) (i : Int) : Option (((List api_Sample) × Int) ⊕ ((List api_Sample))) :=
  if (decide (i < (y3.length : Int))) = true then
  (idx Samples2 i).bind fun x =>
  if (decide (x.Mark < 2)) = true then
  some (.inl (Samples2, (i64 (i + 1))))
  else
  (Zb9 c_ x.N).bind fun y4 =>
  ((if (!y4.2) = true then
  some (1, 0)
  else
  some (x.Mark, y4.1)) : Option ((Int × Int))).bind (t2 fun (Mark : Int) (n : Int) =>
  (idx Samples2 i).bind fun x2 =>
  some (.inl ((Samples2.set i.toNat (api_Sample.mk x.At n Mark)), (i64 (i + 1)))))
  else
  some (.inr Samples2)

noncomputable def JE (s : api_Series) (c_ : api_Calibration) : Option (api_Series × Int) :=
  (Zba s).bind fun y =>
  if (!decide (y = 0)) = true then
  some ((api_Series.mk 0 []), y)
  else
  (Qt c_).bind fun y2 =>
  if (!decide (y2 = 0)) = true then
  some ((api_Series.mk 0 []), y2)
  else
  if (!decide (s.Den = 1)) = true then
  some ((api_Series.mk 0 []), 2)
  else
  (Zm6 s.Samples).bind fun y3 =>
  ((loop (t2 (ZI c_ y3)) (y3, 0)) : Option (((List api_Sample)))).bind (t1 fun (Samples : List api_Sample) =>
  some ((api_Series.mk c_.Den Samples), 0))

noncomputable def Z7 (n : Int) (low : Int) (high : Int) : Option Bool :=
  some ((decide (n < low)) || (decide (high < n)))

noncomputable def Zar (mark : Int) : Option Bool :=
  some (decide (2 ≤ mark))

noncomputable def JJ (s : api_Sample) : Option Int :=
  (Z7 s.At 0 1099511627776).bind fun y =>
  (gd (y == false) false (Z7 s.N (-1125899906842624) 1125899906842624)).bind fun y2 =>
  (gd ((y || y2) == false) false (Z7 s.Mark 0 4)).bind fun y3 =>
  if ((y || y2) || y3) = true then
  some 9
  else
  (gd ((!decide (s.N = 0)) == true) false (Zar s.Mark)).bind fun y4 =>
  if ((!decide (s.N = 0)) && (!y4)) = true then
  some 2
  else
  some 0

noncomputable def Zbo (s : api_Series) (i : Int) : Option ((Int) ⊕ (Int × Int) ⊕ (Unit)) :=
  if (decide (i < (s.Samples.length : Int))) = true then
  (idx s.Samples i).bind fun x =>
  (JJ x).bind fun y2 =>
  if (!decide (y2 = 0)) = true then
  some (.inr (.inl (i, y2)))
  else
  (gd ((decide (0 < i)) == true) (api_Sample.mk 0 0 0) (idx s.Samples i)).bind fun x2 =>
  (gd ((decide (0 < i)) == true) (api_Sample.mk 0 0 0) (idx s.Samples (i64 (i - 1)))).bind fun x3 =>
  if ((decide (0 < i)) && (decide (x2.At ≤ x3.At))) = true then
  some (.inr (.inl (i, 10)))
  else
  some (.inl (i64 (i + 1)))
  else
  some (.inr (.inr ()))

noncomputable def ZdL (s : api_Series) : Option (Int × Int) :=
  (Z7 s.Den 1 1000000).bind fun y =>
  if y = true then
  some ((-1), 9)
  else
  if (decide (20000 < (s.Samples.length : Int))) = true then
  some ((-1), 3)
  else
  ((loop (t1 (Zbo s)) 0) : Option ((Int × Int) ⊕ (Unit))).bind (Sum.elim (fun q' => some q') (t0 (some ((-1), 0))))

noncomputable def ZdJ (s : api_Series) : Option Int :=
  (ZdL s).bind fun y =>
  some y.2

noncomputable def Xh (c_ : api_Calibration) (i : Int) : Option ((Int) ⊕ (Int) ⊕ (Unit)) :=
  if (decide (i < (c_.Lines.length : Int))) = true then
  (idx c_.Lines i).bind fun x =>
  (Z7 x.From (-1099511627776) 1099511627776).bind fun y2 =>
  (gd (y2 == false) false (Z7 x.To (-1099511627776) 1099511627776)).bind fun y3 =>
  (gd (((y2 || y3) || (decide (x.To < x.From))) == false) false (Z7 x.A_ (-1048576) 1048576)).bind fun y4 =>
  (gd ((((y2 || y3) || (decide (x.To < x.From))) || y4) == false) false (Z7 x.B (-1125899906842624) 1125899906842624)).bind fun y5 =>
  if ((((y2 || y3) || (decide (x.To < x.From))) || y4) || y5) = true then
  some (.inr (.inl 9))
  else
  (gd ((decide (0 < i)) == true) (api_Line.mk 0 0 0 0) (idx c_.Lines (i64 (i - 1)))).bind fun x2 =>
  if ((decide (0 < i)) && (decide (x.From ≤ x2.To))) = true then
  some (.inr (.inl 10))
  else
  some (.inl (i64 (i + 1)))
  else
  some (.inr (.inr ()))

noncomputable def Xd (c_ : api_Calibration) (i2 : Int) : Option ((Int) ⊕ (Int) ⊕ (Unit)) :=
  if (decide (i2 < (c_.Lines.length : Int))) = true then
  (idx c_.Lines i2).bind fun x3 =>
  (Z7 (i64 ((i64 (x3.A_ * x3.From)) + x3.B)) (-1125899906842624) 1125899906842624).bind fun y6 =>
  (gd (y6 == false) false (Z7 (i64 ((i64 (x3.A_ * x3.To)) + x3.B)) (-1125899906842624) 1125899906842624)).bind fun y7 =>
  if (y6 || y7) = true then
  some (.inr (.inl 9))
  else
  some (.inl (i64 (i2 + 1)))
  else
  some (.inr (.inr ()))

noncomputable def Q6 (c_ : api_Calibration) : Option Int :=
  (Z7 c_.Den 1 1000000).bind fun y =>
  if y = true then
  some 9
  else
  if (decide ((c_.Lines.length : Int) = 0)) = true then
  some 13
  else
  if (decide (50 < (c_.Lines.length : Int))) = true then
  some 3
  else
  ((loop (t1 (Xh c_)) 0) : Option ((Int) ⊕ (Unit))).bind (Sum.elim (fun q' => some q') (t0 (((loop (t1 (Xd c_)) 0) : Option ((Int) ⊕ (Unit))).bind (Sum.elim (fun q' => some q') (t0 ((Z7 c_.Low (-1125899906842624) 1125899906842624).bind fun y8 =>
  (gd (y8 == false) false (Z7 c_.High (-1125899906842624) 1125899906842624)).bind fun y9 =>
  if ((y8 || y9) || (decide (c_.High < c_.Low))) = true then
  some 9
  else
  some 0))))))

noncomputable def Zbp (c_ : api_Calibration) (v : Int) (i : Int) : Option ((Int) ⊕ (Int × Bool) ⊕ (Unit)) :=
  if (decide (i < (c_.Lines.length : Int))) = true then
  (idx c_.Lines i).bind fun x =>
  if ((decide (x.From ≤ v)) && (decide (v ≤ x.To))) = true then
  (Z7 (i64 ((i64 (x.A_ * v)) + x.B)) c_.Low c_.High).bind fun y =>
  if y = true then
  some (.inr (.inl (0, false)))
  else
  some (.inr (.inl ((i64 ((i64 (x.A_ * v)) + x.B)), true)))
  else
  some (.inl (i64 (i + 1)))
  else
  some (.inr (.inr ()))

noncomputable def ZcD (c_ : api_Calibration) (v : Int) : Option (Int × Bool) :=
  ((loop (t1 (Zbp c_ v)) 0) : Option ((Int × Bool) ⊕ (Unit))).bind (Sum.elim (fun q' => some q') (t0 (some (0, false))))

noncomputable def Zat (s : api_Series) (c_ : api_Calibration) (Samples2 : List api_Sample) (i : Int) : Option (((List api_Sample) × Int) ⊕ ((List api_Sample))) :=
  if (decide (i < (s.Samples.length : Int))) = true then
  (idx s.Samples i).bind fun x =>
  (((Zar x.Mark).bind fun y =>
  if y = true then
  (ZcD c_ x.N).bind fun y2 =>
  if (!y2.2) = true then
  some (api_Sample.mk x.At y2.1 1)
  else
  some (api_Sample.mk x.At y2.1 x.Mark)
  else
  some x) : Option ((api_Sample))).bind (t1 fun (x2 : api_Sample) =>
  (app Samples2 ([x2] : List api_Sample)).bind fun l =>
  some (.inl (l, (i64 (i + 1)))))
  else
  some (.inr Samples2)

noncomputable def ZeI (s : api_Series) (c_ : api_Calibration) : Option api_Series :=
  ((loop (t2 (Zat s c_)) ([], 0)) : Option (((List api_Sample)))).bind (t1 fun (Samples : List api_Sample) =>
  some (api_Series.mk c_.Den Samples))

noncomputable def ZaW (s : api_Series) (c_ : api_Calibration) : Option (api_Series × Int) :=
  (ZdJ s).bind fun y =>
  if (!decide (y = 0)) = true then
  some ((api_Series.mk 0 []), y)
  else
  (Q6 c_).bind fun y2 =>
  if (!decide (y2 = 0)) = true then
  some ((api_Series.mk 0 []), y2)
  else
  if (!decide (s.Den = 1)) = true then
  some ((api_Series.mk 0 []), 2)
  else
  (ZeI s c_).bind fun y3 =>
  some (y3, 0)

noncomputable def ZC (x : List api_Sample) (target : Int) (cmp : api_Sample → Int → Option Int) (i2 : Int) (j : Int) : Option ((Int × Int) ⊕ (Int)) :=
  if (decide (i2 < j)) = true then
  (shr .u64 (u64 (i64 (i2 + j))) 1).bind fun q =>
  (idx x (i64 q)).bind fun x2 =>
  (cmp x2 target).bind fun y =>
  if (decide (y < 0)) = true then
  some (.inl ((i64 ((i64 q) + 1)), j))
  else
  some (.inl (i2, (i64 q)))
  else
  some (.inr i2)

noncomputable def ZF (x : List api_Sample) (target : Int) (cmp : api_Sample → Int → Option Int) : Option (Int × Bool) :=
  ((loop (t2 (ZC x target cmp)) (0, (x.length : Int))) : Option ((Int))).bind (t1 fun (i : Int) =>
  (gd ((decide (i < (x.length : Int))) == true) (api_Sample.mk 0 0 0) (idx x i)).bind fun x3 =>
  (gd ((decide (i < (x.length : Int))) == true) 0 (cmp x3 target)).bind fun y2 =>
  some (i, ((decide (i < (x.length : Int))) && (decide (y2 = 0)))))

noncomputable def Xz (x : api_Sample) (at_ : Int) : Option Int :=
  some (i64 (x.At - at_))

noncomputable def Zbx (s : api_Series) (at_ : Int) : Option Int :=
  (ZF s.Samples at_ (fun z0 z1 => Xz z0 z1)).bind fun y =>
  if y.2 = true then
  some y.1
  else
  some (i64 (y.1 - 1))

noncomputable def Zdo (x : api_Sample) : Option Bool :=
  some (decide (3 ≤ x.Mark))

noncomputable def ZcV (s : api_Series) (at_ : Int) (long : Int) : Option (api_Sample × Bool) :=
  (Zbx s at_).bind fun y =>
  (gd ((decide (y < 0)) == false) (api_Sample.mk 0 0 0) (idx s.Samples y)).bind fun x =>
  (gd ((decide (y < 0)) == false) false (Zdo x)).bind fun y2 =>
  (gd (((decide (y < 0)) || (!y2)) == false) (api_Sample.mk 0 0 0) (idx s.Samples y)).bind fun x2 =>
  if (((decide (y < 0)) || (!y2)) || (decide (long < (i64 (at_ - x2.At))))) = true then
  some ((api_Sample.mk 0 0 0), false)
  else
  (idx s.Samples y).bind fun x3 =>
  some (x3, true)

noncomputable def Zc5 (s : api_Series) (at_ : Int) (long : Int) : Option (api_Sample × Bool × Int) :=
  (Zba s).bind fun y =>
  if (!decide (y = 0)) = true then
  some ((api_Sample.mk 0 0 0), false, y)
  else
  (ZM at_ 0 1099511627776).bind fun y2 =>
  (gd ((!y2) == false) false (ZM long 0 1099511627776)).bind fun y3 =>
  if ((!y2) || (!y3)) = true then
  some ((api_Sample.mk 0 0 0), false, 9)
  else
  (ZcV s at_ long).bind fun y4 =>
  some (y4.1, y4.2, 0)

noncomputable def ZdK  : Option Bool :=
  (Zc5 (api_Series.mk 1 ([(api_Sample.mk 5 7 4)] : List api_Sample)) 9 4).bind fun y =>
  some ((y.2.1 && (decide (y.2.2 = 0))) && (decide (y.1.At = 5) && (decide (y.1.N = 7) && (decide (y.1.Mark = 4) && true))))

noncomputable def Qu (m : api_Map) (name : Str) (l : List api_Rest) (c_ : api_Calibration) : Option Bool :=
  (JK m name l).bind fun y =>
  (ZbV y.1 y.2).bind fun y2 =>
  (ZaQ m name l).bind fun y3 =>
  (ZbV y3.1 y3.2).bind fun y4 =>
  if (!decide (y2 = y4)) = true then
  some false
  else
  (gd ((!decide (y.2 = 0)) == false) ((api_Series.mk 0 []), 0) (JE y.1 c_)).bind fun y5 =>
  (gd ((!decide (y.2 = 0)) == false) [] (ZbV y5.1 y5.2)).bind fun y6 =>
  (gd ((!decide (y.2 = 0)) == false) ((api_Series.mk 0 []), 0) (ZaW y.1 c_)).bind fun y7 =>
  (gd ((!decide (y.2 = 0)) == false) [] (ZbV y7.1 y7.2)).bind fun y8 =>
  (gd (((!decide (y.2 = 0)) || (decide (y6 = y8))) == true) false ZdK).bind fun y9 =>
  some (((!decide (y.2 = 0)) || (decide (y6 = y8))) && y9)

end Go.Vx
