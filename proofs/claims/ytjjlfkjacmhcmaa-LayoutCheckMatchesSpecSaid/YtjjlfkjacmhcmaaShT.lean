/- A text of the proof: a verified executor of the program form, or the contracts of the functions that the law reaches. -/
import Derived.Test.YtjjlfkjacmhcmaaShLib
set_option linter.all false
namespace Go.Vx
open Go Go.RowKit
set_option linter.unusedVariables false
structure api_Part where
  Frame : Int
  Word : Int
  Low : Int
  Bits : Int
structure api_Param where
  Name : Str
  Kind : Int
  Parts : List api_Part
  First : Int
  Every : Int
  Times : Int
  Step : Int
  Names : List Str
structure api_Map where
  Version : Int
  Params : List api_Param
structure layout_bit where
  frame : Int
  word : Int
  bit : Int
structure api_Place where
  Frame : Int
  Word : Int
  Low : Int
  Bits : Int
structure api_Cell where
  Param : Int
  Index : Int
  Frame : Int
  Places : List api_Place
structure layout_number where
  low : Int
  high : Int
  encode : Fv (Int → Option Int)
  decode : Fv (Int → Option (Int × Bool))
structure api_Reading where
  Param : Int
  Index : Int
  Value : Int
  Good : Bool

noncomputable def ZU (n : Int) (low : Int) (high : Int) : Option Bool :=
  some ((decide (low ≤ n)) && (decide (n ≤ high)))

noncomputable def Zah (c_ : Int) : Option Bool :=
  some (!((((decide (97 ≤ c_)) && (decide (c_ ≤ 122))) || ((decide (48 ≤ c_)) && (decide (c_ ≤ 57)))) || (decide (c_ = 45))))

noncomputable def XI (s : Str) : Option Bool :=
  (gd (((decide ((s.length : Int) < 1)) || (decide (30 < (s.length : Int)))) == false) 0 (ZhJ s 0)).bind fun b =>
  (gd ((((decide ((s.length : Int) < 1)) || (decide (30 < (s.length : Int)))) || (decide (b < 97))) == false) 0 (ZhJ s 0)).bind fun b2 =>
  if ((((decide ((s.length : Int) < 1)) || (decide (30 < (s.length : Int)))) || (decide (b < 97))) || (decide (122 < b2))) = true then
  some false
  else
  (JG s (fun z0 => Zah z0)).bind fun y =>
  some (!y)

noncomputable def QA (p : api_Param) (n2 : Int) (i : Int) : Option ((Int × Int) ⊕ (Int)) :=
  if (decide (i < (p.Parts.length : Int))) = true then
  (idx p.Parts i).bind fun x =>
  some (.inl ((i64 (n2 + x.Bits)), (i64 (i + 1))))
  else
  some (.inr n2)

noncomputable def Qu (p : api_Param) : Option Int :=
  ((loop (t2 (QA p)) (0, 0)) : Option ((Int))).bind (t1 fun (n : Int) =>
  some n)

noncomputable def ZO (s : List Int) (v : Int) (i : Int) : Option ((Int) ⊕ (Int) ⊕ (Unit)) :=
  if (decide (i < (s.length : Int))) = true then
  (idx s i).bind fun x =>
  if (decide (v = x)) = true then
  some (.inr (.inl i))
  else
  some (.inl (i64 (i + 1)))
  else
  some (.inr (.inr ()))

noncomputable def QC (s : List Int) (v : Int) : Option Int :=
  ((loop (t1 (ZO s v)) 0) : Option ((Int) ⊕ (Unit))).bind (Sum.elim (fun q' => some q') (t0 (some (-1))))

noncomputable def Z0 (s : List Int) (v : Int) : Option Bool :=
  (QC s v).bind fun y =>
  some (decide (0 ≤ y))

noncomputable def ZS (p : api_Param) (i : Int) : Option ((Int) ⊕ (Int) ⊕ (Unit)) :=
  if (decide (i < (p.Parts.length : Int))) = true then
  (idx p.Parts i).bind fun x =>
  (ZU x.Frame 0 15).bind fun y =>
  (gd ((!y) == false) false (ZU x.Word 4 60)).bind fun y2 =>
  (gd (((!y) || (!y2)) == false) false (ZU x.Low 0 10)).bind fun y3 =>
  (gd ((((!y) || (!y2)) || (!y3)) == false) false (ZU x.Bits 1 (i64 (11 - x.Low)))).bind fun y4 =>
  if ((((!y) || (!y2)) || (!y3)) || (!y4)) = true then
  some (.inr (.inl 9))
  else
  some (.inl (i64 (i + 1)))
  else
  some (.inr (.inr ()))

noncomputable def Qe (p : api_Param) (i2 : Int) : Option ((Int) ⊕ (Int) ⊕ (Unit)) :=
  if (decide (i2 < (p.Parts.length : Int))) = true then
  (idx p.Parts i2).bind fun x2 =>
  if ((decide (60 < p.Step)) || (decide (60 < (i64 (x2.Word + (i64 ((i64 (p.Times - 1)) * p.Step))))))) = true then
  some (.inr (.inl 9))
  else
  some (.inl (i64 (i2 + 1)))
  else
  some (.inr (.inr ()))

noncomputable def QF (p : api_Param) : Option Int :=
  if (decide ((p.Parts.length : Int) = 0)) = true then
  some 13
  else
  if (decide (8 < (p.Parts.length : Int))) = true then
  some 3
  else
  ((loop (t1 (ZS p)) 0) : Option ((Int) ⊕ (Unit))).bind (Sum.elim (fun q' => some q') (t0 ((Qu p).bind fun y5 =>
  if (decide (40 < y5)) = true then
  some 3
  else
  (Z0 ([1, 2, 4, 8, 16] : List Int) p.Every).bind fun y6 =>
  (gd ((!y6) == false) false (ZU p.First 0 (i64 (p.Every - 1)))).bind fun y7 =>
  (gd (((!y6) || (!y7)) == false) false (ZU p.Times 1 57)).bind fun y8 =>
  if (((((!y6) || (!y7)) || (!y8)) || (decide (p.Step < 0))) || (!((decide (p.Step = 0)) == (decide (p.Times = 1))))) = true then
  some 9
  else
  ((loop (t1 (Qe p)) 0) : Option ((Int) ⊕ (Unit))).bind (Sum.elim (fun q' => some q') (t0 (some 0))))))

noncomputable def ZC (s : List Str) (v : Str) (i : Int) : Option ((Int) ⊕ (Int) ⊕ (Unit)) :=
  if (decide (i < (s.length : Int))) = true then
  (idx s i).bind fun x =>
  if (decide (v = x)) = true then
  some (.inr (.inl i))
  else
  some (.inl (i64 (i + 1)))
  else
  some (.inr (.inr ()))

noncomputable def Z1 (s : List Str) (v : Str) : Option Int :=
  ((loop (t1 (ZC s v)) 0) : Option ((Int) ⊕ (Unit))).bind (Sum.elim (fun q' => some q') (t0 (some (-1))))

noncomputable def ZJ (s : List Str) (v : Str) : Option Bool :=
  (Z1 s v).bind fun y =>
  some (decide (0 ≤ y))

noncomputable def Qg (p : api_Param) (i : Int) : Option ((Int) ⊕ (Int) ⊕ (Unit)) :=
  if (decide (i < (p.Names.length : Int))) = true then
  (idx p.Names i).bind fun x =>
  (XI x).bind fun y2 =>
  if (!y2) = true then
  some (.inr (.inl 8))
  else
  (slc p.Names 0 i).bind fun l =>
  (ZJ l x).bind fun y3 =>
  if y3 = true then
  some (.inr (.inl 5))
  else
  some (.inl (i64 (i + 1)))
  else
  some (.inr (.inr ()))

noncomputable def QI (p : api_Param) : Option Int :=
  (Qu p).bind fun y =>
  (gd ((decide (p.Kind = 4)) == true) 0 (rem y 4)).bind fun q =>
  if ((((decide (p.Kind = 4)) && (!decide (q = 0))) || ((decide (p.Kind = 5)) && (!decide (y = 1)))) || (((decide (p.Kind = 2)) || (decide (p.Kind = 3))) && (decide (y = 1)))) = true then
  some 2
  else
  if (!decide (p.Kind = 6)) = true then
  if (decide (0 < (p.Names.length : Int))) = true then
  some 2
  else
  some 0
  else
  if (decide ((p.Names.length : Int) = 0)) = true then
  some 13
  else
  (gd ((decide (64 < (p.Names.length : Int))) == false) 0 (shl .i64 1 y)).bind fun q2 =>
  if ((decide (64 < (p.Names.length : Int))) || (decide (q2 < (p.Names.length : Int)))) = true then
  some 3
  else
  ((loop (t1 (Qg p)) 0) : Option ((Int) ⊕ (Unit))).bind (Sum.elim (fun q' => some q') (t0 (some 0)))

noncomputable def Zx (s : List api_Part) (f : api_Part → Option Bool) (i : Int) : Option ((Int) ⊕ (Int) ⊕ (Unit)) :=
  if (decide (i < (s.length : Int))) = true then
  (idx s i).bind fun x =>
  (f x).bind fun y =>
  if y = true then
  some (.inr (.inl i))
  else
  some (.inl (i64 (i + 1)))
  else
  some (.inr (.inr ()))

noncomputable def ZI (s : List api_Part) (f : api_Part → Option Bool) : Option Int :=
  ((loop (t1 (Zx s f)) 0) : Option ((Int) ⊕ (Unit))).bind (Sum.elim (fun q' => some q') (t0 (some (-1))))

noncomputable def Zw (s : List api_Part) (f : api_Part → Option Bool) : Option Bool :=
  (ZI s f).bind fun y =>
  some (decide (0 ≤ y))

noncomputable def QO (x : api_Part) (c0 : Int) : Option Bool :=
  some (decide (16 ≤ (i64 (c0 + x.Frame))))

noncomputable def Z7 (p : api_Param) (out2 : List Int) (f : Int) : Option (((List Int) × Int) ⊕ ((List Int))) :=
  if (decide (f < 16)) = true then
  (((Zw p.Parts (fun z0 => QO z0 f)).bind fun y =>
  if (!y) = true then
  (app out2 ([f] : List Int)).bind fun l =>
  some l
  else
  some out2) : Option (((List Int)))).bind (t1 fun (out3 : List Int) =>
  some (.inl (out3, (i64 (f + p.Every)))))
  else
  some (.inr out2)

noncomputable def Xg (p : api_Param) : Option (List Int) :=
  ((loop (t2 (Z7 p)) ([], p.First)) : Option (((List Int)))).bind (t1 fun (out : List Int) =>
  some out)

noncomputable def Xn (p : api_Param) (x : api_Part) (f : Int) (j : Int) : Option api_Place :=
  some (api_Place.mk (i64 (f + x.Frame)) (i64 (x.Word + (i64 (j * p.Step)))) x.Low x.Bits)

noncomputable def Z2 (p : api_Param) (x : Int) (i2 : Int) (Places2 : List api_Place) (i3 : Int) : Option (((List api_Place) × Int) ⊕ ((List api_Place))) :=
  if (decide (i3 < (p.Parts.length : Int))) = true then
  (idx p.Parts i3).bind fun x2 =>
  (Xn p x2 x i2).bind fun y2 =>
  (app Places2 ([y2] : List api_Place)).bind fun l =>
  some (.inl (l, (i64 (i3 + 1))))
  else
  some (.inr Places2)

noncomputable def XF (number : Int) (p : api_Param) (x : Int) (out4 : List api_Cell) (i2 : Int) : Option (((List api_Cell) × Int) ⊕ ((List api_Cell))) :=
  if (decide (i2 < p.Times)) = true then
  ((loop (t2 (Z2 p x i2)) ([], 0)) : Option (((List api_Place)))).bind (t1 fun (Places : List api_Place) =>
  (app out4 ([(api_Cell.mk number (out4.length : Int) x Places)] : List api_Cell)).bind fun l2 =>
  some (.inl (l2, (i64 (i2 + 1)))))
  else
  some (.inr out4)

noncomputable def Qo (number : Int) (p : api_Param) (y : (List Int)) (out2 : List api_Cell) (i : Int) : Option (((List api_Cell) × Int) ⊕ ((List api_Cell))) :=
  if (decide (i < (y.length : Int))) = true then
  (((idx y i).bind fun x =>
  loop (t2 (XF number p x)) (out2, 0)) : Option (((List api_Cell)))).bind (t1 fun (out3 : List api_Cell) =>
  some (.inl (out3, (i64 (i + 1)))))
  else
  some (.inr out2)

noncomputable def Qv (number : Int) (p : api_Param) : Option (List api_Cell) :=
  (((Xg p).bind fun y =>
  loop (t2 (Qo number p y)) ([], 0)) : Option (((List api_Cell)))).bind (t1 fun (out : List api_Cell) =>
  some out)

def kq_layout_bit (a b : layout_bit) : Bool := (decide (a.frame = b.frame) && (decide (a.word = b.word) && (decide (a.bit = b.bit) && true)))

noncomputable def QX (x : api_Place) (out2 : List layout_bit) (i : Int) : Option (((List layout_bit) × Int) ⊕ ((List layout_bit))) :=
  if (decide (i < x.Bits)) = true then
  (app out2 ([(layout_bit.mk x.Frame x.Word (i64 (x.Low + i)))] : List layout_bit)).bind fun l =>
  some (.inl (l, (i64 (i + 1))))
  else
  some (.inr out2)

noncomputable def XM (x : api_Place) : Option (List layout_bit) :=
  ((loop (t2 (QX x)) ([], 0)) : Option (((List layout_bit)))).bind (t1 fun (out : List layout_bit) =>
  some out)

noncomputable def QJ (owner : Int) (y : (List layout_bit)) (o4 : List (layout_bit × Int)) (i2 : Int) : Option (((List (layout_bit × Int)) × Int) ⊕ (Bool × (List (layout_bit × Int))) ⊕ ((List (layout_bit × Int)))) :=
  if (decide (i2 < (y.length : Int))) = true then
  (idx y i2).bind fun x2 =>
  (some (ZbA kq_layout_bit o4 x2)).bind fun o5 =>
  if o5.isSome = true then
  some (.inr (.inl (false, o4)))
  else
  some (.inl ((ZdY kq_layout_bit o4 x2 owner), (i64 (i2 + 1))))
  else
  some (.inr (.inr o4))

noncomputable def QM (owner : Int) (l : List api_Place) (o2 : List (layout_bit × Int)) (i : Int) : Option (((List (layout_bit × Int)) × Int) ⊕ (Bool × (List (layout_bit × Int))) ⊕ ((List (layout_bit × Int)))) :=
  if (decide (i < (l.length : Int))) = true then
  (((idx l i).bind fun x =>
  (XM x).bind fun y =>
  loop (t2 (QJ owner y)) (o2, 0)) : Option ((Bool × (List (layout_bit × Int))) ⊕ ((List (layout_bit × Int))))).bind (Sum.elim (fun q' => some (.inr (.inl q'))) (t1 fun (o3 : List (layout_bit × Int)) =>
  some (.inl (o3, (i64 (i + 1))))))
  else
  some (.inr (.inr o2))

noncomputable def XC (taken : List (layout_bit × Int)) (owner : Int) (l : List api_Place) : Option (Bool × (List (layout_bit × Int))) :=
  ((loop (t2 (QM owner l)) (taken, 0)) : Option ((Bool × (List (layout_bit × Int))) ⊕ ((List (layout_bit × Int))))).bind (Sum.elim (fun q' => some q') (t1 fun (o : List (layout_bit × Int)) =>
  some (true, o)))

noncomputable def Z3 (y5 : (List api_Cell)) (taken : List (layout_bit × Int)) (i : Int) : Option (((List (layout_bit × Int)) × Int) ⊕ (Int) ⊕ (Unit)) :=
  if (decide (i < (y5.length : Int))) = true then
  (idx y5 i).bind fun x =>
  (XC taken 0 x.Places).bind fun y6 =>
  if (!y6.1) = true then
  some (.inr (.inl 5))
  else
  some (.inl (y6.2, (i64 (i + 1))))
  else
  some (.inr (.inr ()))

noncomputable def QH (p : api_Param) : Option Int :=
  (XI p.Name).bind fun y =>
  if (!y) = true then
  some 8
  else
  (ZU p.Kind 1 6).bind fun y2 =>
  if (!y2) = true then
  some 7
  else
  (QF p).bind fun y3 =>
  if (!decide (y3 = 0)) = true then
  some y3
  else
  (QI p).bind fun y4 =>
  if (!decide (y4 = 0)) = true then
  some y4
  else
  (Qv 0 p).bind fun y5 =>
  ((loop (t2 (Z3 y5)) (([] : List (layout_bit × Int)), 0)) : Option ((Int) ⊕ (Unit))).bind (Sum.elim (fun q' => some q') (t0 (if (decide ((y5.length : Int) = 0)) = true then
  some 13
  else
  some 0)))

noncomputable def Zu (s : List api_Param) (f : api_Param → Option Bool) (i : Int) : Option ((Int) ⊕ (Int) ⊕ (Unit)) :=
  if (decide (i < (s.length : Int))) = true then
  (idx s i).bind fun x =>
  (f x).bind fun y =>
  if y = true then
  some (.inr (.inl i))
  else
  some (.inl (i64 (i + 1)))
  else
  some (.inr (.inr ()))

noncomputable def ZD (s : List api_Param) (f : api_Param → Option Bool) : Option Int :=
  ((loop (t1 (Zu s f)) 0) : Option ((Int) ⊕ (Unit))).bind (Sum.elim (fun q' => some q') (t0 (some (-1))))

noncomputable def Zt (s : List api_Param) (f : api_Param → Option Bool) : Option Bool :=
  (ZD s f).bind fun y =>
  some (decide (0 ≤ y))

noncomputable def XP (q : api_Param) (c0 : api_Param) : Option Bool :=
  some (decide (q.Name = c0.Name))

noncomputable def Xc (m : api_Map) (i : Int) : Option ((Int) ⊕ (Int × Int) ⊕ (Unit)) :=
  if (decide (i < (m.Params.length : Int))) = true then
  (idx m.Params i).bind fun x =>
  (QH x).bind fun y2 =>
  if (!decide (y2 = 0)) = true then
  some (.inr (.inl (i, y2)))
  else
  (slc m.Params 0 i).bind fun l =>
  (Zt l (fun z0 => XP z0 x)).bind fun y3 =>
  if y3 = true then
  some (.inr (.inl (i, 5)))
  else
  some (.inl (i64 (i + 1)))
  else
  some (.inr (.inr ()))

noncomputable def ZX (m : api_Map) (cells : Int) (i2 : Int) : Option ((Int × Int) ⊕ (Int × Int) ⊕ (Unit)) :=
  if (decide (i2 < (m.Params.length : Int))) = true then
  (idx m.Params i2).bind fun x2 =>
  (Xg x2).bind fun y4 =>
  if (decide (4000 < (i64 (cells + (i64 ((y4.length : Int) * x2.Times)))))) = true then
  some (.inr (.inl (i2, 3)))
  else
  some (.inl ((i64 (cells + (i64 ((y4.length : Int) * x2.Times)))), (i64 (i2 + 1))))
  else
  some (.inr (.inr ()))

noncomputable def QN (i3 : Int) (y5 : (List api_Cell)) (taken3 : List (layout_bit × Int)) (i4 : Int) : Option (((List (layout_bit × Int)) × Int) ⊕ (Int × Int) ⊕ ((List (layout_bit × Int)))) :=
  if (decide (i4 < (y5.length : Int))) = true then
  (idx y5 i4).bind fun x4 =>
  (XC taken3 i3 x4.Places).bind fun y6 =>
  if (!y6.1) = true then
  some (.inr (.inl (i3, 5)))
  else
  some (.inl (y6.2, (i64 (i4 + 1))))
  else
  some (.inr (.inr taken3))

noncomputable def ZY (m : api_Map) (taken : List (layout_bit × Int)) (i3 : Int) : Option (((List (layout_bit × Int)) × Int) ⊕ (Int × Int) ⊕ (Unit)) :=
  if (decide (i3 < (m.Params.length : Int))) = true then
  (((idx m.Params i3).bind fun x3 =>
  (Qv i3 x3).bind fun y5 =>
  loop (t2 (QN i3 y5)) (taken, 0)) : Option ((Int × Int) ⊕ ((List (layout_bit × Int))))).bind (Sum.elim (fun q' => some (.inr (.inl q'))) (t1 fun (taken2 : List (layout_bit × Int)) =>
  some (.inl (taken2, (i64 (i3 + 1))))))
  else
  some (.inr (.inr ()))

noncomputable def ZL (m : api_Map) : Option (Int × Int) :=
  (ZU m.Version 0 2047).bind fun y =>
  if (!y) = true then
  some ((-1), 9)
  else
  if (decide (200 < (m.Params.length : Int))) = true then
  some ((-1), 3)
  else
  ((loop (t1 (Xc m)) 0) : Option ((Int × Int) ⊕ (Unit))).bind (Sum.elim (fun q' => some q') (t0 (((loop (t2 (ZX m)) (0, 0)) : Option ((Int × Int) ⊕ (Unit))).bind (Sum.elim (fun q' => some q') (t0 (((loop (t2 (ZY m)) (([] : List (layout_bit × Int)), 0)) : Option ((Int × Int) ⊕ (Unit))).bind (Sum.elim (fun q' => some q') (t0 (some ((-1), 0))))))))))

noncomputable def ZbJ (m : api_Map) : Option (Int × Int) :=
  (ZL m).bind fun y =>
  some ((max y.1 0), y.2)

noncomputable def Qx (n : Int) (low : Int) (high : Int) : Option Bool :=
  some ((decide (n < low)) || (decide (high < n)))

noncomputable def XS (s : Str) (i : Int) : Option ((Int) ⊕ (Bool) ⊕ (Unit)) :=
  if (decide (i < (s.length : Int))) = true then
  (ZhJ s i).bind fun b =>
  if (!(((decide (97 ≤ b)) && (decide (b ≤ 122))) || ((decide (0 < i)) && (((decide (48 ≤ b)) && (decide (b ≤ 57))) || (decide (b = 45)))))) = true then
  some (.inr (.inl false))
  else
  some (.inl (i64 (i + 1)))
  else
  some (.inr (.inr ()))

noncomputable def Zay (s : Str) : Option Bool :=
  ((loop (t1 (XS s)) 0) : Option ((Bool) ⊕ (Unit))).bind (Sum.elim (fun q' => some q') (t0 (some ((decide (1 ≤ (s.length : Int))) && (decide ((s.length : Int) ≤ 30))))))

noncomputable def ZeT (p : api_Param) (n2 : Int) (i : Int) : Option ((Int × Int) ⊕ (Int)) :=
  if (decide (i < (p.Parts.length : Int))) = true then
  (idx p.Parts i).bind fun x =>
  some (.inl ((i64 (n2 + x.Bits)), (i64 (i + 1))))
  else
  some (.inr n2)

noncomputable def Zcm (p : api_Param) : Option Int :=
  ((loop (t2 (ZeT p)) (0, 0)) : Option ((Int))).bind (t1 fun (n : Int) =>
  some n)

noncomputable def Jb (p : api_Param) (i : Int) : Option ((Int) ⊕ (Int) ⊕ (Unit)) :=
  if (decide (i < (p.Parts.length : Int))) = true then
  (idx p.Parts i).bind fun x =>
  (Qx x.Frame 0 15).bind fun y =>
  (gd (y == false) false (Qx x.Word 4 60)).bind fun y2 =>
  (gd ((y || y2) == false) false (Qx x.Low 0 10)).bind fun y3 =>
  (gd (((y || y2) || y3) == false) false (Qx x.Bits 1 (i64 (11 - x.Low)))).bind fun y4 =>
  if (((y || y2) || y3) || y4) = true then
  some (.inr (.inl 9))
  else
  some (.inl (i64 (i + 1)))
  else
  some (.inr (.inr ()))

noncomputable def Jl (p : api_Param) : Option Int :=
  if (decide ((p.Parts.length : Int) = 0)) = true then
  some 13
  else
  if (decide (8 < (p.Parts.length : Int))) = true then
  some 3
  else
  ((loop (t1 (Jb p)) 0) : Option ((Int) ⊕ (Unit))).bind (Sum.elim (fun q' => some q') (t0 ((Zcm p).bind fun y5 =>
  if (decide (40 < y5)) = true then
  some 3
  else
  some 0)))

noncomputable def Xm (p : api_Param) (i : Int) : Option ((Int) ⊕ (Int) ⊕ (Unit)) :=
  if (decide (i < (p.Parts.length : Int))) = true then
  (idx p.Parts i).bind fun x =>
  if (((decide (1 < p.Times)) && (decide (57 < p.Step))) || (decide (60 < (i64 (x.Word + (i64 ((i64 (p.Times - 1)) * p.Step))))))) = true then
  some (.inr (.inl 9))
  else
  some (.inl (i64 (i + 1)))
  else
  some (.inr (.inr ()))

noncomputable def Jg (p : api_Param) : Option Int :=
  ((if (decide (p.Every = 1)) = true then
  if (decide (p.Every = 1)) = true then
  some (.inr ())
  else
  some (.inl 9)
  else
  if (decide (p.Every = 2)) = true then
  if (decide (p.Every = 2)) = true then
  some (.inr ())
  else
  some (.inl 9)
  else
  if (decide (p.Every = 4)) = true then
  if (decide (p.Every = 4)) = true then
  some (.inr ())
  else
  some (.inl 9)
  else
  if (decide (p.Every = 8)) = true then
  if (decide (p.Every = 8)) = true then
  some (.inr ())
  else
  some (.inl 9)
  else
  if (decide (p.Every = 16)) = true then
  some (.inr ())
  else
  some (.inl 9)) : Option ((Int) ⊕ (Unit))).bind (Sum.elim (fun q' => some q') (t0 ((Qx p.First 0 (i64 (p.Every - 1))).bind fun y =>
  (gd (y == false) false (Qx p.Times 1 57)).bind fun y2 =>
  if (((y || y2) || (decide (p.Step < 0))) || (!((decide (p.Step = 0)) == (decide (p.Times = 1))))) = true then
  some 9
  else
  ((loop (t1 (Xm p)) 0) : Option ((Int) ⊕ (Unit))).bind (Sum.elim (fun q' => some q') (t0 (some 0))))))

noncomputable def XG (x : Str) (l : List Str) (i2 : Int) : Option ((Int) ⊕ (Int) ⊕ (Unit)) :=
  if (decide (i2 < (l.length : Int))) = true then
  (idx l i2).bind fun x2 =>
  if (decide (x = x2)) = true then
  some (.inr (.inl 5))
  else
  some (.inl (i64 (i2 + 1)))
  else
  some (.inr (.inr ()))

noncomputable def XH (p : api_Param) (i : Int) : Option ((Int) ⊕ (Int) ⊕ (Unit)) :=
  if (decide (i < (p.Names.length : Int))) = true then
  (((idx p.Names i).bind fun x =>
  (Zay x).bind fun y2 =>
  if (!y2) = true then
  some (.inl 8)
  else
  (slc p.Names 0 i).bind fun l =>
  loop (t1 (XG x l)) 0) : Option ((Int) ⊕ (Unit))).bind (Sum.elim (fun q' => some (.inr (.inl q'))) (t0 (some (.inl (i64 (i + 1))))))
  else
  some (.inr (.inr ()))

noncomputable def JE (p : api_Param) : Option Int :=
  (Zcm p).bind fun y =>
  (gd ((decide (p.Kind = 4)) == true) 0 (rem y 4)).bind fun q =>
  if ((((decide (p.Kind = 4)) && (!decide (q = 0))) || ((decide (p.Kind = 5)) && (!decide (y = 1)))) || (((decide (p.Kind = 2)) || (decide (p.Kind = 3))) && (decide (y = 1)))) = true then
  some 2
  else
  if (!decide (p.Kind = 6)) = true then
  if (decide (0 < (p.Names.length : Int))) = true then
  some 2
  else
  some 0
  else
  if (decide ((p.Names.length : Int) = 0)) = true then
  some 13
  else
  (gd ((decide (64 < (p.Names.length : Int))) == false) 0 (shl .i64 1 y)).bind fun q2 =>
  if ((decide (64 < (p.Names.length : Int))) || (decide (q2 < (p.Names.length : Int)))) = true then
  some 3
  else
  ((loop (t1 (XH p)) 0) : Option ((Int) ⊕ (Unit))).bind (Sum.elim (fun q' => some q') (t0 (some 0)))

noncomputable def Jn (p : api_Param) (f : Int) (inside2 : Bool) (i : Int) : Option ((Bool × Int) ⊕ (Bool)) :=
  if (decide (i < (p.Parts.length : Int))) = true then
  (idx p.Parts i).bind fun x =>
  some (.inl ((inside2 && (decide ((i64 (f + x.Frame)) < 16))), (i64 (i + 1))))
  else
  some (.inr inside2)

noncomputable def Zbn (p : api_Param) (f : Int) (j : Int) (Places2 : List api_Place) (i2 : Int) : Option (((List api_Place) × Int) ⊕ ((List api_Place))) :=
  if (decide (i2 < (p.Parts.length : Int))) = true then
  (idx p.Parts i2).bind fun x2 =>
  (app Places2 ([(api_Place.mk (i64 (f + x2.Frame)) (i64 (x2.Word + (i64 (j * p.Step)))) x2.Low x2.Bits)] : List api_Place)).bind fun l =>
  some (.inl (l, (i64 (i2 + 1))))
  else
  some (.inr Places2)

noncomputable def Jo (p : api_Param) (number : Int) (f : Int) (Js : Bool) (out4 : List api_Cell) (j : Int) : Option (((List api_Cell) × Int) ⊕ ((List api_Cell))) :=
  if ((decide (j < p.Times)) && Js) = true then
  ((loop (t2 (Zbn p f j)) ([], 0)) : Option (((List api_Place)))).bind (t1 fun (Places : List api_Place) =>
  (app out4 ([(api_Cell.mk number (out4.length : Int) f Places)] : List api_Cell)).bind fun l2 =>
  some (.inl (l2, (i64 (j + 1)))))
  else
  some (.inr out4)

noncomputable def Xf (p : api_Param) (number : Int) (out2 : List api_Cell) (f : Int) : Option (((List api_Cell) × Int) ⊕ ((List api_Cell))) :=
  if (decide (f < 16)) = true then
  ((((loop (t2 (Jn p f)) (true, 0)) : Option ((Bool))).bind (t1 fun (Js : Bool) =>
  loop (t2 (Jo p number f Js)) (out2, 0))) : Option (((List api_Cell)))).bind (t1 fun (out3 : List api_Cell) =>
  some (.inl (out3, (i64 (f + p.Every)))))
  else
  some (.inr out2)

noncomputable def X2 (p : api_Param) (number : Int) : Option (List api_Cell) :=
  ((loop (t2 (Xf p number)) ([], p.First)) : Option (((List api_Cell)))).bind (t1 fun (out : List api_Cell) =>
  some out)

noncomputable def QU (x : api_Place) (o4 : List ((Vector Int 3) × Bool)) (ok4 : Bool) (b : Int) : Option (((List ((Vector Int 3) × Bool)) × Bool × Int) ⊕ ((List ((Vector Int 3) × Bool)) × Bool)) :=
  if (decide (b < (i64 (x.Low + x.Bits)))) = true then
  (gd (ok4 == true) false (some ((ZbA kqV o4 (#v[x.Frame, x.Word, b] : Vector Int 3)).getD false))).bind fun o5 =>
  some (.inl ((ZdY kqV o4 (#v[x.Frame, x.Word, b] : Vector Int 3) true), (ok4 && (!o5)), (i64 (b + 1))))
  else
  some (.inr (o4, ok4))

noncomputable def QT (l : List api_Place) (o2 : List ((Vector Int 3) × Bool)) (ok2 : Bool) (i : Int) : Option (((List ((Vector Int 3) × Bool)) × Bool × Int) ⊕ ((List ((Vector Int 3) × Bool)) × Bool)) :=
  if (decide (i < (l.length : Int))) = true then
  (((idx l i).bind fun x =>
  loop (t3 (QU x)) (o2, ok2, x.Low)) : Option (((List ((Vector Int 3) × Bool)) × Bool))).bind (t2 fun (o3 : List ((Vector Int 3) × Bool)) (ok3 : Bool) =>
  some (.inl (o3, ok3, (i64 (i + 1)))))
  else
  some (.inr (o2, ok2))

noncomputable def Jf (t : List ((Vector Int 3) × Bool)) (l : List api_Place) : Option (Bool × (List ((Vector Int 3) × Bool))) :=
  ((loop (t3 (QT l)) (t, true, 0)) : Option (((List ((Vector Int 3) × Bool)) × Bool))).bind (t2 fun (o : List ((Vector Int 3) × Bool)) (ok : Bool) =>
  some (ok, o))

noncomputable def Qq (l : List api_Cell) (o2 : List ((Vector Int 3) × Bool)) (ok2 : Bool) (i : Int) : Option (((List ((Vector Int 3) × Bool)) × Bool × Int) ⊕ ((List ((Vector Int 3) × Bool)) × Bool)) :=
  if (decide (i < (l.length : Int))) = true then
  (idx l i).bind fun x =>
  (Jf o2 x.Places).bind fun y =>
  if (!y.1) = true then
  some (.inl (y.2, false, (i64 (i + 1))))
  else
  some (.inl (y.2, ok2, (i64 (i + 1))))
  else
  some (.inr (o2, ok2))

noncomputable def QW (t : List ((Vector Int 3) × Bool)) (l : List api_Cell) : Option (Bool × (List ((Vector Int 3) × Bool))) :=
  ((loop (t3 (Qq l)) (t, true, 0)) : Option (((List ((Vector Int 3) × Bool)) × Bool))).bind (t2 fun (o : List ((Vector Int 3) × Bool)) (ok : Bool) =>
  some (ok, o))

noncomputable def Jh (p : api_Param) : Option Int :=
  (Zay p.Name).bind fun y =>
  if (!y) = true then
  some 8
  else
  (Qx p.Kind 1 6).bind fun y2 =>
  if y2 = true then
  some 7
  else
  (Jl p).bind fun y3 =>
  if (!decide (y3 = 0)) = true then
  some y3
  else
  (Jg p).bind fun y4 =>
  if (!decide (y4 = 0)) = true then
  some y4
  else
  (JE p).bind fun y5 =>
  if (!decide (y5 = 0)) = true then
  some y5
  else
  (X2 p 0).bind fun y6 =>
  (QW ([] : List ((Vector Int 3) × Bool)) y6).bind fun y7 =>
  if (!y7.1) = true then
  some 5
  else
  if (decide ((y6.length : Int) = 0)) = true then
  some 13
  else
  some 0

noncomputable def Zac (i : Int) (x : api_Param) (l : List api_Param) (i2 : Int) : Option ((Int) ⊕ (Int × Int) ⊕ (Unit)) :=
  if (decide (i2 < (l.length : Int))) = true then
  (idx l i2).bind fun x2 =>
  if (decide (x2.Name = x.Name)) = true then
  some (.inr (.inl (i, 5)))
  else
  some (.inl (i64 (i2 + 1)))
  else
  some (.inr (.inr ()))

noncomputable def Zaa (m : api_Map) (i : Int) : Option ((Int) ⊕ (Int × Int) ⊕ (Unit)) :=
  if (decide (i < (m.Params.length : Int))) = true then
  (((idx m.Params i).bind fun x =>
  (Jh x).bind fun y2 =>
  if (!decide (y2 = 0)) = true then
  some (.inl (i, y2))
  else
  (slc m.Params 0 i).bind fun l =>
  loop (t1 (Zac i x l)) 0) : Option ((Int × Int) ⊕ (Unit))).bind (Sum.elim (fun q' => some (.inr (.inl q'))) (t0 (some (.inl (i64 (i + 1))))))
  else
  some (.inr (.inr ()))

noncomputable def Qt (m : api_Map) (n : Int) (i3 : Int) : Option ((Int × Int) ⊕ (Int × Int) ⊕ (Unit)) :=
  if (decide (i3 < (m.Params.length : Int))) = true then
  (idx m.Params i3).bind fun x3 =>
  (X2 x3 i3).bind fun y3 =>
  if (decide (4000 < (i64 (n + (y3.length : Int))))) = true then
  some (.inr (.inl (i3, 3)))
  else
  some (.inl ((i64 (n + (y3.length : Int))), (i64 (i3 + 1))))
  else
  some (.inr (.inr ()))

noncomputable def Qs (m : api_Map) (t : List ((Vector Int 3) × Bool)) (i4 : Int) : Option (((List ((Vector Int 3) × Bool)) × Int) ⊕ (Int × Int) ⊕ (Unit)) :=
  if (decide (i4 < (m.Params.length : Int))) = true then
  (idx m.Params i4).bind fun x4 =>
  (X2 x4 i4).bind fun y4 =>
  (QW t y4).bind fun y5 =>
  if (!y5.1) = true then
  some (.inr (.inl (i4, 5)))
  else
  some (.inl (y5.2, (i64 (i4 + 1))))
  else
  some (.inr (.inr ()))

noncomputable def QL (m : api_Map) : Option (Int × Int) :=
  (Qx m.Version 0 2047).bind fun y =>
  if y = true then
  some (0, 9)
  else
  if (decide (200 < (m.Params.length : Int))) = true then
  some (0, 3)
  else
  ((loop (t1 (Zaa m)) 0) : Option ((Int × Int) ⊕ (Unit))).bind (Sum.elim (fun q' => some q') (t0 (((loop (t2 (Qt m)) (0, 0)) : Option ((Int × Int) ⊕ (Unit))).bind (Sum.elim (fun q' => some q') (t0 (((loop (t2 (Qs m)) (([] : List ((Vector Int 3) × Bool)), 0)) : Option ((Int × Int) ⊕ (Unit))).bind (Sum.elim (fun q' => some q') (t0 (some (0, 0))))))))))

noncomputable def Ji (m : api_Map) (out2 : List api_Cell) (i : Int) : Option (((List api_Cell) × Int) ⊕ ((List api_Cell))) :=
  if (decide (i < (m.Params.length : Int))) = true then
  (idx m.Params i).bind fun x =>
  (Qv i x).bind fun y =>
  (app out2 y).bind fun l =>
  some (.inl (l, (i64 (i + 1))))
  else
  some (.inr out2)

noncomputable def QZ (m : api_Map) : Option (List api_Cell) :=
  ((loop (t2 (Ji m)) ([], 0)) : Option (((List api_Cell)))).bind (t1 fun (out : List api_Cell) =>
  some out)

noncomputable def ZaC (m : api_Map) : Option ((List api_Cell) × Int) :=
  (ZL m).bind fun y =>
  if (!decide (y.2 = 0)) = true then
  some ([], y.2)
  else
  (QZ m).bind fun y2 =>
  some (y2, 0)

noncomputable def Za3 (m : api_Map) (out2 : List api_Cell) (i : Int) : Option (((List api_Cell) × Int) ⊕ ((List api_Cell))) :=
  if (decide (i < (m.Params.length : Int))) = true then
  (idx m.Params i).bind fun x =>
  (X2 x i).bind fun y =>
  (app out2 y).bind fun l =>
  some (.inl (l, (i64 (i + 1))))
  else
  some (.inr out2)

noncomputable def Jm (m : api_Map) : Option (List api_Cell) :=
  ((loop (t2 (Za3 m)) ([], 0)) : Option (((List api_Cell)))).bind (t1 fun (out : List api_Cell) =>
  some out)

noncomputable def Zb4 (m : api_Map) : Option ((List api_Cell) × Int) :=
  (QL m).bind fun y =>
  if (!decide (y.2 = 0)) = true then
  some ([], y.2)
  else
  (Jm m).bind fun y2 =>
  some (y2, 0)

noncomputable def Zz (s1 : List api_Cell) (s2 : List api_Cell) (eq : api_Cell → api_Cell → Option Bool) (i : Int) : Option ((Int) ⊕ (Bool) ⊕ (Unit)) :=
  if (decide (i < (s1.length : Int))) = true then
  (idx s1 i).bind fun x =>
  (idx s2 i).bind fun x2 =>
  (eq x x2).bind fun y =>
  if (!y) = true then
  some (.inr (.inl false))
  else
  some (.inl (i64 (i + 1)))
  else
  some (.inr (.inr ()))

noncomputable def Zn (s1 : List api_Cell) (s2 : List api_Cell) (eq : api_Cell → api_Cell → Option Bool) : Option Bool :=
  if (!decide ((s1.length : Int) = (s2.length : Int))) = true then
  some false
  else
  ((loop (t1 (Zz s1 s2 eq)) 0) : Option ((Bool) ⊕ (Unit))).bind (Sum.elim (fun q' => some q') (t0 (some true)))

noncomputable def ZG (s1 : List api_Place) (s2 : List api_Place) (i : Int) : Option ((Int) ⊕ (Bool) ⊕ (Unit)) :=
  if (decide (i < (s1.length : Int))) = true then
  (idx s1 i).bind fun x =>
  (idx s2 i).bind fun x2 =>
  if (!(decide (x.Frame = x2.Frame) && (decide (x.Word = x2.Word) && (decide (x.Low = x2.Low) && (decide (x.Bits = x2.Bits) && true))))) = true then
  some (.inr (.inl false))
  else
  some (.inl (i64 (i + 1)))
  else
  some (.inr (.inr ()))

noncomputable def ZQ (s1 : List api_Place) (s2 : List api_Place) : Option Bool :=
  if (!decide ((s1.length : Int) = (s2.length : Int))) = true then
  some false
  else
  ((loop (t1 (ZG s1 s2)) 0) : Option ((Bool) ⊕ (Unit))).bind (Sum.elim (fun q' => some q') (t0 (some true)))

noncomputable def XK (a : api_Cell) (b : api_Cell) : Option Bool :=
  (gd ((((decide (a.Param = b.Param)) && (decide (a.Index = b.Index))) && (decide (a.Frame = b.Frame))) == true) false (ZQ a.Places b.Places)).bind fun y =>
  some ((((decide (a.Param = b.Param)) && (decide (a.Index = b.Index))) && (decide (a.Frame = b.Frame))) && y)

noncomputable def QG (l : List api_Cell) (out2 : List (layout_bit × Int)) (i : Int) : Option (((List (layout_bit × Int)) × Int) ⊕ ((List (layout_bit × Int)))) :=
  if (decide (i < (l.length : Int))) = true then
  (idx l i).bind fun x =>
  (XC out2 i x.Places).bind fun y =>
  some (.inl (y.2, (i64 (i + 1))))
  else
  some (.inr out2)

noncomputable def JF (l : List api_Cell) : Option (List (layout_bit × Int)) :=
  ((loop (t2 (QG l)) (([] : List (layout_bit × Int)), 0)) : Option (((List (layout_bit × Int))))).bind (t1 fun (out : List (layout_bit × Int)) =>
  some out)

noncomputable def Zb0 (out2 : Vector Int 16) (i : Int) : Option (((Vector Int 16) × Int) ⊕ ((Vector Int 16))) :=
  if (decide (i < 16)) = true then
  (Qj out2 i).bind fun x =>
  some (.inl ((JT out2 i 627), (i64 (i + 1))))
  else
  some (.inr out2)

noncomputable def ZZ (kv : layout_bit × Int) (acc : Vector Int 16) : Option (Vector Int 16) :=
  (Qj acc kv.1.frame).bind fun x2 =>
  (Qj acc kv.1.frame).bind fun x3 =>
  some (JT acc kv.1.frame (i64 (x2 - 1)))

noncomputable def Zbv (m : api_Map) : Option ((Vector Int 16) × Int) :=
  (ZL m).bind fun y =>
  if (!decide (y.2 = 0)) = true then
  some ((Vector.replicate 16 0), y.2)
  else
  ((loop (t2 (Zb0)) ((Vector.replicate 16 0), 0)) : Option (((Vector Int 16)))).bind (t1 fun (out : Vector Int 16) =>
  (QZ m).bind fun y2 =>
  (JF y2).bind fun y3 =>
  (ZbH ZZ y3 out).bind fun out3 =>
  some (out3, 0))

noncomputable def ZcT (out2 : Vector Int 16) (i : Int) : Option (((Vector Int 16) × Int) ⊕ ((Vector Int 16))) :=
  if (decide (i < 16)) = true then
  (Qj out2 i).bind fun x =>
  some (.inl ((JT out2 i 627), (i64 (i + 1))))
  else
  some (.inr out2)

noncomputable def JH (x2 : api_Cell) (out6 : Vector Int 16) (i3 : Int) : Option (((Vector Int 16) × Int) ⊕ ((Vector Int 16))) :=
  if (decide (i3 < (x2.Places.length : Int))) = true then
  (idx x2.Places i3).bind fun x3 =>
  (Qj out6 x3.Frame).bind fun x4 =>
  (Qj out6 x3.Frame).bind fun x5 =>
  some (.inl ((JT out6 x3.Frame (i64 (x4 - x3.Bits))), (i64 (i3 + 1))))
  else
  some (.inr out6)

noncomputable def JJ (y2 : (List api_Cell)) (out4 : Vector Int 16) (i2 : Int) : Option (((Vector Int 16) × Int) ⊕ ((Vector Int 16))) :=
  if (decide (i2 < (y2.length : Int))) = true then
  (((idx y2 i2).bind fun x2 =>
  loop (t2 (JH x2)) (out4, 0)) : Option (((Vector Int 16)))).bind (t1 fun (out5 : Vector Int 16) =>
  some (.inl (out5, (i64 (i2 + 1)))))
  else
  some (.inr out4)

noncomputable def Zcp (m : api_Map) : Option ((Vector Int 16) × Int) :=
  (QL m).bind fun y =>
  if (!decide (y.2 = 0)) = true then
  some ((Vector.replicate 16 0), y.2)
  else
  ((loop (t2 (ZcT)) ((Vector.replicate 16 0), 0)) : Option (((Vector Int 16)))).bind (t1 fun (out : Vector Int 16) =>
  (((Jm m).bind fun y2 =>
  loop (t2 (JJ y2)) (out, 0)) : Option (((Vector Int 16)))).bind (t1 fun (out3 : Vector Int 16) =>
  some (out3, 0)))

noncomputable def ZaT (v : Int) : Option Int :=
  some v

noncomputable def J2 (raw : Int) (c0 : Int) : Option (Int × Bool) :=
  some (raw, (decide (raw ≤ c0)))

noncomputable def Qp (high : Int) : Option layout_number :=
  some (layout_number.mk 0 high (Fv.mk (fun z0 => ZaT z0) 66 []) (Fv.mk (fun z0 => J2 z0 high) 68 [.rp [.int .i64 high] 0]))

noncomputable def Q8 (c1 : Int) : Option layout_number :=
  (Qp (i64 ((i64 (2 * c1)) - 1))).bind fun y =>
  some y

noncomputable def Q4  : Option layout_number :=
  (Qp 1).bind fun y =>
  some y

noncomputable def Q6 (c1 : api_Param) : Option layout_number :=
  (Qp (i64 ((c1.Names.length : Int) - 1))).bind fun y =>
  some y

noncomputable def JX (v : Int) (c0 : Int) : Option Int :=
  some (ZgI .i64 v (i64 ((i64 (2 * c0)) - 1)))

noncomputable def J3 (raw : Int) (c0 : Int) : Option (Int × Bool) :=
  if (decide (c0 ≤ raw)) = true then
  some ((i64 (raw - (i64 (2 * c0)))), true)
  else
  some (raw, true)

noncomputable def Qn (c0 : Int) : Option layout_number :=
  some (layout_number.mk (i64 (-c0)) (i64 (c0 - 1)) (Fv.mk (fun z0 => JX z0 c0) 73 [.rp [.int .i64 c0] 0]) (Fv.mk (fun z0 => J3 z0 c0) 74 [.rp [.int .i64 c0] 0]))

noncomputable def J5 (v : Int) (c0 : Int) : Option Int :=
  if (decide (v < 0)) = true then
  some (i64 (c0 - v))
  else
  some v

noncomputable def JZ (raw : Int) (c0 : Int) : Option (Int × Bool) :=
  if (decide (c0 ≤ raw)) = true then
  some ((i64 (c0 - raw)), (decide (c0 < raw)))
  else
  some (raw, true)

noncomputable def Q5 (c0 : Int) : Option layout_number :=
  some (layout_number.mk (i64 (1 - c0)) (i64 (c0 - 1)) (Fv.mk (fun z0 => J5 z0 c0) 76 [.rp [.int .i64 c0] 0]) (Fv.mk (fun z0 => JZ z0 c0) 77 [.rp [.int .i64 c0] 0]))

noncomputable def ZaI (v2 : Int) (raw2 : Int) (shift : Int) : Option ((Int × Int × Int) ⊕ (Int)) :=
  if (decide (0 < v2)) = true then
  (rem v2 10).bind fun q =>
  (shl .i64 q shift).bind fun q2 =>
  (quo .i64 v2 10).bind fun q3 =>
  some (.inl (q3, (bor .i64 raw2 q2), (i64 (shift + 4))))
  else
  some (.inr raw2)

noncomputable def J4 (v : Int) : Option Int :=
  ((loop (t3 (ZaI)) (v, 0, 0)) : Option ((Int))).bind (t1 fun (raw : Int) =>
  some raw)

noncomputable def Zcc (raw : Int) (v2 : Int) (ok2 : Bool) (shift : Int) : Option ((Int × Bool × Int) ⊕ (Int × Bool)) :=
  if (decide (0 ≤ shift)) = true then
  (shr .i64 raw shift).bind fun q =>
  some (.inl ((i64 ((i64 (v2 * 10)) + (ZgI .i64 q 15))), (ok2 && (decide ((ZgI .i64 q 15) < 10))), (i64 (shift - 4))))
  else
  some (.inr (v2, ok2))

noncomputable def ZbZ (raw : Int) : Option (Int × Bool) :=
  ((loop (t3 (Zcc raw)) (0, true, 60)) : Option ((Int × Bool))).bind (t2 fun (v : Int) (ok : Bool) =>
  some (v, ok))

noncomputable def Zby (q : Int) (high2 : Int) (i : Int) : Option ((Int × Int) ⊕ (Int)) :=
  if (decide (i < q)) = true then
  some (.inl ((i64 (high2 * 10)), (i64 (i + 1))))
  else
  some (.inr high2)

noncomputable def Q3 (c0 : Int) : Option layout_number :=
  (((quo .i64 c0 4).bind fun q =>
  loop (t2 (Zby q)) (1, 0)) : Option ((Int))).bind (t1 fun (high : Int) =>
  some (layout_number.mk 0 (i64 (high - 1)) (Fv.mk (fun z0 => J4 z0) 79 []) (Fv.mk (fun z0 => ZbZ z0) 80 [])))

noncomputable def Qw (p : api_Param) : Option layout_number :=
  (Qu p).bind fun y =>
  (shl .i64 1 (i64 (y - 1))).bind fun q =>
  if decide (p.Kind = 1) = true then
  (Q8 q).bind fun y2 =>
  some y2
  else
  if decide (p.Kind = 5) = true then
  (Q4).bind fun y3 =>
  some y3
  else
  if decide (p.Kind = 6) = true then
  (Q6 p).bind fun y4 =>
  some y4
  else
  if decide (p.Kind = 2) = true then
  (Qn q).bind fun y5 =>
  some y5
  else
  if decide (p.Kind = 3) = true then
  (Q5 q).bind fun y6 =>
  some y6
  else
  if decide (p.Kind = 4) = true then
  (Q3 y).bind fun y7 =>
  some y7
  else
  none

noncomputable def ZaV (m : api_Map) (out2 : Vector (List Int) 16) (i : Int) : Option (((Vector (List Int) 16) × Int) ⊕ ((Vector (List Int) 16))) :=
  if (decide (i < 16)) = true then
  (mks 58 0).bind fun l2 =>
  (Qj out2 i).bind fun x =>
  (Qj (JT out2 i l2) i).bind fun l3 =>
  (Qj (JT out2 i l2) i).bind fun x2 =>
  (idx l3 0).bind fun x3 =>
  some (.inl ((JT (JT out2 i l2) i (l3.set (Int.toNat 0) m.Version)), (i64 (i + 1))))
  else
  some (.inr out2)

noncomputable def ZaJ (x4 : api_Cell) (y5 : Int) (out6 : Vector (List Int) 16) (left : Int) (i3 : Int) : Option (((Vector (List Int) 16) × Int × Int) ⊕ ((Vector (List Int) 16))) :=
  if (decide (i3 < (x4.Places.length : Int))) = true then
  (idx x4.Places i3).bind fun x9 =>
  (Qj out6 x9.Frame).bind fun l4 =>
  (Qj out6 x9.Frame).bind fun x10 =>
  (idx l4 (i64 (x9.Word - 3))).bind fun x11 =>
  (shr .i64 y5 (i64 (left - x9.Bits))).bind fun q =>
  (shl .i64 1 x9.Bits).bind fun q2 =>
  (shl .i64 (ZgI .i64 q (i64 (q2 - 1))) x9.Low).bind fun q3 =>
  (idx l4 (i64 (x9.Word - 3))).bind fun x12 =>
  some (.inl ((JT out6 x9.Frame (l4.set (i64 (x9.Word - 3)).toNat (bor .i64 x11 q3))), (i64 (left - x9.Bits)), (i64 (i3 + 1))))
  else
  some (.inr out6)

noncomputable def ZaD (m : api_Map) (l : List Int) (y2 : (List api_Cell)) (out4 : Vector (List Int) 16) (i2 : Int) : Option (((Vector (List Int) 16) × Int) ⊕ ((Vector (List Int) 16) × Int) ⊕ ((Vector (List Int) 16))) :=
  if (decide (i2 < (y2.length : Int))) = true then
  (((idx y2 i2).bind fun x4 =>
  (idx m.Params x4.Param).bind fun x5 =>
  (Qw x5).bind fun y3 =>
  (idx l i2).bind fun x6 =>
  (ZU x6 y3.low y3.high).bind fun y4 =>
  if (!y4) = true then
  some (.inl ((Vector.replicate 16 []), 9))
  else
  (idx l i2).bind fun x7 =>
  (y3.encode.fn x7).bind fun y5 =>
  (idx m.Params x4.Param).bind fun x8 =>
  (Qu x8).bind fun y6 =>
  (loop (t3 (ZaJ x4 y5)) (out4, y6, 0)).bind (fun q' => some (.inr q'))) : Option (((Vector (List Int) 16) × Int) ⊕ ((Vector (List Int) 16)))).bind (Sum.elim (fun q' => some (.inr (.inl q'))) (t1 fun (out5 : Vector (List Int) 16) =>
  some (.inl (out5, (i64 (i2 + 1))))))
  else
  some (.inr (.inr out4))

noncomputable def Zbw (m : api_Map) (l : List Int) : Option ((Vector (List Int) 16) × Int) :=
  (ZL m).bind fun y =>
  if (!decide (y.2 = 0)) = true then
  some ((Vector.replicate 16 []), y.2)
  else
  (QZ m).bind fun y2 =>
  if (!decide ((l.length : Int) = (y2.length : Int))) = true then
  some ((Vector.replicate 16 []), 3)
  else
  ((loop (t2 (ZaV m)) ((Vector.replicate 16 []), 0)) : Option (((Vector (List Int) 16)))).bind (t1 fun (out : Vector (List Int) 16) =>
  ((loop (t2 (ZaD m l y2)) (out, 0)) : Option (((Vector (List Int) 16) × Int) ⊕ ((Vector (List Int) 16)))).bind (Sum.elim (fun q' => some q') (t1 fun (out3 : Vector (List Int) 16) =>
  some (out3, 0))))

noncomputable def QD (s : List Int) (f : Int → Option Bool) (i : Int) : Option ((Int) ⊕ (Int) ⊕ (Unit)) :=
  if (decide (i < (s.length : Int))) = true then
  (idx s i).bind fun x =>
  (f x).bind fun y =>
  if y = true then
  some (.inr (.inl i))
  else
  some (.inl (i64 (i + 1)))
  else
  some (.inr (.inr ()))

noncomputable def Qr (s : List Int) (f : Int → Option Bool) : Option Int :=
  ((loop (t1 (QD s f)) 0) : Option ((Int) ⊕ (Unit))).bind (Sum.elim (fun q' => some q') (t0 (some (-1))))

noncomputable def Qa (s : List Int) (f : Int → Option Bool) : Option Bool :=
  (Qr s f).bind fun y =>
  some (decide (0 ≤ y))

noncomputable def Jd (d : Int) : Option Bool :=
  (ZU d 0 2047).bind fun y =>
  some (!y)

noncomputable def Zaf (c_ : api_Cell) (l : Vector (List Int) 16) (raw2 : Int) (i : Int) : Option ((Int × Int) ⊕ (Int)) :=
  if (decide (i < (c_.Places.length : Int))) = true then
  (idx c_.Places i).bind fun x =>
  (shl .i64 raw2 x.Bits).bind fun q =>
  (Qj l x.Frame).bind fun x2 =>
  (idx x2 (i64 (x.Word - 3))).bind fun x3 =>
  (shr .i64 x3 x.Low).bind fun q2 =>
  (shl .i64 1 x.Bits).bind fun q3 =>
  some (.inl ((bor .i64 q (ZgI .i64 q2 (i64 (q3 - 1)))), (i64 (i + 1))))
  else
  some (.inr raw2)

noncomputable def ZaG (c_ : api_Cell) (l : Vector (List Int) 16) : Option Int :=
  ((loop (t2 (Zaf c_ l)) (0, 0)) : Option ((Int))).bind (t1 fun (raw : Int) =>
  some raw)

noncomputable def JB (p : api_Param) (raw : Int) : Option (Int × Bool) :=
  (Qw p).bind fun y =>
  (y.decode.fn raw).bind fun y2 =>
  if (!y2.2) = true then
  some (0, false)
  else
  some (y2.1, true)

noncomputable def JM (l : Vector (List Int) 16) (i : Int) : Option ((Int) ⊕ ((List api_Reading) × Int) ⊕ (Unit)) :=
  if (decide (i < 16)) = true then
  (Qj l i).bind fun x =>
  if (!decide ((x.length : Int) = 58)) = true then
  some (.inr (.inl ([], 3)))
  else
  (Qa x (fun z0 => Jd z0)).bind fun y2 =>
  if y2 = true then
  some (.inr (.inl ([], 9)))
  else
  some (.inl (i64 (i + 1)))
  else
  some (.inr (.inr ()))

noncomputable def JQ (m : api_Map) (l : Vector (List Int) 16) (i2 : Int) : Option ((Int) ⊕ ((List api_Reading) × Int) ⊕ (Unit)) :=
  if (decide (i2 < 16)) = true then
  (Qj l i2).bind fun x2 =>
  (idx x2 0).bind fun x3 =>
  if (!decide (x3 = m.Version)) = true then
  some (.inr (.inl ([], 11)))
  else
  some (.inl (i64 (i2 + 1)))
  else
  some (.inr (.inr ()))

noncomputable def JP (m : api_Map) (l : Vector (List Int) 16) (y3 : (List api_Cell)) (out2 : List api_Reading) (i3 : Int) : Option (((List api_Reading) × Int) ⊕ ((List api_Reading))) :=
  if (decide (i3 < (y3.length : Int))) = true then
  (idx y3 i3).bind fun x4 =>
  (idx m.Params x4.Param).bind fun x5 =>
  (ZaG x4 l).bind fun y4 =>
  (JB x5 y4).bind fun y5 =>
  (app out2 ([(api_Reading.mk x4.Param x4.Index y5.1 y5.2)] : List api_Reading)).bind fun l2 =>
  some (.inl (l2, (i64 (i3 + 1))))
  else
  some (.inr out2)

noncomputable def Zab (m : api_Map) (l : Vector (List Int) 16) : Option ((List api_Reading) × Int) :=
  (ZL m).bind fun y =>
  if (!decide (y.2 = 0)) = true then
  some ([], y.2)
  else
  ((loop (t1 (JM l)) 0) : Option (((List api_Reading) × Int) ⊕ (Unit))).bind (Sum.elim (fun q' => some q') (t0 (((loop (t1 (JQ m l)) 0) : Option (((List api_Reading) × Int) ⊕ (Unit))).bind (Sum.elim (fun q' => some q') (t0 ((((QZ m).bind fun y3 =>
  loop (t2 (JP m l y3)) ([], 0)) : Option (((List api_Reading)))).bind (t1 fun (out : List api_Reading) =>
  some (out, 0))))))))

noncomputable def Zaw  : Option Bool :=
  (Zbw (api_Map.mk 3 ([(api_Param.mk [97] 2 ([(api_Part.mk 0 9 2 3)] : List api_Part) 2 8 2 1 [])] : List api_Param)) ([(-1), 3, 0, (-4)] : List Int)).bind fun y =>
  (gd ((!decide (y.2 = 0)) == false) [] (Qj y.1 2)).bind fun x =>
  (gd (((!decide (y.2 = 0)) || (!decide ((x.length : Int) = 58))) == false) [] (Qj y.1 5)).bind fun x2 =>
  (gd ((((!decide (y.2 = 0)) || (!decide ((x.length : Int) = 58))) || (!decide ((x2.length : Int) = 58))) == false) [] (Qj y.1 10)).bind fun x3 =>
  (gd (((((!decide (y.2 = 0)) || (!decide ((x.length : Int) = 58))) || (!decide ((x2.length : Int) = 58))) || (!decide ((x3.length : Int) = 58))) == false) [] (Qj y.1 2)).bind fun x4 =>
  (gd (((((!decide (y.2 = 0)) || (!decide ((x.length : Int) = 58))) || (!decide ((x2.length : Int) = 58))) || (!decide ((x3.length : Int) = 58))) == false) 0 (idx x4 6)).bind fun x5 =>
  (gd ((((((!decide (y.2 = 0)) || (!decide ((x.length : Int) = 58))) || (!decide ((x2.length : Int) = 58))) || (!decide ((x3.length : Int) = 58))) || (!decide (x5 = 28))) == false) [] (Qj y.1 2)).bind fun x6 =>
  (gd ((((((!decide (y.2 = 0)) || (!decide ((x.length : Int) = 58))) || (!decide ((x2.length : Int) = 58))) || (!decide ((x3.length : Int) = 58))) || (!decide (x5 = 28))) == false) 0 (idx x6 7)).bind fun x7 =>
  (gd (((((((!decide (y.2 = 0)) || (!decide ((x.length : Int) = 58))) || (!decide ((x2.length : Int) = 58))) || (!decide ((x3.length : Int) = 58))) || (!decide (x5 = 28))) || (!decide (x7 = 12))) == false) [] (Qj y.1 10)).bind fun x8 =>
  (gd (((((((!decide (y.2 = 0)) || (!decide ((x.length : Int) = 58))) || (!decide ((x2.length : Int) = 58))) || (!decide ((x3.length : Int) = 58))) || (!decide (x5 = 28))) || (!decide (x7 = 12))) == false) 0 (idx x8 6)).bind fun x9 =>
  (gd ((((((((!decide (y.2 = 0)) || (!decide ((x.length : Int) = 58))) || (!decide ((x2.length : Int) = 58))) || (!decide ((x3.length : Int) = 58))) || (!decide (x5 = 28))) || (!decide (x7 = 12))) || (!decide (x9 = 0))) == false) [] (Qj y.1 10)).bind fun x10 =>
  (gd ((((((((!decide (y.2 = 0)) || (!decide ((x.length : Int) = 58))) || (!decide ((x2.length : Int) = 58))) || (!decide ((x3.length : Int) = 58))) || (!decide (x5 = 28))) || (!decide (x7 = 12))) || (!decide (x9 = 0))) == false) 0 (idx x10 7)).bind fun x11 =>
  (gd (((((((((!decide (y.2 = 0)) || (!decide ((x.length : Int) = 58))) || (!decide ((x2.length : Int) = 58))) || (!decide ((x3.length : Int) = 58))) || (!decide (x5 = 28))) || (!decide (x7 = 12))) || (!decide (x9 = 0))) || (!decide (x11 = 16))) == false) [] (Qj y.1 5)).bind fun x12 =>
  (gd (((((((((!decide (y.2 = 0)) || (!decide ((x.length : Int) = 58))) || (!decide ((x2.length : Int) = 58))) || (!decide ((x3.length : Int) = 58))) || (!decide (x5 = 28))) || (!decide (x7 = 12))) || (!decide (x9 = 0))) || (!decide (x11 = 16))) == false) 0 (idx x12 0)).bind fun x13 =>
  if (((((((((!decide (y.2 = 0)) || (!decide ((x.length : Int) = 58))) || (!decide ((x2.length : Int) = 58))) || (!decide ((x3.length : Int) = 58))) || (!decide (x5 = 28))) || (!decide (x7 = 12))) || (!decide (x9 = 0))) || (!decide (x11 = 16))) || (!decide (x13 = 3))) = true then
  some false
  else
  (Zab (api_Map.mk 3 ([(api_Param.mk [97] 2 ([(api_Part.mk 0 9 2 3)] : List api_Part) 2 8 2 1 [])] : List api_Param)) y.1).bind fun y2 =>
  (gd (((decide (y2.2 = 0)) && (decide ((y2.1.length : Int) = 4))) == true) (api_Reading.mk 0 0 0 false) (idx y2.1 3)).bind fun x14 =>
  some (((decide (y2.2 = 0)) && (decide ((y2.1.length : Int) = 4))) && (decide (x14.Param = 0) && (decide (x14.Index = 3) && (decide (x14.Value = (-4)) && ((x14.Good == true) && true)))))

noncomputable def QE (m : api_Map) : Option Bool :=
  (ZbJ m).bind fun y =>
  (QL m).bind fun y2 =>
  if ((!decide (y.1 = y2.1)) || (!decide (y.2 = y2.2))) = true then
  some false
  else
  (ZaC m).bind fun y3 =>
  (Zb4 m).bind fun y4 =>
  (gd ((!decide (y3.2 = y4.2)) == false) false (Zn y3.1 y4.1 (fun z0 z1 => XK z0 z1))).bind fun y5 =>
  if ((!decide (y3.2 = y4.2)) || (!y5)) = true then
  some false
  else
  (Zbv m).bind fun y6 =>
  (Zcp m).bind fun y7 =>
  (gd (((decide (y6.1 = y7.1)) && (decide (y6.2 = y7.2))) == true) false Zaw).bind fun y8 =>
  some (((decide (y6.1 = y7.1)) && (decide (y6.2 = y7.2))) && y8)
end Go.Vx
