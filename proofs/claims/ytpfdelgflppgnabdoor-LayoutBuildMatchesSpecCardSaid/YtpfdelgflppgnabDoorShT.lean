/- A text of the proof: a verified executor of the program form, or the contracts of the functions that the law reaches. -/
import Derived.Test.YtpfdelgflppgnabDoorShLib
set_option linter.all false
namespace Go.Vx
open Go Go.RowKit
set_option linter.unusedVariables false
structure api_Part where
  Frame : Int
  Word : Int
  Low : Int
  Bits : Int
structure api_Param where
  Name : Str
  Kind : Int
  Parts : List api_Part
  First : Int
  Every : Int
  Times : Int
  Step : Int
  Names : List Str
structure api_Map where
  Version : Int
  Params : List api_Param
structure layout_bit where
  frame : Int
  word : Int
  bit : Int
structure api_Place where
  Frame : Int
  Word : Int
  Low : Int
  Bits : Int
structure api_Cell where
  Param : Int
  Index : Int
  Frame : Int
  Places : List api_Place
structure layout_number where
  low : Int
  high : Int
  encode : Fv (Int → Option Int)
  decode : Fv (Int → Option (Int × Bool))
structure api_Reading where
  Param : Int
  Index : Int
  Value : Int
  Good : Bool

noncomputable def ZO (n : Int) (low : Int) (high : Int) : Option Bool :=
  some ((decide (low ≤ n)) && (decide (n ≤ high)))

noncomputable def ZaN (c_ : Int) : Option Bool :=
  some (!((((decide (97 ≤ c_)) && (decide (c_ ≤ 122))) || ((decide (48 ≤ c_)) && (decide (c_ ≤ 57)))) || (decide (c_ = 45))))

noncomputable def XY (s : Str) : Option Bool :=
  (gd (((decide ((s.length : Int) < 1)) || (decide (30 < (s.length : Int)))) == false) 0 (Zh3 s 0)).bind fun b =>
  (gd ((((decide ((s.length : Int) < 1)) || (decide (30 < (s.length : Int)))) || (decide (b < 97))) == false) 0 (Zh3 s 0)).bind fun b2 =>
  if ((((decide ((s.length : Int) < 1)) || (decide (30 < (s.length : Int)))) || (decide (b < 97))) || (decide (122 < b2))) = true then
  some false
  else
  (Zae s (fun z0 => ZaN z0)).bind fun y =>
  some (!y)

noncomputable def QA (p : api_Param) (n2 : Int) (i : Int) : Option ((Int × Int) ⊕ (Int)) :=
  if (decide (i < (p.Parts.length : Int))) = true then
  (idx p.Parts i).bind fun x =>
  some (.inl ((i64 (n2 + x.Bits)), (i64 (i + 1))))
  else
  some (.inr n2)

noncomputable def Qv (p : api_Param) : Option Int :=
  ((loop (t2 (QA p)) (0, 0)) : Option ((Int))).bind (t1 fun (n : Int) =>
  some n)

noncomputable def ZQ (s : List Int) (v : Int) (i : Int) : Option ((Int) ⊕ (Int) ⊕ (Unit)) :=
  if (decide (i < (s.length : Int))) = true then
  (idx s i).bind fun x =>
  if (decide (v = x)) = true then
  some (.inr (.inl i))
  else
  some (.inl (i64 (i + 1)))
  else
  some (.inr (.inr ()))

noncomputable def Qy (s : List Int) (v : Int) : Option Int :=
  ((loop (t1 (ZQ s v)) 0) : Option ((Int) ⊕ (Unit))).bind (Sum.elim (fun q' => some q') (t0 (some (-1))))

noncomputable def Z3 (s : List Int) (v : Int) : Option Bool :=
  (Qy s v).bind fun y =>
  some (decide (0 ≤ y))

noncomputable def ZX (p : api_Param) (i : Int) : Option ((Int) ⊕ (Int) ⊕ (Unit)) :=
  if (decide (i < (p.Parts.length : Int))) = true then
  (idx p.Parts i).bind fun x =>
  (ZO x.Frame 0 15).bind fun y =>
  (gd ((!y) == false) false (ZO x.Word 4 60)).bind fun y2 =>
  (gd (((!y) || (!y2)) == false) false (ZO x.Low 0 10)).bind fun y3 =>
  (gd ((((!y) || (!y2)) || (!y3)) == false) false (ZO x.Bits 1 (i64 (11 - x.Low)))).bind fun y4 =>
  if ((((!y) || (!y2)) || (!y3)) || (!y4)) = true then
  some (.inr (.inl 9))
  else
  some (.inl (i64 (i + 1)))
  else
  some (.inr (.inr ()))

noncomputable def Qi (p : api_Param) (i2 : Int) : Option ((Int) ⊕ (Int) ⊕ (Unit)) :=
  if (decide (i2 < (p.Parts.length : Int))) = true then
  (idx p.Parts i2).bind fun x2 =>
  if ((decide (60 < p.Step)) || (decide (60 < (i64 (x2.Word + (i64 ((i64 (p.Times - 1)) * p.Step))))))) = true then
  some (.inr (.inl 9))
  else
  some (.inl (i64 (i2 + 1)))
  else
  some (.inr (.inr ()))

noncomputable def QE (p : api_Param) : Option Int :=
  if (decide ((p.Parts.length : Int) = 0)) = true then
  some 13
  else
  if (decide (8 < (p.Parts.length : Int))) = true then
  some 3
  else
  ((loop (t1 (ZX p)) 0) : Option ((Int) ⊕ (Unit))).bind (Sum.elim (fun q' => some q') (t0 ((Qv p).bind fun y5 =>
  if (decide (40 < y5)) = true then
  some 3
  else
  (Z3 ([1, 2, 4, 8, 16] : List Int) p.Every).bind fun y6 =>
  (gd ((!y6) == false) false (ZO p.First 0 (i64 (p.Every - 1)))).bind fun y7 =>
  (gd (((!y6) || (!y7)) == false) false (ZO p.Times 1 57)).bind fun y8 =>
  if (((((!y6) || (!y7)) || (!y8)) || (decide (p.Step < 0))) || (!((decide (p.Step = 0)) == (decide (p.Times = 1))))) = true then
  some 9
  else
  ((loop (t1 (Qi p)) 0) : Option ((Int) ⊕ (Unit))).bind (Sum.elim (fun q' => some q') (t0 (some 0))))))

noncomputable def ZD (s : List Str) (v : Str) (i : Int) : Option ((Int) ⊕ (Int) ⊕ (Unit)) :=
  if (decide (i < (s.length : Int))) = true then
  (idx s i).bind fun x =>
  if (decide (v = x)) = true then
  some (.inr (.inl i))
  else
  some (.inl (i64 (i + 1)))
  else
  some (.inr (.inr ()))

noncomputable def Z2 (s : List Str) (v : Str) : Option Int :=
  ((loop (t1 (ZD s v)) 0) : Option ((Int) ⊕ (Unit))).bind (Sum.elim (fun q' => some q') (t0 (some (-1))))

noncomputable def ZL (s : List Str) (v : Str) : Option Bool :=
  (Z2 s v).bind fun y =>
  some (decide (0 ≤ y))

noncomputable def Qj (p : api_Param) (i : Int) : Option ((Int) ⊕ (Int) ⊕ (Unit)) :=
  if (decide (i < (p.Names.length : Int))) = true then
  (idx p.Names i).bind fun x =>
  (XY x).bind fun y2 =>
  if (!y2) = true then
  some (.inr (.inl 8))
  else
  (slc p.Names 0 i).bind fun l =>
  (ZL l x).bind fun y3 =>
  if y3 = true then
  some (.inr (.inl 5))
  else
  some (.inl (i64 (i + 1)))
  else
  some (.inr (.inr ()))

noncomputable def QL (p : api_Param) : Option Int :=
  (Qv p).bind fun y =>
  (gd ((decide (p.Kind = 4)) == true) 0 (rem y 4)).bind fun q =>
  if ((((decide (p.Kind = 4)) && (!decide (q = 0))) || ((decide (p.Kind = 5)) && (!decide (y = 1)))) || (((decide (p.Kind = 2)) || (decide (p.Kind = 3))) && (decide (y = 1)))) = true then
  some 2
  else
  if (!decide (p.Kind = 6)) = true then
  if (decide (0 < (p.Names.length : Int))) = true then
  some 2
  else
  some 0
  else
  if (decide ((p.Names.length : Int) = 0)) = true then
  some 13
  else
  (gd ((decide (64 < (p.Names.length : Int))) == false) 0 (shl .i64 1 y)).bind fun q2 =>
  if ((decide (64 < (p.Names.length : Int))) || (decide (q2 < (p.Names.length : Int)))) = true then
  some 3
  else
  ((loop (t1 (Qj p)) 0) : Option ((Int) ⊕ (Unit))).bind (Sum.elim (fun q' => some q') (t0 (some 0)))

noncomputable def Zx (s : List api_Part) (f : api_Part → Option Bool) (i : Int) : Option ((Int) ⊕ (Int) ⊕ (Unit)) :=
  if (decide (i < (s.length : Int))) = true then
  (idx s i).bind fun x =>
  (f x).bind fun y =>
  if y = true then
  some (.inr (.inl i))
  else
  some (.inl (i64 (i + 1)))
  else
  some (.inr (.inr ()))

noncomputable def ZI (s : List api_Part) (f : api_Part → Option Bool) : Option Int :=
  ((loop (t1 (Zx s f)) 0) : Option ((Int) ⊕ (Unit))).bind (Sum.elim (fun q' => some q') (t0 (some (-1))))

noncomputable def Zy (s : List api_Part) (f : api_Part → Option Bool) : Option Bool :=
  (ZI s f).bind fun y =>
  some (decide (0 ≤ y))

noncomputable def QO (x : api_Part) (c0 : Int) : Option Bool :=
  some (decide (16 ≤ (i64 (c0 + x.Frame))))

noncomputable def Qd (p : api_Param) (out2 : List Int) (f : Int) : Option (((List Int) × Int) ⊕ ((List Int))) :=
  if (decide (f < 16)) = true then
  (((Zy p.Parts (fun z0 => QO z0 f)).bind fun y =>
  if (!y) = true then
  (app out2 ([f] : List Int)).bind fun l =>
  some l
  else
  some out2) : Option (((List Int)))).bind (t1 fun (out3 : List Int) =>
  some (.inl (out3, (i64 (f + p.Every)))))
  else
  some (.inr out2)

noncomputable def Xk (p : api_Param) : Option (List Int) :=
  ((loop (t2 (Qd p)) ([], p.First)) : Option (((List Int)))).bind (t1 fun (out : List Int) =>
  some out)

noncomputable def Xt (p : api_Param) (x : api_Part) (f : Int) (j : Int) : Option api_Place :=
  some (api_Place.mk (i64 (f + x.Frame)) (i64 (x.Word + (i64 (j * p.Step)))) x.Low x.Bits)

noncomputable def Z5 (p : api_Param) (x : Int) (i2 : Int) (Places2 : List api_Place) (i3 : Int) : Option (((List api_Place) × Int) ⊕ ((List api_Place))) :=
  if (decide (i3 < (p.Parts.length : Int))) = true then
  (idx p.Parts i3).bind fun x2 =>
  (Xt p x2 x i2).bind fun y2 =>
  (app Places2 ([y2] : List api_Place)).bind fun l =>
  some (.inl (l, (i64 (i3 + 1))))
  else
  some (.inr Places2)

noncomputable def XS (number : Int) (p : api_Param) (x : Int) (out4 : List api_Cell) (i2 : Int) : Option (((List api_Cell) × Int) ⊕ ((List api_Cell))) :=
  if (decide (i2 < p.Times)) = true then
  ((loop (t2 (Z5 p x i2)) ([], 0)) : Option (((List api_Place)))).bind (t1 fun (Places : List api_Place) =>
  (app out4 ([(api_Cell.mk number (out4.length : Int) x Places)] : List api_Cell)).bind fun l2 =>
  some (.inl (l2, (i64 (i2 + 1)))))
  else
  some (.inr out4)

noncomputable def Qs (number : Int) (p : api_Param) (y : (List Int)) (out2 : List api_Cell) (i : Int) : Option (((List api_Cell) × Int) ⊕ ((List api_Cell))) :=
  if (decide (i < (y.length : Int))) = true then
  (((idx y i).bind fun x =>
  loop (t2 (XS number p x)) (out2, 0)) : Option (((List api_Cell)))).bind (t1 fun (out3 : List api_Cell) =>
  some (.inl (out3, (i64 (i + 1)))))
  else
  some (.inr out2)

noncomputable def Qx (number : Int) (p : api_Param) : Option (List api_Cell) :=
  (((Xk p).bind fun y =>
  loop (t2 (Qs number p y)) ([], 0)) : Option (((List api_Cell)))).bind (t1 fun (out : List api_Cell) =>
  some out)

def kq_layout_bit (a b : layout_bit) : Bool := (decide (a.frame = b.frame) && (decide (a.word = b.word) && (decide (a.bit = b.bit) && true)))

noncomputable def QT (x : api_Place) (out2 : List layout_bit) (i : Int) : Option (((List layout_bit) × Int) ⊕ ((List layout_bit))) :=
  if (decide (i < x.Bits)) = true then
  (app out2 ([(layout_bit.mk x.Frame x.Word (i64 (x.Low + i)))] : List layout_bit)).bind fun l =>
  some (.inl (l, (i64 (i + 1))))
  else
  some (.inr out2)

noncomputable def XU (x : api_Place) : Option (List layout_bit) :=
  ((loop (t2 (QT x)) ([], 0)) : Option (((List layout_bit)))).bind (t1 fun (out : List layout_bit) =>
  some out)

noncomputable def QG (owner : Int) (y : (List layout_bit)) (o4 : List (layout_bit × Int)) (i2 : Int) : Option (((List (layout_bit × Int)) × Int) ⊕ (Bool × (List (layout_bit × Int))) ⊕ ((List (layout_bit × Int)))) :=
  if (decide (i2 < (y.length : Int))) = true then
  (idx y i2).bind fun x2 =>
  (some (Zce kq_layout_bit o4 x2)).bind fun o5 =>
  if o5.isSome = true then
  some (.inr (.inl (false, o4)))
  else
  some (.inl ((ZeO kq_layout_bit o4 x2 owner), (i64 (i2 + 1))))
  else
  some (.inr (.inr o4))

noncomputable def QH (owner : Int) (l : List api_Place) (o2 : List (layout_bit × Int)) (i : Int) : Option (((List (layout_bit × Int)) × Int) ⊕ (Bool × (List (layout_bit × Int))) ⊕ ((List (layout_bit × Int)))) :=
  if (decide (i < (l.length : Int))) = true then
  (((idx l i).bind fun x =>
  (XU x).bind fun y =>
  loop (t2 (QG owner y)) (o2, 0)) : Option ((Bool × (List (layout_bit × Int))) ⊕ ((List (layout_bit × Int))))).bind (Sum.elim (fun q' => some (.inr (.inl q'))) (t1 fun (o3 : List (layout_bit × Int)) =>
  some (.inl (o3, (i64 (i + 1))))))
  else
  some (.inr (.inr o2))

noncomputable def Jc (taken : List (layout_bit × Int)) (owner : Int) (l : List api_Place) : Option (Bool × (List (layout_bit × Int))) :=
  ((loop (t2 (QH owner l)) (taken, 0)) : Option ((Bool × (List (layout_bit × Int))) ⊕ ((List (layout_bit × Int))))).bind (Sum.elim (fun q' => some q') (t1 fun (o : List (layout_bit × Int)) =>
  some (true, o)))

noncomputable def Z6 (y5 : (List api_Cell)) (taken : List (layout_bit × Int)) (i : Int) : Option (((List (layout_bit × Int)) × Int) ⊕ (Int) ⊕ (Unit)) :=
  if (decide (i < (y5.length : Int))) = true then
  (idx y5 i).bind fun x =>
  (Jc taken 0 x.Places).bind fun y6 =>
  if (!y6.1) = true then
  some (.inr (.inl 5))
  else
  some (.inl (y6.2, (i64 (i + 1))))
  else
  some (.inr (.inr ()))

noncomputable def QJ (p : api_Param) : Option Int :=
  (XY p.Name).bind fun y =>
  if (!y) = true then
  some 8
  else
  (ZO p.Kind 1 6).bind fun y2 =>
  if (!y2) = true then
  some 7
  else
  (QE p).bind fun y3 =>
  if (!decide (y3 = 0)) = true then
  some y3
  else
  (QL p).bind fun y4 =>
  if (!decide (y4 = 0)) = true then
  some y4
  else
  (Qx 0 p).bind fun y5 =>
  ((loop (t2 (Z6 y5)) (([] : List (layout_bit × Int)), 0)) : Option ((Int) ⊕ (Unit))).bind (Sum.elim (fun q' => some q') (t0 (if (decide ((y5.length : Int) = 0)) = true then
  some 13
  else
  some 0)))

noncomputable def Zv (s : List api_Param) (f : api_Param → Option Bool) (i : Int) : Option ((Int) ⊕ (Int) ⊕ (Unit)) :=
  if (decide (i < (s.length : Int))) = true then
  (idx s i).bind fun x =>
  (f x).bind fun y =>
  if y = true then
  some (.inr (.inl i))
  else
  some (.inl (i64 (i + 1)))
  else
  some (.inr (.inr ()))

noncomputable def ZF (s : List api_Param) (f : api_Param → Option Bool) : Option Int :=
  ((loop (t1 (Zv s f)) 0) : Option ((Int) ⊕ (Unit))).bind (Sum.elim (fun q' => some q') (t0 (some (-1))))

noncomputable def Zw (s : List api_Param) (f : api_Param → Option Bool) : Option Bool :=
  (ZF s f).bind fun y =>
  some (decide (0 ≤ y))

noncomputable def X9 (q : api_Param) (c0 : api_Param) : Option Bool :=
  some (decide (q.Name = c0.Name))

noncomputable def Xc (m : api_Map) (i : Int) : Option ((Int) ⊕ (Int × Int) ⊕ (Unit)) :=
  if (decide (i < (m.Params.length : Int))) = true then
  (idx m.Params i).bind fun x =>
  (QJ x).bind fun y2 =>
  if (!decide (y2 = 0)) = true then
  some (.inr (.inl (i, y2)))
  else
  (slc m.Params 0 i).bind fun l =>
  (Zw l (fun z0 => X9 z0 x)).bind fun y3 =>
  if y3 = true then
  some (.inr (.inl (i, 5)))
  else
  some (.inl (i64 (i + 1)))
  else
  some (.inr (.inr ()))

noncomputable def QP (m : api_Map) (cells : Int) (i2 : Int) : Option ((Int × Int) ⊕ (Int × Int) ⊕ (Unit)) :=
  if (decide (i2 < (m.Params.length : Int))) = true then
  (idx m.Params i2).bind fun x2 =>
  (Xk x2).bind fun y4 =>
  if (decide (4000 < (i64 (cells + (i64 ((y4.length : Int) * x2.Times)))))) = true then
  some (.inr (.inl (i2, 3)))
  else
  some (.inl ((i64 (cells + (i64 ((y4.length : Int) * x2.Times)))), (i64 (i2 + 1))))
  else
  some (.inr (.inr ()))

noncomputable def QM (i3 : Int) (y5 : (List api_Cell)) (taken3 : List (layout_bit × Int)) (i4 : Int) : Option (((List (layout_bit × Int)) × Int) ⊕ (Int × Int) ⊕ ((List (layout_bit × Int)))) :=
  if (decide (i4 < (y5.length : Int))) = true then
  (idx y5 i4).bind fun x4 =>
  (Jc taken3 i3 x4.Places).bind fun y6 =>
  if (!y6.1) = true then
  some (.inr (.inl (i3, 5)))
  else
  some (.inl (y6.2, (i64 (i4 + 1))))
  else
  some (.inr (.inr taken3))

noncomputable def QN (m : api_Map) (taken : List (layout_bit × Int)) (i3 : Int) : Option (((List (layout_bit × Int)) × Int) ⊕ (Int × Int) ⊕ (Unit)) :=
  if (decide (i3 < (m.Params.length : Int))) = true then
  (((idx m.Params i3).bind fun x3 =>
  (Qx i3 x3).bind fun y5 =>
  loop (t2 (QM i3 y5)) (taken, 0)) : Option ((Int × Int) ⊕ ((List (layout_bit × Int))))).bind (Sum.elim (fun q' => some (.inr (.inl q'))) (t1 fun (taken2 : List (layout_bit × Int)) =>
  some (.inl (taken2, (i64 (i3 + 1))))))
  else
  some (.inr (.inr ()))

noncomputable def XQ (m : api_Map) : Option (Int × Int) :=
  (ZO m.Version 0 2047).bind fun y =>
  if (!y) = true then
  some ((-1), 9)
  else
  if (decide (200 < (m.Params.length : Int))) = true then
  some ((-1), 3)
  else
  ((loop (t1 (Xc m)) 0) : Option ((Int × Int) ⊕ (Unit))).bind (Sum.elim (fun q' => some q') (t0 (((loop (t2 (QP m)) (0, 0)) : Option ((Int × Int) ⊕ (Unit))).bind (Sum.elim (fun q' => some q') (t0 (((loop (t2 (QN m)) (([] : List (layout_bit × Int)), 0)) : Option ((Int × Int) ⊕ (Unit))).bind (Sum.elim (fun q' => some q') (t0 (some ((-1), 0))))))))))

noncomputable def Jv (m : api_Map) (out2 : List api_Cell) (i : Int) : Option (((List api_Cell) × Int) ⊕ ((List api_Cell))) :=
  if (decide (i < (m.Params.length : Int))) = true then
  (idx m.Params i).bind fun x =>
  (Qx i x).bind fun y =>
  (app out2 y).bind fun l =>
  some (.inl (l, (i64 (i + 1))))
  else
  some (.inr out2)

noncomputable def XN (m : api_Map) : Option (List api_Cell) :=
  ((loop (t2 (Jv m)) ([], 0)) : Option (((List api_Cell)))).bind (t1 fun (out : List api_Cell) =>
  some out)

noncomputable def Q8 (v : Int) : Option Int :=
  some v

noncomputable def Zao (raw : Int) (c0 : Int) : Option (Int × Bool) :=
  some (raw, (decide (raw ≤ c0)))

noncomputable def Qr (high : Int) : Option layout_number :=
  some (layout_number.mk 0 high (Fv.mk (fun z0 => Q8 z0) 36 []) (Fv.mk (fun z0 => Zao z0 high) 38 [.rp [.int .i64 high] 0]))

noncomputable def Xa (c1 : Int) : Option layout_number :=
  (Qr (i64 ((i64 (2 * c1)) - 1))).bind fun y =>
  some y

noncomputable def Q6  : Option layout_number :=
  (Qr 1).bind fun y =>
  some y

noncomputable def Q9 (c1 : api_Param) : Option layout_number :=
  (Qr (i64 ((c1.Names.length : Int) - 1))).bind fun y =>
  some y

noncomputable def Zas (v : Int) (c0 : Int) : Option Int :=
  some (Jq .i64 v (i64 ((i64 (2 * c0)) - 1)))

noncomputable def Xf (raw : Int) (c0 : Int) : Option (Int × Bool) :=
  if (decide (c0 ≤ raw)) = true then
  some ((i64 (raw - (i64 (2 * c0)))), true)
  else
  some (raw, true)

noncomputable def Qq (c0 : Int) : Option layout_number :=
  some (layout_number.mk (i64 (-c0)) (i64 (c0 - 1)) (Fv.mk (fun z0 => Zas z0 c0) 43 [.rp [.int .i64 c0] 0]) (Fv.mk (fun z0 => Xf z0 c0) 44 [.rp [.int .i64 c0] 0]))

noncomputable def Xh (v : Int) (c0 : Int) : Option Int :=
  if (decide (v < 0)) = true then
  some (i64 (c0 - v))
  else
  some v

noncomputable def Xe (raw : Int) (c0 : Int) : Option (Int × Bool) :=
  if (decide (c0 ≤ raw)) = true then
  some ((i64 (c0 - raw)), (decide (c0 < raw)))
  else
  some (raw, true)

noncomputable def Xb (c0 : Int) : Option layout_number :=
  some (layout_number.mk (i64 (1 - c0)) (i64 (c0 - 1)) (Fv.mk (fun z0 => Xh z0 c0) 46 [.rp [.int .i64 c0] 0]) (Fv.mk (fun z0 => Xe z0 c0) 47 [.rp [.int .i64 c0] 0]))

noncomputable def ZV (v2 : Int) (raw2 : Int) (shift : Int) : Option ((Int × Int × Int) ⊕ (Int)) :=
  if (decide (0 < v2)) = true then
  (rem v2 10).bind fun q =>
  (shl .i64 q shift).bind fun q2 =>
  (quo .i64 v2 10).bind fun q3 =>
  some (.inl (q3, (bor .i64 raw2 q2), (i64 (shift + 4))))
  else
  some (.inr raw2)

noncomputable def Xg (v : Int) : Option Int :=
  ((loop (t3 (ZV)) (v, 0, 0)) : Option ((Int))).bind (t1 fun (raw : Int) =>
  some raw)

noncomputable def XR (raw : Int) (v2 : Int) (ok2 : Bool) (shift : Int) : Option ((Int × Bool × Int) ⊕ (Int × Bool)) :=
  if (decide (0 ≤ shift)) = true then
  (shr .i64 raw shift).bind fun q =>
  some (.inl ((i64 ((i64 (v2 * 10)) + (Jq .i64 q 15))), (ok2 && (decide ((Jq .i64 q 15) < 10))), (i64 (shift - 4))))
  else
  some (.inr (v2, ok2))

noncomputable def JZ (raw : Int) : Option (Int × Bool) :=
  ((loop (t3 (XR raw)) (0, true, 60)) : Option ((Int × Bool))).bind (t2 fun (v : Int) (ok : Bool) =>
  some (v, ok))

noncomputable def J3 (q : Int) (high2 : Int) (i : Int) : Option ((Int × Int) ⊕ (Int)) :=
  if (decide (i < q)) = true then
  some (.inl ((i64 (high2 * 10)), (i64 (i + 1))))
  else
  some (.inr high2)

noncomputable def QI (c0 : Int) : Option layout_number :=
  (((quo .i64 c0 4).bind fun q =>
  loop (t2 (J3 q)) (1, 0)) : Option ((Int))).bind (t1 fun (high : Int) =>
  some (layout_number.mk 0 (i64 (high - 1)) (Fv.mk (fun z0 => Xg z0) 49 []) (Fv.mk (fun z0 => JZ z0) 50 [])))

noncomputable def Qb (p : api_Param) : Option layout_number :=
  (Qv p).bind fun y =>
  (shl .i64 1 (i64 (y - 1))).bind fun q =>
  if decide (p.Kind = 1) = true then
  (Xa q).bind fun y2 =>
  some y2
  else
  if decide (p.Kind = 5) = true then
  (Q6).bind fun y3 =>
  some y3
  else
  if decide (p.Kind = 6) = true then
  (Q9 p).bind fun y4 =>
  some y4
  else
  if decide (p.Kind = 2) = true then
  (Qq q).bind fun y5 =>
  some y5
  else
  if decide (p.Kind = 3) = true then
  (Xb q).bind fun y6 =>
  some y6
  else
  if decide (p.Kind = 4) = true then
  (QI y).bind fun y7 =>
  some y7
  else
  none

noncomputable def Q3 (m : api_Map) (out2 : Vector (List Int) 16) (i : Int) : Option (((Vector (List Int) 16) × Int) ⊕ ((Vector (List Int) 16))) :=
  if (decide (i < 16)) = true then
  (mks 58 0).bind fun l2 =>
  (ZJ out2 i).bind fun x =>
  (ZJ (ZU out2 i l2) i).bind fun l3 =>
  (ZJ (ZU out2 i l2) i).bind fun x2 =>
  (idx l3 0).bind fun x3 =>
  some (.inl ((ZU (ZU out2 i l2) i (l3.set (Int.toNat 0) m.Version)), (i64 (i + 1))))
  else
  some (.inr out2)

noncomputable def Xu (x4 : api_Cell) (y5 : Int) (out6 : Vector (List Int) 16) (left : Int) (i3 : Int) : Option (((Vector (List Int) 16) × Int × Int) ⊕ ((Vector (List Int) 16))) :=
  if (decide (i3 < (x4.Places.length : Int))) = true then
  (idx x4.Places i3).bind fun x9 =>
  (ZJ out6 x9.Frame).bind fun l4 =>
  (ZJ out6 x9.Frame).bind fun x10 =>
  (idx l4 (i64 (x9.Word - 3))).bind fun x11 =>
  (shr .i64 y5 (i64 (left - x9.Bits))).bind fun q =>
  (shl .i64 1 x9.Bits).bind fun q2 =>
  (shl .i64 (Jq .i64 q (i64 (q2 - 1))) x9.Low).bind fun q3 =>
  (idx l4 (i64 (x9.Word - 3))).bind fun x12 =>
  some (.inl ((ZU out6 x9.Frame (l4.set (i64 (x9.Word - 3)).toNat (bor .i64 x11 q3))), (i64 (left - x9.Bits)), (i64 (i3 + 1))))
  else
  some (.inr out6)

noncomputable def Q4 (m : api_Map) (l : List Int) (y2 : (List api_Cell)) (out4 : Vector (List Int) 16) (i2 : Int) : Option (((Vector (List Int) 16) × Int) ⊕ ((Vector (List Int) 16) × Int) ⊕ ((Vector (List Int) 16))) :=
  if (decide (i2 < (y2.length : Int))) = true then
  (((idx y2 i2).bind fun x4 =>
  (idx m.Params x4.Param).bind fun x5 =>
  (Qb x5).bind fun y3 =>
  (idx l i2).bind fun x6 =>
  (ZO x6 y3.low y3.high).bind fun y4 =>
  if (!y4) = true then
  some (.inl ((Vector.replicate 16 []), 9))
  else
  (idx l i2).bind fun x7 =>
  (y3.encode.fn x7).bind fun y5 =>
  (idx m.Params x4.Param).bind fun x8 =>
  (Qv x8).bind fun y6 =>
  (loop (t3 (Xu x4 y5)) (out4, y6, 0)).bind (fun q' => some (.inr q'))) : Option (((Vector (List Int) 16) × Int) ⊕ ((Vector (List Int) 16)))).bind (Sum.elim (fun q' => some (.inr (.inl q'))) (t1 fun (out5 : Vector (List Int) 16) =>
  some (.inl (out5, (i64 (i2 + 1))))))
  else
  some (.inr (.inr out4))

noncomputable def Jd (m : api_Map) (l : List Int) : Option ((Vector (List Int) 16) × Int) :=
  (XQ m).bind fun y =>
  if (!decide (y.2 = 0)) = true then
  some ((Vector.replicate 16 []), y.2)
  else
  (XN m).bind fun y2 =>
  if (!decide ((l.length : Int) = (y2.length : Int))) = true then
  some ((Vector.replicate 16 []), 3)
  else
  ((loop (t2 (Q3 m)) ((Vector.replicate 16 []), 0)) : Option (((Vector (List Int) 16)))).bind (t1 fun (out : Vector (List Int) 16) =>
  ((loop (t2 (Q4 m l y2)) (out, 0)) : Option (((Vector (List Int) 16) × Int) ⊕ ((Vector (List Int) 16)))).bind (Sum.elim (fun q' => some q') (t1 fun (out3 : Vector (List Int) 16) =>
  some (out3, 0))))

noncomputable def Zb0 (x : Int) : Option Int :=
  (shr .u16 x 8).bind fun q =>
  (Zh3 [0, 1, 1, 2, 1, 2, 2, 3, 1, 2, 2, 3, 2, 3, 3, 4, 1, 2, 2, 3, 2, 3, 3, 4, 2, 3, 3, 4, 3, 4, 4, 5, 1, 2, 2, 3, 2, 3, 3, 4, 2, 3, 3, 4, 3, 4, 4, 5, 2, 3, 3, 4, 3, 4, 4, 5, 3, 4, 4, 5, 4, 5, 5, 6, 1, 2, 2, 3, 2, 3, 3, 4, 2, 3, 3, 4, 3, 4, 4, 5, 2, 3, 3, 4, 3, 4, 4, 5, 3, 4, 4, 5, 4, 5, 5, 6, 2, 3, 3, 4, 3, 4, 4, 5, 3, 4, 4, 5, 4, 5, 5, 6, 3, 4, 4, 5, 4, 5, 5, 6, 4, 5, 5, 6, 5, 6, 6, 7, 1, 2, 2, 3, 2, 3, 3, 4, 2, 3, 3, 4, 3, 4, 4, 5, 2, 3, 3, 4, 3, 4, 4, 5, 3, 4, 4, 5, 4, 5, 5, 6, 2, 3, 3, 4, 3, 4, 4, 5, 3, 4, 4, 5, 4, 5, 5, 6, 3, 4, 4, 5, 4, 5, 5, 6, 4, 5, 5, 6, 5, 6, 6, 7, 2, 3, 3, 4, 3, 4, 4, 5, 3, 4, 4, 5, 4, 5, 5, 6, 3, 4, 4, 5, 4, 5, 5, 6, 4, 5, 5, 6, 5, 6, 6, 7, 3, 4, 4, 5, 4, 5, 5, 6, 4, 5, 5, 6, 5, 6, 6, 7, 4, 5, 5, 6, 5, 6, 6, 7, 5, 6, 6, 7, 6, 7, 7, 8] q).bind fun b =>
  (Zh3 [0, 1, 1, 2, 1, 2, 2, 3, 1, 2, 2, 3, 2, 3, 3, 4, 1, 2, 2, 3, 2, 3, 3, 4, 2, 3, 3, 4, 3, 4, 4, 5, 1, 2, 2, 3, 2, 3, 3, 4, 2, 3, 3, 4, 3, 4, 4, 5, 2, 3, 3, 4, 3, 4, 4, 5, 3, 4, 4, 5, 4, 5, 5, 6, 1, 2, 2, 3, 2, 3, 3, 4, 2, 3, 3, 4, 3, 4, 4, 5, 2, 3, 3, 4, 3, 4, 4, 5, 3, 4, 4, 5, 4, 5, 5, 6, 2, 3, 3, 4, 3, 4, 4, 5, 3, 4, 4, 5, 4, 5, 5, 6, 3, 4, 4, 5, 4, 5, 5, 6, 4, 5, 5, 6, 5, 6, 6, 7, 1, 2, 2, 3, 2, 3, 3, 4, 2, 3, 3, 4, 3, 4, 4, 5, 2, 3, 3, 4, 3, 4, 4, 5, 3, 4, 4, 5, 4, 5, 5, 6, 2, 3, 3, 4, 3, 4, 4, 5, 3, 4, 4, 5, 4, 5, 5, 6, 3, 4, 4, 5, 4, 5, 5, 6, 4, 5, 5, 6, 5, 6, 6, 7, 2, 3, 3, 4, 3, 4, 4, 5, 3, 4, 4, 5, 4, 5, 5, 6, 3, 4, 4, 5, 4, 5, 5, 6, 4, 5, 5, 6, 5, 6, 6, 7, 3, 4, 4, 5, 4, 5, 5, 6, 4, 5, 5, 6, 5, 6, 6, 7, 4, 5, 5, 6, 5, 6, 6, 7, 5, 6, 6, 7, 6, 7, 7, 8] (Jq .u16 x 255)).bind fun b2 =>
  some (i64 (u8 (b + b2)))

noncomputable def Zge (w : Int) : Option Bool :=
  (gd ((decide (w ≤ 4095)) == true) 0 (Zb0 w)).bind fun y =>
  (gd ((decide (w ≤ 4095)) == true) 0 (rem y 2)).bind fun q =>
  some ((decide (w ≤ 4095)) && (decide (q = 1)))

noncomputable def QU (data : Int) : Option Int :=
  (Zge (u16 data)).bind fun y =>
  if (!y) = true then
  some (bor .u16 (u16 data) 2048)
  else
  some (u16 data)

noncomputable def ZaR (w : Int) : Option Int :=
  some (i64 (Jq .u16 w 2047))

noncomputable def J6 (f : Vector Int 64) : Option Int :=
  (ZJ f 1).bind fun x =>
  (ZaR x).bind fun y =>
  (ZJ f 2).bind fun x2 =>
  (ZaR x2).bind fun y2 =>
  (shl .i64 y2 11).bind fun q =>
  some (bor .i64 y q)

def gv_frame_syncs : Vector Int 4 := #v[583, 1464, 2631, 3512]

noncomputable def JU (f : Vector Int 64) (n2 : Int) (i : Int) : Option ((Int × Int) ⊕ (Int)) :=
  if (decide (i < 60)) = true then
  (ZJ f (i64 (i + 1))).bind fun x =>
  (ZaR x).bind fun y =>
  some (.inl ((Zhe .i64 n2 y), (i64 (i + 1))))
  else
  some (.inr n2)

noncomputable def Zca (f : Vector Int 64) : Option Int :=
  ((loop (t2 (JU f)) (0, 0)) : Option ((Int))).bind (t1 fun (n : Int) =>
  some n)

noncomputable def Xs (f : Vector Int 64) (i : Int) (n4 : Int) (k : Int) : Option ((Int × Int) ⊕ (Int)) :=
  if (decide (0 ≤ k)) = true then
  (shl .i64 n4 1).bind fun q =>
  (ZJ f i).bind fun x =>
  (shr .u16 x k).bind fun q2 =>
  if (!((!decide ((Jq .i64 n4 2097152) = 0)) == (decide ((Jq .u16 q2 1) = 1)))) = true then
  some (.inl ((Zhe .i64 (Jq .i64 q 4194303) 2097167), (i64 (k - 1))))
  else
  some (.inl ((Jq .i64 q 4194303), (i64 (k - 1))))
  else
  some (.inr n4)

noncomputable def X5 (f : Vector Int 64) (n2 : Int) (i : Int) : Option ((Int × Int) ⊕ (Int)) :=
  if (decide (i < 62)) = true then
  ((loop (t2 (Xs f i)) (n2, 11)) : Option ((Int))).bind (t1 fun (n3 : Int) =>
  some (.inl (n3, (i64 (i + 1)))))
  else
  some (.inr n2)

noncomputable def ZaJ (f : Vector Int 64) : Option Int :=
  ((loop (t2 (X5 f)) (0, 0)) : Option ((Int))).bind (t1 fun (n : Int) =>
  some n)

noncomputable def Zbb (f : Vector Int 64) : Option (Vector Int 64) :=
  (J6 f).bind fun y =>
  (rem y 4).bind fun q =>
  (ZJ gv_frame_syncs q).bind fun x =>
  (ZJ f 0).bind fun x2 =>
  (Zca (ZU f 0 x)).bind fun y2 =>
  (QU y2).bind fun y3 =>
  (ZJ (ZU f 0 x) 61).bind fun x3 =>
  (ZaJ (ZU (ZU f 0 x) 61 y3)).bind fun y4 =>
  (shr .i64 y4 11).bind fun q2 =>
  (QU q2).bind fun y5 =>
  (QU (Jq .i64 y4 2047)).bind fun y6 =>
  (ZJ (ZU (ZU f 0 x) 61 y3) 62).bind fun x4 =>
  (ZJ (ZU (ZU (ZU f 0 x) 61 y3) 62 y5) 63).bind fun x5 =>
  some (ZU (ZU (ZU (ZU f 0 x) 61 y3) 62 y5) 63 y6)

noncomputable def Zac (data : List Int) (f2 : Vector Int 64) (i : Int) : Option (((Vector Int 64) × Int) ⊕ ((Vector Int 64) × Int) ⊕ ((Vector Int 64))) :=
  if (decide (i < (data.length : Int))) = true then
  (idx data i).bind fun x3 =>
  if ((decide (x3 < 0)) || (decide (2047 < x3))) = true then
  some (.inr (.inl ((#v[0, 0, 0, 0, 0, 0, 0, 0, 0, 0, 0, 0, 0, 0, 0, 0, 0, 0, 0, 0, 0, 0, 0, 0, 0, 0, 0, 0, 0, 0, 0, 0, 0, 0, 0, 0, 0, 0, 0, 0, 0, 0, 0, 0, 0, 0, 0, 0, 0, 0, 0, 0, 0, 0, 0, 0, 0, 0, 0, 0, 0, 0, 0, 0] : Vector Int 64), 9)))
  else
  (QU x3).bind fun y3 =>
  (ZJ f2 (i64 (3 + i))).bind fun x4 =>
  some (.inl ((ZU f2 (i64 (3 + i)) y3), (i64 (i + 1))))
  else
  some (.inr (.inr f2))

noncomputable def Zai (number : Int) (data : List Int) : Option ((Vector Int 64) × Int) :=
  if ((decide (number < 0)) || (decide (4194304 ≤ number))) = true then
  some ((#v[0, 0, 0, 0, 0, 0, 0, 0, 0, 0, 0, 0, 0, 0, 0, 0, 0, 0, 0, 0, 0, 0, 0, 0, 0, 0, 0, 0, 0, 0, 0, 0, 0, 0, 0, 0, 0, 0, 0, 0, 0, 0, 0, 0, 0, 0, 0, 0, 0, 0, 0, 0, 0, 0, 0, 0, 0, 0, 0, 0, 0, 0, 0, 0] : Vector Int 64), 9)
  else
  if (!decide ((data.length : Int) = 58)) = true then
  some ((#v[0, 0, 0, 0, 0, 0, 0, 0, 0, 0, 0, 0, 0, 0, 0, 0, 0, 0, 0, 0, 0, 0, 0, 0, 0, 0, 0, 0, 0, 0, 0, 0, 0, 0, 0, 0, 0, 0, 0, 0, 0, 0, 0, 0, 0, 0, 0, 0, 0, 0, 0, 0, 0, 0, 0, 0, 0, 0, 0, 0, 0, 0, 0, 0] : Vector Int 64), 3)
  else
  (QU (Jq .i64 number 2047)).bind fun y =>
  (shr .i64 number 11).bind fun q =>
  (QU q).bind fun y2 =>
  (ZJ (Vector.replicate 64 (0 : Int)) 1).bind fun x =>
  (ZJ (ZU (Vector.replicate 64 0) 1 y) 2).bind fun x2 =>
  ((loop (t2 (Zac data)) ((ZU (ZU (Vector.replicate 64 0) 1 y) 2 y2), 0)) : Option (((Vector Int 64) × Int) ⊕ ((Vector Int 64)))).bind (Sum.elim (fun q' => some q') (t1 fun (f : Vector Int 64) =>
  (Zbb f).bind fun y4 =>
  some (y4, 0)))

noncomputable def XM (first : Int) (y : (Vector (List Int) 16) × Int) (out2 : Vector (Vector Int 64) 16) (i : Int) : Option (((Vector (Vector Int 64) 16) × Int) ⊕ ((Vector (Vector Int 64) 16))) :=
  if (decide (i < 16)) = true then
  (ZJ y.1 i).bind fun x =>
  (Zai (i64 (first + i)) x).bind fun y3 =>
  (ZJ out2 i).bind fun x2 =>
  some (.inl ((ZU out2 i y3.1), (i64 (i + 1))))
  else
  some (.inr out2)

noncomputable def Zby (m : api_Map) (first : Int) (l : List Int) : Option ((Vector (Vector Int 64) 16) × Int) :=
  (Jd m l).bind fun y =>
  if (!decide (y.2 = 0)) = true then
  some ((Vector.replicate 16 (Vector.replicate 64 0)), y.2)
  else
  (ZO first 0 4194288).bind fun y2 =>
  if (!y2) = true then
  some ((Vector.replicate 16 (Vector.replicate 64 0)), 9)
  else
  (rem first 16).bind fun q =>
  if (!decide (q = 0)) = true then
  some ((Vector.replicate 16 (Vector.replicate 64 0)), 2)
  else
  ((loop (t2 (XM first y)) ((Vector.replicate 16 (Vector.replicate 64 0)), 0)) : Option (((Vector (Vector Int 64) 16)))).bind (t1 fun (out : Vector (Vector Int 64) 16) =>
  some (out, 0))

noncomputable def Z7 (n : Int) (low : Int) (high : Int) : Option Bool :=
  some ((decide (n < low)) || (decide (high < n)))

noncomputable def Ja (s : Str) (i : Int) : Option ((Int) ⊕ (Bool) ⊕ (Unit)) :=
  if (decide (i < (s.length : Int))) = true then
  (Zh3 s i).bind fun b =>
  if (!(((decide (97 ≤ b)) && (decide (b ≤ 122))) || ((decide (0 < i)) && (((decide (48 ≤ b)) && (decide (b ≤ 57))) || (decide (b = 45)))))) = true then
  some (.inr (.inl false))
  else
  some (.inl (i64 (i + 1)))
  else
  some (.inr (.inr ()))

noncomputable def Za7 (s : Str) : Option Bool :=
  ((loop (t1 (Ja s)) 0) : Option ((Bool) ⊕ (Unit))).bind (Sum.elim (fun q' => some q') (t0 (some ((decide (1 ≤ (s.length : Int))) && (decide ((s.length : Int) ≤ 30))))))

noncomputable def Zf2 (p : api_Param) (n2 : Int) (i : Int) : Option ((Int × Int) ⊕ (Int)) :=
  if (decide (i < (p.Parts.length : Int))) = true then
  (idx p.Parts i).bind fun x =>
  some (.inl ((i64 (n2 + x.Bits)), (i64 (i + 1))))
  else
  some (.inr n2)

noncomputable def Za5 (p : api_Param) : Option Int :=
  ((loop (t2 (Zf2 p)) (0, 0)) : Option ((Int))).bind (t1 fun (n : Int) =>
  some n)

noncomputable def Ji (p : api_Param) (i : Int) : Option ((Int) ⊕ (Int) ⊕ (Unit)) :=
  if (decide (i < (p.Parts.length : Int))) = true then
  (idx p.Parts i).bind fun x =>
  (Z7 x.Frame 0 15).bind fun y =>
  (gd (y == false) false (Z7 x.Word 4 60)).bind fun y2 =>
  (gd ((y || y2) == false) false (Z7 x.Low 0 10)).bind fun y3 =>
  (gd (((y || y2) || y3) == false) false (Z7 x.Bits 1 (i64 (11 - x.Low)))).bind fun y4 =>
  if (((y || y2) || y3) || y4) = true then
  some (.inr (.inl 9))
  else
  some (.inl (i64 (i + 1)))
  else
  some (.inr (.inr ()))

noncomputable def Jx (p : api_Param) : Option Int :=
  if (decide ((p.Parts.length : Int) = 0)) = true then
  some 13
  else
  if (decide (8 < (p.Parts.length : Int))) = true then
  some 3
  else
  ((loop (t1 (Ji p)) 0) : Option ((Int) ⊕ (Unit))).bind (Sum.elim (fun q' => some q') (t0 ((Za5 p).bind fun y5 =>
  if (decide (40 < y5)) = true then
  some 3
  else
  some 0)))

noncomputable def Xv (p : api_Param) (i : Int) : Option ((Int) ⊕ (Int) ⊕ (Unit)) :=
  if (decide (i < (p.Parts.length : Int))) = true then
  (idx p.Parts i).bind fun x =>
  if (((decide (1 < p.Times)) && (decide (57 < p.Step))) || (decide (60 < (i64 (x.Word + (i64 ((i64 (p.Times - 1)) * p.Step))))))) = true then
  some (.inr (.inl 9))
  else
  some (.inl (i64 (i + 1)))
  else
  some (.inr (.inr ()))

noncomputable def Jy (p : api_Param) : Option Int :=
  ((if (decide (p.Every = 1)) = true then
  if (decide (p.Every = 1)) = true then
  some (.inr ())
  else
  some (.inl 9)
  else
  if (decide (p.Every = 2)) = true then
  if (decide (p.Every = 2)) = true then
  some (.inr ())
  else
  some (.inl 9)
  else
  if (decide (p.Every = 4)) = true then
  if (decide (p.Every = 4)) = true then
  some (.inr ())
  else
  some (.inl 9)
  else
  if (decide (p.Every = 8)) = true then
  if (decide (p.Every = 8)) = true then
  some (.inr ())
  else
  some (.inl 9)
  else
  if (decide (p.Every = 16)) = true then
  some (.inr ())
  else
  some (.inl 9)) : Option ((Int) ⊕ (Unit))).bind (Sum.elim (fun q' => some q') (t0 ((Z7 p.First 0 (i64 (p.Every - 1))).bind fun y =>
  (gd (y == false) false (Z7 p.Times 1 57)).bind fun y2 =>
  if (((y || y2) || (decide (p.Step < 0))) || (!((decide (p.Step = 0)) == (decide (p.Times = 1))))) = true then
  some 9
  else
  ((loop (t1 (Xv p)) 0) : Option ((Int) ⊕ (Unit))).bind (Sum.elim (fun q' => some q') (t0 (some 0))))))

noncomputable def XO (x : Str) (l : List Str) (i2 : Int) : Option ((Int) ⊕ (Int) ⊕ (Unit)) :=
  if (decide (i2 < (l.length : Int))) = true then
  (idx l i2).bind fun x2 =>
  if (decide (x = x2)) = true then
  some (.inr (.inl 5))
  else
  some (.inl (i64 (i2 + 1)))
  else
  some (.inr (.inr ()))

noncomputable def XP (p : api_Param) (i : Int) : Option ((Int) ⊕ (Int) ⊕ (Unit)) :=
  if (decide (i < (p.Names.length : Int))) = true then
  (((idx p.Names i).bind fun x =>
  (Za7 x).bind fun y2 =>
  if (!y2) = true then
  some (.inl 8)
  else
  (slc p.Names 0 i).bind fun l =>
  loop (t1 (XO x l)) 0) : Option ((Int) ⊕ (Unit))).bind (Sum.elim (fun q' => some (.inr (.inl q'))) (t0 (some (.inl (i64 (i + 1))))))
  else
  some (.inr (.inr ()))

noncomputable def J8 (p : api_Param) : Option Int :=
  (Za5 p).bind fun y =>
  (gd ((decide (p.Kind = 4)) == true) 0 (rem y 4)).bind fun q =>
  if ((((decide (p.Kind = 4)) && (!decide (q = 0))) || ((decide (p.Kind = 5)) && (!decide (y = 1)))) || (((decide (p.Kind = 2)) || (decide (p.Kind = 3))) && (decide (y = 1)))) = true then
  some 2
  else
  if (!decide (p.Kind = 6)) = true then
  if (decide (0 < (p.Names.length : Int))) = true then
  some 2
  else
  some 0
  else
  if (decide ((p.Names.length : Int) = 0)) = true then
  some 13
  else
  (gd ((decide (64 < (p.Names.length : Int))) == false) 0 (shl .i64 1 y)).bind fun q2 =>
  if ((decide (64 < (p.Names.length : Int))) || (decide (q2 < (p.Names.length : Int)))) = true then
  some 3
  else
  ((loop (t1 (XP p)) 0) : Option ((Int) ⊕ (Unit))).bind (Sum.elim (fun q' => some q') (t0 (some 0)))

noncomputable def JC (p : api_Param) (f : Int) (inside2 : Bool) (i : Int) : Option ((Bool × Int) ⊕ (Bool)) :=
  if (decide (i < (p.Parts.length : Int))) = true then
  (idx p.Parts i).bind fun x =>
  some (.inl ((inside2 && (decide ((i64 (f + x.Frame)) < 16))), (i64 (i + 1))))
  else
  some (.inr inside2)

noncomputable def Zb6 (p : api_Param) (f : Int) (j : Int) (Places2 : List api_Place) (i2 : Int) : Option (((List api_Place) × Int) ⊕ ((List api_Place))) :=
  if (decide (i2 < (p.Parts.length : Int))) = true then
  (idx p.Parts i2).bind fun x2 =>
  (app Places2 ([(api_Place.mk (i64 (f + x2.Frame)) (i64 (x2.Word + (i64 (j * p.Step)))) x2.Low x2.Bits)] : List api_Place)).bind fun l =>
  some (.inl (l, (i64 (i2 + 1))))
  else
  some (.inr Places2)

noncomputable def JD (p : api_Param) (number : Int) (f : Int) (JH : Bool) (out4 : List api_Cell) (j : Int) : Option (((List api_Cell) × Int) ⊕ ((List api_Cell))) :=
  if ((decide (j < p.Times)) && JH) = true then
  ((loop (t2 (Zb6 p f j)) ([], 0)) : Option (((List api_Place)))).bind (t1 fun (Places : List api_Place) =>
  (app out4 ([(api_Cell.mk number (out4.length : Int) f Places)] : List api_Cell)).bind fun l2 =>
  some (.inl (l2, (i64 (j + 1)))))
  else
  some (.inr out4)

noncomputable def Xo (p : api_Param) (number : Int) (out2 : List api_Cell) (f : Int) : Option (((List api_Cell) × Int) ⊕ ((List api_Cell))) :=
  if (decide (f < 16)) = true then
  ((((loop (t2 (JC p f)) (true, 0)) : Option ((Bool))).bind (t1 fun (JH : Bool) =>
  loop (t2 (JD p number f JH)) (out2, 0))) : Option (((List api_Cell)))).bind (t1 fun (out3 : List api_Cell) =>
  some (.inl (out3, (i64 (f + p.Every)))))
  else
  some (.inr out2)

noncomputable def Jn (p : api_Param) (number : Int) : Option (List api_Cell) :=
  ((loop (t2 (Xo p number)) ([], p.First)) : Option (((List api_Cell)))).bind (t1 fun (out : List api_Cell) =>
  some out)

noncomputable def QY (x : api_Place) (o4 : List ((Vector Int 3) × Bool)) (ok4 : Bool) (b : Int) : Option (((List ((Vector Int 3) × Bool)) × Bool × Int) ⊕ ((List ((Vector Int 3) × Bool)) × Bool)) :=
  if (decide (b < (i64 (x.Low + x.Bits)))) = true then
  (gd (ok4 == true) false (some ((Zce kqV o4 (#v[x.Frame, x.Word, b] : Vector Int 3)).getD false))).bind fun o5 =>
  some (.inl ((ZeO kqV o4 (#v[x.Frame, x.Word, b] : Vector Int 3) true), (ok4 && (!o5)), (i64 (b + 1))))
  else
  some (.inr (o4, ok4))

noncomputable def QX (l : List api_Place) (o2 : List ((Vector Int 3) × Bool)) (ok2 : Bool) (i : Int) : Option (((List ((Vector Int 3) × Bool)) × Bool × Int) ⊕ ((List ((Vector Int 3) × Bool)) × Bool)) :=
  if (decide (i < (l.length : Int))) = true then
  (((idx l i).bind fun x =>
  loop (t3 (QY x)) (o2, ok2, x.Low)) : Option (((List ((Vector Int 3) × Bool)) × Bool))).bind (t2 fun (o3 : List ((Vector Int 3) × Bool)) (ok3 : Bool) =>
  some (.inl (o3, ok3, (i64 (i + 1)))))
  else
  some (.inr (o2, ok2))

noncomputable def Ju (t : List ((Vector Int 3) × Bool)) (l : List api_Place) : Option (Bool × (List ((Vector Int 3) × Bool))) :=
  ((loop (t3 (QX l)) (t, true, 0)) : Option (((List ((Vector Int 3) × Bool)) × Bool))).bind (t2 fun (o : List ((Vector Int 3) × Bool)) (ok : Bool) =>
  some (ok, o))

noncomputable def Qu (l : List api_Cell) (o2 : List ((Vector Int 3) × Bool)) (ok2 : Bool) (i : Int) : Option (((List ((Vector Int 3) × Bool)) × Bool × Int) ⊕ ((List ((Vector Int 3) × Bool)) × Bool)) :=
  if (decide (i < (l.length : Int))) = true then
  (idx l i).bind fun x =>
  (Ju o2 x.Places).bind fun y =>
  if (!y.1) = true then
  some (.inl (y.2, false, (i64 (i + 1))))
  else
  some (.inl (y.2, ok2, (i64 (i + 1))))
  else
  some (.inr (o2, ok2))

noncomputable def QW (t : List ((Vector Int 3) × Bool)) (l : List api_Cell) : Option (Bool × (List ((Vector Int 3) × Bool))) :=
  ((loop (t3 (Qu l)) (t, true, 0)) : Option (((List ((Vector Int 3) × Bool)) × Bool))).bind (t2 fun (o : List ((Vector Int 3) × Bool)) (ok : Bool) =>
  some (ok, o))

noncomputable def Jz (p : api_Param) : Option Int :=
  (Za7 p.Name).bind fun y =>
  if (!y) = true then
  some 8
  else
  (Z7 p.Kind 1 6).bind fun y2 =>
  if y2 = true then
  some 7
  else
  (Jx p).bind fun y3 =>
  if (!decide (y3 = 0)) = true then
  some y3
  else
  (Jy p).bind fun y4 =>
  if (!decide (y4 = 0)) = true then
  some y4
  else
  (J8 p).bind fun y5 =>
  if (!decide (y5 = 0)) = true then
  some y5
  else
  (Jn p 0).bind fun y6 =>
  (QW ([] : List ((Vector Int 3) × Bool)) y6).bind fun y7 =>
  if (!y7.1) = true then
  some 5
  else
  if (decide ((y6.length : Int) = 0)) = true then
  some 13
  else
  some 0

noncomputable def ZaE (i : Int) (x : api_Param) (l : List api_Param) (i2 : Int) : Option ((Int) ⊕ (Int × Int) ⊕ (Unit)) :=
  if (decide (i2 < (l.length : Int))) = true then
  (idx l i2).bind fun x2 =>
  if (decide (x2.Name = x.Name)) = true then
  some (.inr (.inl (i, 5)))
  else
  some (.inl (i64 (i2 + 1)))
  else
  some (.inr (.inr ()))

noncomputable def ZaD (m : api_Map) (i : Int) : Option ((Int) ⊕ (Int × Int) ⊕ (Unit)) :=
  if (decide (i < (m.Params.length : Int))) = true then
  (((idx m.Params i).bind fun x =>
  (Jz x).bind fun y2 =>
  if (!decide (y2 = 0)) = true then
  some (.inl (i, y2))
  else
  (slc m.Params 0 i).bind fun l =>
  loop (t1 (ZaE i x l)) 0) : Option ((Int × Int) ⊕ (Unit))).bind (Sum.elim (fun q' => some (.inr (.inl q'))) (t0 (some (.inl (i64 (i + 1))))))
  else
  some (.inr (.inr ()))

noncomputable def JA (m : api_Map) (n : Int) (i3 : Int) : Option ((Int × Int) ⊕ (Int × Int) ⊕ (Unit)) :=
  if (decide (i3 < (m.Params.length : Int))) = true then
  (idx m.Params i3).bind fun x3 =>
  (Jn x3 i3).bind fun y3 =>
  if (decide (4000 < (i64 (n + (y3.length : Int))))) = true then
  some (.inr (.inl (i3, 3)))
  else
  some (.inl ((i64 (n + (y3.length : Int))), (i64 (i3 + 1))))
  else
  some (.inr (.inr ()))

noncomputable def JB (m : api_Map) (t : List ((Vector Int 3) × Bool)) (i4 : Int) : Option (((List ((Vector Int 3) × Bool)) × Int) ⊕ (Int × Int) ⊕ (Unit)) :=
  if (decide (i4 < (m.Params.length : Int))) = true then
  (idx m.Params i4).bind fun x4 =>
  (Jn x4 i4).bind fun y4 =>
  (QW t y4).bind fun y5 =>
  if (!y5.1) = true then
  some (.inr (.inl (i4, 5)))
  else
  some (.inl (y5.2, (i64 (i4 + 1))))
  else
  some (.inr (.inr ()))

noncomputable def ZcM (m : api_Map) : Option (Int × Int) :=
  (Z7 m.Version 0 2047).bind fun y =>
  if y = true then
  some (0, 9)
  else
  if (decide (200 < (m.Params.length : Int))) = true then
  some (0, 3)
  else
  ((loop (t1 (ZaD m)) 0) : Option ((Int × Int) ⊕ (Unit))).bind (Sum.elim (fun q' => some q') (t0 (((loop (t2 (JA m)) (0, 0)) : Option ((Int × Int) ⊕ (Unit))).bind (Sum.elim (fun q' => some q') (t0 (((loop (t2 (JB m)) (([] : List ((Vector Int 3) × Bool)), 0)) : Option ((Int × Int) ⊕ (Unit))).bind (Sum.elim (fun q' => some q') (t0 (some (0, 0))))))))))

noncomputable def ZbW (m : api_Map) (out2 : List api_Cell) (i : Int) : Option (((List api_Cell) × Int) ⊕ ((List api_Cell))) :=
  if (decide (i < (m.Params.length : Int))) = true then
  (idx m.Params i).bind fun x =>
  (Jn x i).bind fun y =>
  (app out2 y).bind fun l =>
  some (.inl (l, (i64 (i + 1))))
  else
  some (.inr out2)

noncomputable def ZaA (m : api_Map) : Option (List api_Cell) :=
  ((loop (t2 (ZbW m)) ([], 0)) : Option (((List api_Cell)))).bind (t1 fun (out : List api_Cell) =>
  some out)

noncomputable def Zcp (k : Int) (n2 : Int) (i : Int) : Option ((Int × Int) ⊕ (Int)) :=
  if (decide (i < k)) = true then
  some (.inl ((i64 (n2 * 10)), (i64 (i + 1))))
  else
  some (.inr n2)

noncomputable def Zct (k : Int) : Option Int :=
  ((loop (t2 (Zcp k)) (1, 0)) : Option ((Int))).bind (t1 fun (n : Int) =>
  some n)

noncomputable def Zci (p : api_Param) : Option (Int × Int) :=
  (Za5 p).bind fun y =>
  if (decide (p.Kind = 2)) = true then
  (shl .i64 1 (i64 (y - 1))).bind fun q =>
  (shl .i64 1 (i64 (y - 1))).bind fun q2 =>
  some ((i64 (-q)), (i64 (q2 - 1)))
  else
  if (decide (p.Kind = 3)) = true then
  (shl .i64 1 (i64 (y - 1))).bind fun q3 =>
  (shl .i64 1 (i64 (y - 1))).bind fun q4 =>
  some ((i64 (-(i64 (q3 - 1)))), (i64 (q4 - 1)))
  else
  if (decide (p.Kind = 4)) = true then
  (quo .i64 y 4).bind fun q5 =>
  (Zct q5).bind fun y2 =>
  some (0, (i64 (y2 - 1)))
  else
  if (decide (p.Kind = 6)) = true then
  some (0, (i64 ((p.Names.length : Int) - 1)))
  else
  (shl .i64 1 y).bind fun q6 =>
  some (0, (i64 (q6 - 1)))

noncomputable def Xx (y : Int) (v2 : Int) (raw2 : Int) (k : Int) : Option ((Int × Int × Int) ⊕ (Int)) :=
  if (decide (k < y)) = true then
  (rem v2 10).bind fun q3 =>
  (shl .i64 q3 k).bind fun q4 =>
  (quo .i64 v2 10).bind fun q5 =>
  some (.inl (q5, (i64 (raw2 + q4)), (i64 (k + 4))))
  else
  some (.inr raw2)

noncomputable def Zcc (p : api_Param) (v : Int) : Option Int :=
  (Za5 p).bind fun y =>
  if (decide (p.Kind = 2)) = true then
  if (decide (v < 0)) = true then
  (shl .i64 1 y).bind fun q =>
  some (i64 (q + v))
  else
  some v
  else
  if (decide (p.Kind = 3)) = true then
  if (decide (v < 0)) = true then
  (shl .i64 1 (i64 (y - 1))).bind fun q2 =>
  some (i64 (q2 - v))
  else
  some v
  else
  if (decide (p.Kind = 4)) = true then
  ((loop (t3 (Xx y)) (v, 0, 0)) : Option ((Int))).bind (t1 fun (raw : Int) =>
  some raw)
  else
  some v

noncomputable def Zad (m : api_Map) (l : List Int) (y2 : (List api_Cell)) (i : Int) : Option ((Int) ⊕ ((Vector (List Int) 16) × Int) ⊕ (Unit)) :=
  if (decide (i < (y2.length : Int))) = true then
  (idx y2 i).bind fun x =>
  (idx m.Params x.Param).bind fun x2 =>
  (Zci x2).bind fun y3 =>
  (idx l i).bind fun x3 =>
  (Z7 x3 y3.1 y3.2).bind fun y4 =>
  if y4 = true then
  some (.inr (.inl ((Vector.replicate 16 []), 9)))
  else
  some (.inl (i64 (i + 1)))
  else
  some (.inr (.inr ()))

noncomputable def ZdD (m : api_Map) (out2 : Vector (List Int) 16) (i2 : Int) : Option (((Vector (List Int) 16) × Int) ⊕ ((Vector (List Int) 16))) :=
  if (decide (i2 < 16)) = true then
  (mks 58 0).bind fun l2 =>
  (ZJ out2 i2).bind fun x4 =>
  (ZJ (ZU out2 i2 l2) i2).bind fun l3 =>
  (ZJ (ZU out2 i2 l2) i2).bind fun x5 =>
  (idx l3 0).bind fun x6 =>
  some (.inl ((ZU (ZU out2 i2 l2) i2 (l3.set (Int.toNat 0) m.Version)), (i64 (i2 + 1))))
  else
  some (.inr out2)

noncomputable def Zbw (x7 : api_Cell) (y5 : Int) (out6 : Vector (List Int) 16) (left : Int) (i4 : Int) : Option (((Vector (List Int) 16) × Int × Int) ⊕ ((Vector (List Int) 16))) :=
  if (decide (i4 < (x7.Places.length : Int))) = true then
  (idx x7.Places i4).bind fun x10 =>
  (ZJ out6 x10.Frame).bind fun l4 =>
  (ZJ out6 x10.Frame).bind fun x11 =>
  (idx l4 (i64 (x10.Word - 3))).bind fun x12 =>
  (shr .i64 y5 (i64 (left - x10.Bits))).bind fun q =>
  (shl .i64 1 x10.Bits).bind fun q2 =>
  (rem q q2).bind fun q3 =>
  (shl .i64 q3 x10.Low).bind fun q4 =>
  (idx l4 (i64 (x10.Word - 3))).bind fun x13 =>
  some (.inl ((ZU out6 x10.Frame (l4.set (i64 (x10.Word - 3)).toNat (i64 (x12 + q4)))), (i64 (left - x10.Bits)), (i64 (i4 + 1))))
  else
  some (.inr out6)

noncomputable def Zaj (m : api_Map) (l : List Int) (y2 : (List api_Cell)) (out4 : Vector (List Int) 16) (i3 : Int) : Option (((Vector (List Int) 16) × Int) ⊕ ((Vector (List Int) 16))) :=
  if (decide (i3 < (y2.length : Int))) = true then
  (((idx y2 i3).bind fun x7 =>
  (idx m.Params x7.Param).bind fun x8 =>
  (idx l i3).bind fun x9 =>
  (Zcc x8 x9).bind fun y5 =>
  (Za5 x8).bind fun y6 =>
  loop (t3 (Zbw x7 y5)) (out4, y6, 0)) : Option (((Vector (List Int) 16)))).bind (t1 fun (out5 : Vector (List Int) 16) =>
  some (.inl (out5, (i64 (i3 + 1)))))
  else
  some (.inr out4)

noncomputable def Zdj (m : api_Map) (l : List Int) : Option ((Vector (List Int) 16) × Int) :=
  (ZcM m).bind fun y =>
  if (!decide (y.2 = 0)) = true then
  some ((Vector.replicate 16 []), y.2)
  else
  (ZaA m).bind fun y2 =>
  if (!decide ((l.length : Int) = (y2.length : Int))) = true then
  some ((Vector.replicate 16 []), 3)
  else
  ((loop (t1 (Zad m l y2)) 0) : Option (((Vector (List Int) 16) × Int) ⊕ (Unit))).bind (Sum.elim (fun q' => some q') (t0 (((loop (t2 (ZdD m)) ((Vector.replicate 16 []), 0)) : Option (((Vector (List Int) 16)))).bind (t1 fun (out : Vector (List Int) 16) =>
  ((loop (t2 (Zaj m l y2)) (out, 0)) : Option (((Vector (List Int) 16)))).bind (t1 fun (out3 : Vector (List Int) 16) =>
  some (out3, 0))))))

noncomputable def ZcY (n2 : Int) (ones2 : Int) : Option ((Int × Int) ⊕ (Int)) :=
  if (decide (0 < n2)) = true then
  (rem n2 2).bind fun q =>
  (quo .i64 n2 2).bind fun q2 =>
  some (.inl (q2, (i64 (ones2 + q))))
  else
  some (.inr ones2)

noncomputable def Zd3 (n : Int) : Option Bool :=
  ((loop (t2 (ZcY)) (n, 0)) : Option ((Int))).bind (t1 fun (ones : Int) =>
  (rem ones 2).bind fun q3 =>
  some (decide (q3 = 1)))

noncomputable def Zab (data : Int) : Option Int :=
  (Zd3 data).bind fun y =>
  if y = true then
  some data
  else
  some (i64 (data + 2048))

noncomputable def ZaB (f : Vector Int 64) : Option Int :=
  (ZJ f 1).bind fun x =>
  (rem (i64 x) 2048).bind fun q =>
  (ZJ f 2).bind fun x2 =>
  (rem (i64 x2) 2048).bind fun q2 =>
  some (i64 (q + (i64 (q2 * 2048))))

noncomputable def Zcf (number : Int) : Option Int :=
  (rem number 4).bind fun q =>
  (ZJ (#v[583, 1464, 2631, 3512] : Vector Int 4) q).bind fun x =>
  some x

noncomputable def Zb9 (f : Vector Int 64) (x2 : Int) (i : Int) : Option ((Int × Int) ⊕ (Int)) :=
  if (decide (i ≤ 60)) = true then
  (ZJ f i).bind fun x3 =>
  (rem (i64 x3) 2048).bind fun q =>
  some (.inl ((Zhe .i64 x2 q), (i64 (i + 1))))
  else
  some (.inr x2)

noncomputable def Zd4 (f : Vector Int 64) : Option Int :=
  ((loop (t2 (Zb9 f)) (0, 1)) : Option ((Int))).bind (t1 fun (x : Int) =>
  some x)

noncomputable def ZaI (f : Vector Int 64) (rest2 : Int) (i : Int) : Option ((Int × Int) ⊕ (Int)) :=
  if (decide (i < 766)) = true then
  ((if (decide (i < 744)) = true then
  (quo .i64 i 12).bind fun q =>
  (ZJ f q).bind fun x =>
  (rem i 12).bind fun q2 =>
  (shr .i64 (i64 x) (i64 (11 - q2))).bind fun q3 =>
  some (Jq .i64 q3 1)
  else
  some 0) : Option ((Int))).bind (t1 fun (bit : Int) =>
  if (decide (4194304 ≤ (i64 ((i64 (rest2 * 2)) + bit)))) = true then
  some (.inl ((Zhe .i64 (i64 ((i64 (rest2 * 2)) + bit)) 6291471), (i64 (i + 1))))
  else
  some (.inl ((i64 ((i64 (rest2 * 2)) + bit)), (i64 (i + 1)))))
  else
  some (.inr rest2)

noncomputable def ZcG (f : Vector Int 64) : Option Int :=
  ((loop (t2 (ZaI f)) (0, 0)) : Option ((Int))).bind (t1 fun (rest : Int) =>
  some rest)

noncomputable def Zbl (f : Vector Int 64) : Option (Vector Int 64) :=
  (ZcG f).bind fun y =>
  (quo .i64 y 2048).bind fun q =>
  (Zab q).bind fun y2 =>
  (rem y 2048).bind fun q2 =>
  (Zab q2).bind fun y3 =>
  (ZJ f 62).bind fun x =>
  (ZJ (ZU f 62 (u16 y2)) 63).bind fun x2 =>
  some (ZU (ZU f 62 (u16 y2)) 63 (u16 y3))

noncomputable def X6 (f3 : Vector Int 64) (i : Int) : Option (((Vector Int 64) × Int) ⊕ ((Vector Int 64))) :=
  if (decide (i ≤ 60)) = true then
  (ZJ f3 i).bind fun x =>
  (rem (i64 x) 2048).bind fun q =>
  (Zab q).bind fun y =>
  (ZJ f3 i).bind fun x2 =>
  some (.inl ((ZU f3 i (u16 y)), (i64 (i + 1))))
  else
  some (.inr f3)

noncomputable def Zb8 (f : Vector Int 64) : Option (Vector Int 64) :=
  ((loop (t2 (X6)) (f, 1)) : Option (((Vector Int 64)))).bind (t1 fun (f2 : Vector Int 64) =>
  (ZaB f2).bind fun y2 =>
  (Zcf y2).bind fun y3 =>
  (ZJ f2 0).bind fun x3 =>
  (Zd4 (ZU f2 0 (u16 y3))).bind fun y4 =>
  (Zab y4).bind fun y5 =>
  (ZJ (ZU f2 0 (u16 y3)) 61).bind fun x4 =>
  (Zbl (ZU (ZU f2 0 (u16 y3)) 61 (u16 y5))).bind fun y6 =>
  some y6)

noncomputable def Za3 (data : List Int) (f2 : Vector Int 64) (i : Int) : Option (((Vector Int 64) × Int) ⊕ ((Vector Int 64) × Int) ⊕ ((Vector Int 64))) :=
  if (decide (i < (data.length : Int))) = true then
  (idx data i).bind fun x3 =>
  if ((decide (x3 < 0)) || (decide (2047 < x3))) = true then
  some (.inr (.inl ((#v[0, 0, 0, 0, 0, 0, 0, 0, 0, 0, 0, 0, 0, 0, 0, 0, 0, 0, 0, 0, 0, 0, 0, 0, 0, 0, 0, 0, 0, 0, 0, 0, 0, 0, 0, 0, 0, 0, 0, 0, 0, 0, 0, 0, 0, 0, 0, 0, 0, 0, 0, 0, 0, 0, 0, 0, 0, 0, 0, 0, 0, 0, 0, 0] : Vector Int 64), 9)))
  else
  (ZJ f2 (i64 (3 + i))).bind fun x4 =>
  some (.inl ((ZU f2 (i64 (3 + i)) (u16 x3)), (i64 (i + 1))))
  else
  some (.inr (.inr f2))

noncomputable def Zd5 (number : Int) (data : List Int) : Option ((Vector Int 64) × Int) :=
  if ((decide (number < 0)) || (decide (4194304 ≤ number))) = true then
  some ((#v[0, 0, 0, 0, 0, 0, 0, 0, 0, 0, 0, 0, 0, 0, 0, 0, 0, 0, 0, 0, 0, 0, 0, 0, 0, 0, 0, 0, 0, 0, 0, 0, 0, 0, 0, 0, 0, 0, 0, 0, 0, 0, 0, 0, 0, 0, 0, 0, 0, 0, 0, 0, 0, 0, 0, 0, 0, 0, 0, 0, 0, 0, 0, 0] : Vector Int 64), 9)
  else
  if (!decide ((data.length : Int) = 58)) = true then
  some ((#v[0, 0, 0, 0, 0, 0, 0, 0, 0, 0, 0, 0, 0, 0, 0, 0, 0, 0, 0, 0, 0, 0, 0, 0, 0, 0, 0, 0, 0, 0, 0, 0, 0, 0, 0, 0, 0, 0, 0, 0, 0, 0, 0, 0, 0, 0, 0, 0, 0, 0, 0, 0, 0, 0, 0, 0, 0, 0, 0, 0, 0, 0, 0, 0] : Vector Int 64), 3)
  else
  (rem number 2048).bind fun q =>
  (quo .i64 number 2048).bind fun q2 =>
  (ZJ (#v[0, 0, 0, 0, 0, 0, 0, 0, 0, 0, 0, 0, 0, 0, 0, 0, 0, 0, 0, 0, 0, 0, 0, 0, 0, 0, 0, 0, 0, 0, 0, 0, 0, 0, 0, 0, 0, 0, 0, 0, 0, 0, 0, 0, 0, 0, 0, 0, 0, 0, 0, 0, 0, 0, 0, 0, 0, 0, 0, 0, 0, 0, 0, 0] : Vector Int 64) 1).bind fun x =>
  (ZJ (ZU (#v[0, 0, 0, 0, 0, 0, 0, 0, 0, 0, 0, 0, 0, 0, 0, 0, 0, 0, 0, 0, 0, 0, 0, 0, 0, 0, 0, 0, 0, 0, 0, 0, 0, 0, 0, 0, 0, 0, 0, 0, 0, 0, 0, 0, 0, 0, 0, 0, 0, 0, 0, 0, 0, 0, 0, 0, 0, 0, 0, 0, 0, 0, 0, 0] : Vector Int 64) 1 (u16 q)) 2).bind fun x2 =>
  ((loop (t2 (Za3 data)) ((ZU (ZU (#v[0, 0, 0, 0, 0, 0, 0, 0, 0, 0, 0, 0, 0, 0, 0, 0, 0, 0, 0, 0, 0, 0, 0, 0, 0, 0, 0, 0, 0, 0, 0, 0, 0, 0, 0, 0, 0, 0, 0, 0, 0, 0, 0, 0, 0, 0, 0, 0, 0, 0, 0, 0, 0, 0, 0, 0, 0, 0, 0, 0, 0, 0, 0, 0] : Vector Int 64) 1 (u16 q)) 2 (u16 q2)), 0)) : Option (((Vector Int 64) × Int) ⊕ ((Vector Int 64)))).bind (Sum.elim (fun q' => some q') (t1 fun (f : Vector Int 64) =>
  (Zb8 f).bind fun y =>
  some (y, 0)))

noncomputable def JE (first : Int) (y : (Vector (List Int) 16) × Int) (out2 : Vector (Vector Int 64) 16) (i : Int) : Option (((Vector (Vector Int 64) 16) × Int) ⊕ ((Vector (Vector Int 64) 16))) :=
  if (decide (i < 16)) = true then
  (ZJ y.1 i).bind fun x =>
  (Zd5 (i64 (first + i)) x).bind fun y3 =>
  (ZJ out2 i).bind fun x2 =>
  some (.inl ((ZU out2 i y3.1), (i64 (i + 1))))
  else
  some (.inr out2)

noncomputable def ZcE (m : api_Map) (first : Int) (l : List Int) : Option ((Vector (Vector Int 64) 16) × Int) :=
  (Zdj m l).bind fun y =>
  if (!decide (y.2 = 0)) = true then
  some ((Vector.replicate 16 (Vector.replicate 64 0)), y.2)
  else
  (Z7 first 0 4194288).bind fun y2 =>
  if y2 = true then
  some ((Vector.replicate 16 (Vector.replicate 64 0)), 9)
  else
  (rem first 16).bind fun q =>
  if (!decide (q = 0)) = true then
  some ((Vector.replicate 16 (Vector.replicate 64 0)), 2)
  else
  ((loop (t2 (JE first y)) ((Vector.replicate 16 (Vector.replicate 64 0)), 0)) : Option (((Vector (Vector Int 64) 16)))).bind (t1 fun (out : Vector (Vector Int 64) 16) =>
  some (out, 0))

def ZfO (a b : Vector Int 64) : Bool := (decide (a = b))

noncomputable def QB (s : List Int) (f : Int → Option Bool) (i : Int) : Option ((Int) ⊕ (Int) ⊕ (Unit)) :=
  if (decide (i < (s.length : Int))) = true then
  (idx s i).bind fun x =>
  (f x).bind fun y =>
  if y = true then
  some (.inr (.inl i))
  else
  some (.inl (i64 (i + 1)))
  else
  some (.inr (.inr ()))

noncomputable def Qw (s : List Int) (f : Int → Option Bool) : Option Int :=
  ((loop (t1 (QB s f)) 0) : Option ((Int) ⊕ (Unit))).bind (Sum.elim (fun q' => some q') (t0 (some (-1))))

noncomputable def Qf (s : List Int) (f : Int → Option Bool) : Option Bool :=
  (Qw s f).bind fun y =>
  some (decide (0 ≤ y))

noncomputable def Jw (d : Int) : Option Bool :=
  (ZO d 0 2047).bind fun y =>
  some (!y)

noncomputable def ZaP (c_ : api_Cell) (l : Vector (List Int) 16) (raw2 : Int) (i : Int) : Option ((Int × Int) ⊕ (Int)) :=
  if (decide (i < (c_.Places.length : Int))) = true then
  (idx c_.Places i).bind fun x =>
  (shl .i64 raw2 x.Bits).bind fun q =>
  (ZJ l x.Frame).bind fun x2 =>
  (idx x2 (i64 (x.Word - 3))).bind fun x3 =>
  (shr .i64 x3 x.Low).bind fun q2 =>
  (shl .i64 1 x.Bits).bind fun q3 =>
  some (.inl ((bor .i64 q (Jq .i64 q2 (i64 (q3 - 1)))), (i64 (i + 1))))
  else
  some (.inr raw2)

noncomputable def Zbo (c_ : api_Cell) (l : Vector (List Int) 16) : Option Int :=
  ((loop (t2 (ZaP c_ l)) (0, 0)) : Option ((Int))).bind (t1 fun (raw : Int) =>
  some raw)

noncomputable def J2 (p : api_Param) (raw : Int) : Option (Int × Bool) :=
  (Qb p).bind fun y =>
  (y.decode.fn raw).bind fun y2 =>
  if (!y2.2) = true then
  some (0, false)
  else
  some (y2.1, true)

noncomputable def Zag (l : Vector (List Int) 16) (i : Int) : Option ((Int) ⊕ ((List api_Reading) × Int) ⊕ (Unit)) :=
  if (decide (i < 16)) = true then
  (ZJ l i).bind fun x =>
  if (!decide ((x.length : Int) = 58)) = true then
  some (.inr (.inl ([], 3)))
  else
  (Qf x (fun z0 => Jw z0)).bind fun y2 =>
  if y2 = true then
  some (.inr (.inl ([], 9)))
  else
  some (.inl (i64 (i + 1)))
  else
  some (.inr (.inr ()))

noncomputable def Zaa (m : api_Map) (l : Vector (List Int) 16) (i2 : Int) : Option ((Int) ⊕ ((List api_Reading) × Int) ⊕ (Unit)) :=
  if (decide (i2 < 16)) = true then
  (ZJ l i2).bind fun x2 =>
  (idx x2 0).bind fun x3 =>
  if (!decide (x3 = m.Version)) = true then
  some (.inr (.inl ([], 11)))
  else
  some (.inl (i64 (i2 + 1)))
  else
  some (.inr (.inr ()))

noncomputable def Zan (m : api_Map) (l : Vector (List Int) 16) (y3 : (List api_Cell)) (out2 : List api_Reading) (i3 : Int) : Option (((List api_Reading) × Int) ⊕ ((List api_Reading))) :=
  if (decide (i3 < (y3.length : Int))) = true then
  (idx y3 i3).bind fun x4 =>
  (idx m.Params x4.Param).bind fun x5 =>
  (Zbo x4 l).bind fun y4 =>
  (J2 x5 y4).bind fun y5 =>
  (app out2 ([(api_Reading.mk x4.Param x4.Index y5.1 y5.2)] : List api_Reading)).bind fun l2 =>
  some (.inl (l2, (i64 (i3 + 1))))
  else
  some (.inr out2)

noncomputable def ZaH (m : api_Map) (l : Vector (List Int) 16) : Option ((List api_Reading) × Int) :=
  (XQ m).bind fun y =>
  if (!decide (y.2 = 0)) = true then
  some ([], y.2)
  else
  ((loop (t1 (Zag l)) 0) : Option (((List api_Reading) × Int) ⊕ (Unit))).bind (Sum.elim (fun q' => some q') (t0 (((loop (t1 (Zaa m l)) 0) : Option (((List api_Reading) × Int) ⊕ (Unit))).bind (Sum.elim (fun q' => some q') (t0 ((((XN m).bind fun y3 =>
  loop (t2 (Zan m l y3)) ([], 0)) : Option (((List api_Reading)))).bind (t1 fun (out : List api_Reading) =>
  some (out, 0))))))))

noncomputable def Za2  : Option Bool :=
  (Jd (api_Map.mk 3 ([(api_Param.mk [97] 2 ([(api_Part.mk 0 9 2 3)] : List api_Part) 2 8 2 1 [])] : List api_Param)) ([(-1), 3, 0, (-4)] : List Int)).bind fun y =>
  (gd ((!decide (y.2 = 0)) == false) [] (ZJ y.1 2)).bind fun x =>
  (gd (((!decide (y.2 = 0)) || (!decide ((x.length : Int) = 58))) == false) [] (ZJ y.1 5)).bind fun x2 =>
  (gd ((((!decide (y.2 = 0)) || (!decide ((x.length : Int) = 58))) || (!decide ((x2.length : Int) = 58))) == false) [] (ZJ y.1 10)).bind fun x3 =>
  (gd (((((!decide (y.2 = 0)) || (!decide ((x.length : Int) = 58))) || (!decide ((x2.length : Int) = 58))) || (!decide ((x3.length : Int) = 58))) == false) [] (ZJ y.1 2)).bind fun x4 =>
  (gd (((((!decide (y.2 = 0)) || (!decide ((x.length : Int) = 58))) || (!decide ((x2.length : Int) = 58))) || (!decide ((x3.length : Int) = 58))) == false) 0 (idx x4 6)).bind fun x5 =>
  (gd ((((((!decide (y.2 = 0)) || (!decide ((x.length : Int) = 58))) || (!decide ((x2.length : Int) = 58))) || (!decide ((x3.length : Int) = 58))) || (!decide (x5 = 28))) == false) [] (ZJ y.1 2)).bind fun x6 =>
  (gd ((((((!decide (y.2 = 0)) || (!decide ((x.length : Int) = 58))) || (!decide ((x2.length : Int) = 58))) || (!decide ((x3.length : Int) = 58))) || (!decide (x5 = 28))) == false) 0 (idx x6 7)).bind fun x7 =>
  (gd (((((((!decide (y.2 = 0)) || (!decide ((x.length : Int) = 58))) || (!decide ((x2.length : Int) = 58))) || (!decide ((x3.length : Int) = 58))) || (!decide (x5 = 28))) || (!decide (x7 = 12))) == false) [] (ZJ y.1 10)).bind fun x8 =>
  (gd (((((((!decide (y.2 = 0)) || (!decide ((x.length : Int) = 58))) || (!decide ((x2.length : Int) = 58))) || (!decide ((x3.length : Int) = 58))) || (!decide (x5 = 28))) || (!decide (x7 = 12))) == false) 0 (idx x8 6)).bind fun x9 =>
  (gd ((((((((!decide (y.2 = 0)) || (!decide ((x.length : Int) = 58))) || (!decide ((x2.length : Int) = 58))) || (!decide ((x3.length : Int) = 58))) || (!decide (x5 = 28))) || (!decide (x7 = 12))) || (!decide (x9 = 0))) == false) [] (ZJ y.1 10)).bind fun x10 =>
  (gd ((((((((!decide (y.2 = 0)) || (!decide ((x.length : Int) = 58))) || (!decide ((x2.length : Int) = 58))) || (!decide ((x3.length : Int) = 58))) || (!decide (x5 = 28))) || (!decide (x7 = 12))) || (!decide (x9 = 0))) == false) 0 (idx x10 7)).bind fun x11 =>
  (gd (((((((((!decide (y.2 = 0)) || (!decide ((x.length : Int) = 58))) || (!decide ((x2.length : Int) = 58))) || (!decide ((x3.length : Int) = 58))) || (!decide (x5 = 28))) || (!decide (x7 = 12))) || (!decide (x9 = 0))) || (!decide (x11 = 16))) == false) [] (ZJ y.1 5)).bind fun x12 =>
  (gd (((((((((!decide (y.2 = 0)) || (!decide ((x.length : Int) = 58))) || (!decide ((x2.length : Int) = 58))) || (!decide ((x3.length : Int) = 58))) || (!decide (x5 = 28))) || (!decide (x7 = 12))) || (!decide (x9 = 0))) || (!decide (x11 = 16))) == false) 0 (idx x12 0)).bind fun x13 =>
  if (((((((((!decide (y.2 = 0)) || (!decide ((x.length : Int) = 58))) || (!decide ((x2.length : Int) = 58))) || (!decide ((x3.length : Int) = 58))) || (!decide (x5 = 28))) || (!decide (x7 = 12))) || (!decide (x9 = 0))) || (!decide (x11 = 16))) || (!decide (x13 = 3))) = true then
  some false
  else
  (ZaH (api_Map.mk 3 ([(api_Param.mk [97] 2 ([(api_Part.mk 0 9 2 3)] : List api_Part) 2 8 2 1 [])] : List api_Param)) y.1).bind fun y2 =>
  (gd (((decide (y2.2 = 0)) && (decide ((y2.1.length : Int) = 4))) == true) (api_Reading.mk 0 0 0 false) (idx y2.1 3)).bind fun x14 =>
  some (((decide (y2.2 = 0)) && (decide ((y2.1.length : Int) = 4))) && (decide (x14.Param = 0) && (decide (x14.Index = 3) && (decide (x14.Value = (-4)) && ((x14.Good == true) && true)))))

noncomputable def QC (m : api_Map) (first : Int) (l : List Int) : Option Bool :=
  (Zby m first l).bind fun y =>
  (ZcE m first l).bind fun y2 =>
  (gd (((Zho ZfO y.1 y2.1) && (decide (y.2 = y2.2))) == true) false Za2).bind fun y3 =>
  some (((Zho ZfO y.1 y2.1) && (decide (y.2 = y2.2))) && y3)
end Go.Vx
