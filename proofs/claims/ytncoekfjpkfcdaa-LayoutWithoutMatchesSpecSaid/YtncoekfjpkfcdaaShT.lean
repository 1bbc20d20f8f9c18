/- A text of the proof: a verified executor of the program form, or the contracts of the functions that the law reaches. -/
import Derived.Test.YtncoekfjpkfcdaaShLib
set_option linter.all false
namespace Go.Vx
open Go Go.RowKit
set_option linter.unusedVariables false
structure api_Part where
  Frame : Int
  Word : Int
  Low : Int
  Bits : Int
structure api_Param where
  Name : Str
  Kind : Int
  Parts : List api_Part
  First : Int
  Every : Int
  Times : Int
  Step : Int
  Names : List Str
structure api_Map where
  Version : Int
  Params : List api_Param
structure layout_bit where
  frame : Int
  word : Int
  bit : Int
structure api_Place where
  Frame : Int
  Word : Int
  Low : Int
  Bits : Int
structure api_Cell where
  Param : Int
  Index : Int
  Frame : Int
  Places : List api_Place
structure layout_number where
  low : Int
  high : Int
  encode : Fv (Int → Option Int)
  decode : Fv (Int → Option (Int × Bool))
structure api_Reading where
  Param : Int
  Index : Int
  Value : Int
  Good : Bool

noncomputable def layout_within (n : Int) (low : Int) (high : Int) : Option Bool :=
  some ((decide (low ≤ n)) && (decide (n ≤ high)))

noncomputable def layout_isName_1 (c_ : Int) : Option Bool :=
  some (!((((decide (97 ≤ c_)) && (decide (c_ ≤ 122))) || ((decide (48 ≤ c_)) && (decide (c_ ≤ 57)))) || (decide (c_ = 45))))

noncomputable def layout_isName (s : Str) : Option Bool :=
  (gd (((decide ((s.length : Int) < 1)) || (decide (30 < (s.length : Int)))) == false) 0 (sidx s 0)).bind fun b =>
  (gd ((((decide ((s.length : Int) < 1)) || (decide (30 < (s.length : Int)))) || (decide (b < 97))) == false) 0 (sidx s 0)).bind fun b2 =>
  if ((((decide ((s.length : Int) < 1)) || (decide (30 < (s.length : Int)))) || (decide (b < 97))) || (decide (122 < b2))) = true then
  some false
  else
  (containsFunc s (fun z0 => layout_isName_1 z0)).bind fun y =>
  some (!y)

noncomputable def layout_bitsOf_L1 (p : api_Param) (n2 : Int) (i : Int) : Option ((Int × Int) ⊕ (Int)) :=
  if (decide (i < (p.Parts.length : Int))) = true then
  (idx p.Parts i).bind fun x =>
  some (.inl ((i64 (n2 + x.Bits)), (i64 (i + 1))))
  else
  some (.inr n2)

noncomputable def layout_bitsOf (p : api_Param) : Option Int :=
  ((loop (t2 (layout_bitsOf_L1 p)) (0, 0)) : Option ((Int))).bind (t1 fun (n : Int) =>
  some n)

noncomputable def slices_Index_int_int_L1 (s : List Int) (v : Int) (i : Int) : Option ((Int) ⊕ (Int) ⊕ (Unit)) :=
  if (decide (i < (s.length : Int))) = true then
  (idx s i).bind fun x =>
  if (decide (v = x)) = true then
  some (.inr (.inl i))
  else
  some (.inl (i64 (i + 1)))
  else
  some (.inr (.inr ()))

noncomputable def slices_Index_int_int (s : List Int) (v : Int) : Option Int :=
  ((loop (t1 (slices_Index_int_int_L1 s v)) 0) : Option ((Int) ⊕ (Unit))).bind (Sum.elim (fun v => some v) (t0 (some (-1))))

noncomputable def slices_Contains_int_int (s : List Int) (v : Int) : Option Bool :=
  (slices_Index_int_int s v).bind fun y =>
  some (decide (0 ≤ y))

noncomputable def layout_checkParts_L1 (p : api_Param) (i : Int) : Option ((Int) ⊕ (Int) ⊕ (Unit)) :=
  if (decide (i < (p.Parts.length : Int))) = true then
  (idx p.Parts i).bind fun x =>
  (layout_within x.Frame 0 15).bind fun y =>
  (gd ((!y) == false) false (layout_within x.Word 4 60)).bind fun y2 =>
  (gd (((!y) || (!y2)) == false) false (layout_within x.Low 0 10)).bind fun y3 =>
  (gd ((((!y) || (!y2)) || (!y3)) == false) false (layout_within x.Bits 1 (i64 (11 - x.Low)))).bind fun y4 =>
  if ((((!y) || (!y2)) || (!y3)) || (!y4)) = true then
  some (.inr (.inl 9))
  else
  some (.inl (i64 (i + 1)))
  else
  some (.inr (.inr ()))

noncomputable def layout_checkParts_L2 (p : api_Param) (i2 : Int) : Option ((Int) ⊕ (Int) ⊕ (Unit)) :=
  if (decide (i2 < (p.Parts.length : Int))) = true then
  (idx p.Parts i2).bind fun x2 =>
  if ((decide (60 < p.Step)) || (decide (60 < (i64 (x2.Word + (i64 ((i64 (p.Times - 1)) * p.Step))))))) = true then
  some (.inr (.inl 9))
  else
  some (.inl (i64 (i2 + 1)))
  else
  some (.inr (.inr ()))

noncomputable def layout_checkParts (p : api_Param) : Option Int :=
  if (decide ((p.Parts.length : Int) = 0)) = true then
  some 13
  else
  if (decide (8 < (p.Parts.length : Int))) = true then
  some 3
  else
  ((loop (t1 (layout_checkParts_L1 p)) 0) : Option ((Int) ⊕ (Unit))).bind (Sum.elim (fun v => some v) (t0 ((layout_bitsOf p).bind fun y5 =>
  if (decide (40 < y5)) = true then
  some 3
  else
  (slices_Contains_int_int ([1, 2, 4, 8, 16] : List Int) p.Every).bind fun y6 =>
  (gd ((!y6) == false) false (layout_within p.First 0 (i64 (p.Every - 1)))).bind fun y7 =>
  (gd (((!y6) || (!y7)) == false) false (layout_within p.Times 1 57)).bind fun y8 =>
  if (((((!y6) || (!y7)) || (!y8)) || (decide (p.Step < 0))) || (!((decide (p.Step = 0)) == (decide (p.Times = 1))))) = true then
  some 9
  else
  ((loop (t1 (layout_checkParts_L2 p)) 0) : Option ((Int) ⊕ (Unit))).bind (Sum.elim (fun v => some v) (t0 (some 0))))))

noncomputable def slices_Index_string_string_L1 (s : List Str) (v : Str) (i : Int) : Option ((Int) ⊕ (Int) ⊕ (Unit)) :=
  if (decide (i < (s.length : Int))) = true then
  (idx s i).bind fun x =>
  if (decide (v = x)) = true then
  some (.inr (.inl i))
  else
  some (.inl (i64 (i + 1)))
  else
  some (.inr (.inr ()))

noncomputable def slices_Index_string_string (s : List Str) (v : Str) : Option Int :=
  ((loop (t1 (slices_Index_string_string_L1 s v)) 0) : Option ((Int) ⊕ (Unit))).bind (Sum.elim (fun v => some v) (t0 (some (-1))))

noncomputable def slices_Contains_string_string (s : List Str) (v : Str) : Option Bool :=
  (slices_Index_string_string s v).bind fun y =>
  some (decide (0 ≤ y))

noncomputable def layout_checkNames_L1 (p : api_Param) (i : Int) : Option ((Int) ⊕ (Int) ⊕ (Unit)) :=
  if (decide (i < (p.Names.length : Int))) = true then
  (idx p.Names i).bind fun x =>
  (layout_isName x).bind fun y2 =>
  if (!y2) = true then
  some (.inr (.inl 8))
  else
  (slc p.Names 0 i).bind fun l =>
  (slices_Contains_string_string l x).bind fun y3 =>
  if y3 = true then
  some (.inr (.inl 5))
  else
  some (.inl (i64 (i + 1)))
  else
  some (.inr (.inr ()))

noncomputable def layout_checkNames (p : api_Param) : Option Int :=
  (layout_bitsOf p).bind fun y =>
  (gd ((decide (p.Kind = 4)) == true) 0 (rem y 4)).bind fun q =>
  if ((((decide (p.Kind = 4)) && (!decide (q = 0))) || ((decide (p.Kind = 5)) && (!decide (y = 1)))) || (((decide (p.Kind = 2)) || (decide (p.Kind = 3))) && (decide (y = 1)))) = true then
  some 2
  else
  if (!decide (p.Kind = 6)) = true then
  if (decide (0 < (p.Names.length : Int))) = true then
  some 2
  else
  some 0
  else
  if (decide ((p.Names.length : Int) = 0)) = true then
  some 13
  else
  (gd ((decide (64 < (p.Names.length : Int))) == false) 0 (shl .i64 1 y)).bind fun q2 =>
  if ((decide (64 < (p.Names.length : Int))) || (decide (q2 < (p.Names.length : Int)))) = true then
  some 3
  else
  ((loop (t1 (layout_checkNames_L1 p)) 0) : Option ((Int) ⊕ (Unit))).bind (Sum.elim (fun v => some v) (t0 (some 0)))

noncomputable def slices_IndexFunc_api_Part_api_Part_L1 (s : List api_Part) (f : api_Part → Option Bool) (i : Int) : Option ((Int) ⊕ (Int) ⊕ (Unit)) :=
  if (decide (i < (s.length : Int))) = true then
  (idx s i).bind fun x =>
  (f x).bind fun y =>
  if y = true then
  some (.inr (.inl i))
  else
  some (.inl (i64 (i + 1)))
  else
  some (.inr (.inr ()))

noncomputable def slices_IndexFunc_api_Part_api_Part (s : List api_Part) (f : api_Part → Option Bool) : Option Int :=
  ((loop (t1 (slices_IndexFunc_api_Part_api_Part_L1 s f)) 0) : Option ((Int) ⊕ (Unit))).bind (Sum.elim (fun v => some v) (t0 (some (-1))))

noncomputable def slices_ContainsFunc_api_Part_api_Part (s : List api_Part) (f : api_Part → Option Bool) : Option Bool :=
  (slices_IndexFunc_api_Part_api_Part s f).bind fun y =>
  some (decide (0 ≤ y))

noncomputable def layout_starts_1 (x : api_Part) (c0 : Int) : Option Bool :=
  some (decide (16 ≤ (i64 (c0 + x.Frame))))

noncomputable def layout_starts_L1 (p : api_Param) (out2 : List Int) (f : Int) : Option (((List Int) × Int) ⊕ ((List Int))) :=
  if (decide (f < 16)) = true then
  (((slices_ContainsFunc_api_Part_api_Part p.Parts (fun z0 => layout_starts_1 z0 f)).bind fun y =>
  if (!y) = true then
  (app out2 ([f] : List Int)).bind fun l =>
  some l
  else
  some out2) : Option (((List Int)))).bind (t1 fun (out3 : List Int) =>
  some (.inl (out3, (i64 (f + p.Every)))))
  else
  some (.inr out2)

noncomputable def layout_starts (p : api_Param) : Option (List Int) :=
  ((loop (t2 (layout_starts_L1 p)) ([], p.First)) : Option (((List Int)))).bind (t1 fun (out : List Int) =>
  some out)

noncomputable def layout_placeOf (p : api_Param) (x : api_Part) (f : Int) (j : Int) : Option api_Place :=
  some (api_Place.mk (i64 (f + x.Frame)) (i64 (x.Word + (i64 (j * p.Step)))) x.Low x.Bits)

noncomputable def layout_cellsOf_L3 (p : api_Param) (x : Int) (i2 : Int) (Places2 : List api_Place) (i3 : Int) : Option (((List api_Place) × Int) ⊕ ((List api_Place))) :=
  if (decide (i3 < (p.Parts.length : Int))) = true then
  (idx p.Parts i3).bind fun x2 =>
  (layout_placeOf p x2 x i2).bind fun y2 =>
  (app Places2 ([y2] : List api_Place)).bind fun l =>
  some (.inl (l, (i64 (i3 + 1))))
  else
  some (.inr Places2)

noncomputable def layout_cellsOf_L2 (number : Int) (p : api_Param) (x : Int) (out4 : List api_Cell) (i2 : Int) : Option (((List api_Cell) × Int) ⊕ ((List api_Cell))) :=
  if (decide (i2 < p.Times)) = true then
  ((loop (t2 (layout_cellsOf_L3 p x i2)) ([], 0)) : Option (((List api_Place)))).bind (t1 fun (Places : List api_Place) =>
  (app out4 ([(api_Cell.mk number (out4.length : Int) x Places)] : List api_Cell)).bind fun l2 =>
  some (.inl (l2, (i64 (i2 + 1)))))
  else
  some (.inr out4)

noncomputable def layout_cellsOf_L1 (number : Int) (p : api_Param) (y : (List Int)) (out2 : List api_Cell) (i : Int) : Option (((List api_Cell) × Int) ⊕ ((List api_Cell))) :=
  if (decide (i < (y.length : Int))) = true then
  (((idx y i).bind fun x =>
  loop (t2 (layout_cellsOf_L2 number p x)) (out2, 0)) : Option (((List api_Cell)))).bind (t1 fun (out3 : List api_Cell) =>
  some (.inl (out3, (i64 (i + 1)))))
  else
  some (.inr out2)

noncomputable def layout_cellsOf (number : Int) (p : api_Param) : Option (List api_Cell) :=
  (((layout_starts p).bind fun y =>
  loop (t2 (layout_cellsOf_L1 number p y)) ([], 0)) : Option (((List api_Cell)))).bind (t1 fun (out : List api_Cell) =>
  some out)

def kq_layout_bit (a b : layout_bit) : Bool := (decide (a.frame = b.frame) && (decide (a.word = b.word) && (decide (a.bit = b.bit) && true)))

noncomputable def layout_bitsAt_L1 (x : api_Place) (out2 : List layout_bit) (i : Int) : Option (((List layout_bit) × Int) ⊕ ((List layout_bit))) :=
  if (decide (i < x.Bits)) = true then
  (app out2 ([(layout_bit.mk x.Frame x.Word (i64 (x.Low + i)))] : List layout_bit)).bind fun l =>
  some (.inl (l, (i64 (i + 1))))
  else
  some (.inr out2)

noncomputable def layout_bitsAt (x : api_Place) : Option (List layout_bit) :=
  ((loop (t2 (layout_bitsAt_L1 x)) ([], 0)) : Option (((List layout_bit)))).bind (t1 fun (out : List layout_bit) =>
  some out)

noncomputable def layout_take_L2 (owner : Int) (y : (List layout_bit)) (o4 : List (layout_bit × Int)) (i2 : Int) : Option (((List (layout_bit × Int)) × Int) ⊕ (Bool × (List (layout_bit × Int))) ⊕ ((List (layout_bit × Int)))) :=
  if (decide (i2 < (y.length : Int))) = true then
  (idx y i2).bind fun x2 =>
  (some (mget kq_layout_bit o4 x2)).bind fun o5 =>
  if o5.isSome = true then
  some (.inr (.inl (false, o4)))
  else
  some (.inl ((mput kq_layout_bit o4 x2 owner), (i64 (i2 + 1))))
  else
  some (.inr (.inr o4))

noncomputable def layout_take_L1 (owner : Int) (l : List api_Place) (o2 : List (layout_bit × Int)) (i : Int) : Option (((List (layout_bit × Int)) × Int) ⊕ (Bool × (List (layout_bit × Int))) ⊕ ((List (layout_bit × Int)))) :=
  if (decide (i < (l.length : Int))) = true then
  (((idx l i).bind fun x =>
  (layout_bitsAt x).bind fun y =>
  loop (t2 (layout_take_L2 owner y)) (o2, 0)) : Option ((Bool × (List (layout_bit × Int))) ⊕ ((List (layout_bit × Int))))).bind (Sum.elim (fun v => some (.inr (.inl v))) (t1 fun (o3 : List (layout_bit × Int)) =>
  some (.inl (o3, (i64 (i + 1))))))
  else
  some (.inr (.inr o2))

noncomputable def layout_take (taken : List (layout_bit × Int)) (owner : Int) (l : List api_Place) : Option (Bool × (List (layout_bit × Int))) :=
  ((loop (t2 (layout_take_L1 owner l)) (taken, 0)) : Option ((Bool × (List (layout_bit × Int))) ⊕ ((List (layout_bit × Int))))).bind (Sum.elim (fun v => some v) (t1 fun (o : List (layout_bit × Int)) =>
  some (true, o)))

noncomputable def layout_CheckParam_L1 (y5 : (List api_Cell)) (taken : List (layout_bit × Int)) (i : Int) : Option (((List (layout_bit × Int)) × Int) ⊕ (Int) ⊕ (Unit)) :=
  if (decide (i < (y5.length : Int))) = true then
  (idx y5 i).bind fun x =>
  (layout_take taken 0 x.Places).bind fun y6 =>
  if (!y6.1) = true then
  some (.inr (.inl 5))
  else
  some (.inl (y6.2, (i64 (i + 1))))
  else
  some (.inr (.inr ()))

noncomputable def layout_CheckParam (p : api_Param) : Option Int :=
  (layout_isName p.Name).bind fun y =>
  if (!y) = true then
  some 8
  else
  (layout_within p.Kind 1 6).bind fun y2 =>
  if (!y2) = true then
  some 7
  else
  (layout_checkParts p).bind fun y3 =>
  if (!decide (y3 = 0)) = true then
  some y3
  else
  (layout_checkNames p).bind fun y4 =>
  if (!decide (y4 = 0)) = true then
  some y4
  else
  (layout_cellsOf 0 p).bind fun y5 =>
  ((loop (t2 (layout_CheckParam_L1 y5)) (([] : List (layout_bit × Int)), 0)) : Option ((Int) ⊕ (Unit))).bind (Sum.elim (fun v => some v) (t0 (if (decide ((y5.length : Int) = 0)) = true then
  some 13
  else
  some 0)))

noncomputable def slices_IndexFunc_api_Param_api_Param_L1 (s : List api_Param) (f : api_Param → Option Bool) (i : Int) : Option ((Int) ⊕ (Int) ⊕ (Unit)) :=
  if (decide (i < (s.length : Int))) = true then
  (idx s i).bind fun x =>
  (f x).bind fun y =>
  if y = true then
  some (.inr (.inl i))
  else
  some (.inl (i64 (i + 1)))
  else
  some (.inr (.inr ()))

noncomputable def slices_IndexFunc_api_Param_api_Param (s : List api_Param) (f : api_Param → Option Bool) : Option Int :=
  ((loop (t1 (slices_IndexFunc_api_Param_api_Param_L1 s f)) 0) : Option ((Int) ⊕ (Unit))).bind (Sum.elim (fun v => some v) (t0 (some (-1))))

noncomputable def slices_ContainsFunc_api_Param_api_Param (s : List api_Param) (f : api_Param → Option Bool) : Option Bool :=
  (slices_IndexFunc_api_Param_api_Param s f).bind fun y =>
  some (decide (0 ≤ y))

noncomputable def layout_check_1 (q : api_Param) (c0 : api_Param) : Option Bool :=
  some (decide (q.Name = c0.Name))

noncomputable def layout_check_L1 (m : api_Map) (i : Int) : Option ((Int) ⊕ (Int × Int) ⊕ (Unit)) :=
  if (decide (i < (m.Params.length : Int))) = true then
  (idx m.Params i).bind fun x =>
  (layout_CheckParam x).bind fun y2 =>
  if (!decide (y2 = 0)) = true then
  some (.inr (.inl (i, y2)))
  else
  (slc m.Params 0 i).bind fun l =>
  (slices_ContainsFunc_api_Param_api_Param l (fun z0 => layout_check_1 z0 x)).bind fun y3 =>
  if y3 = true then
  some (.inr (.inl (i, 5)))
  else
  some (.inl (i64 (i + 1)))
  else
  some (.inr (.inr ()))

noncomputable def layout_check_L2 (m : api_Map) (cells : Int) (i2 : Int) : Option ((Int × Int) ⊕ (Int × Int) ⊕ (Unit)) :=
  if (decide (i2 < (m.Params.length : Int))) = true then
  (idx m.Params i2).bind fun x2 =>
  (layout_starts x2).bind fun y4 =>
  if (decide (4000 < (i64 (cells + (i64 ((y4.length : Int) * x2.Times)))))) = true then
  some (.inr (.inl (i2, 3)))
  else
  some (.inl ((i64 (cells + (i64 ((y4.length : Int) * x2.Times)))), (i64 (i2 + 1))))
  else
  some (.inr (.inr ()))

noncomputable def layout_check_L4 (i3 : Int) (y5 : (List api_Cell)) (taken3 : List (layout_bit × Int)) (i4 : Int) : Option (((List (layout_bit × Int)) × Int) ⊕ (Int × Int) ⊕ ((List (layout_bit × Int)))) :=
  if (decide (i4 < (y5.length : Int))) = true then
  (idx y5 i4).bind fun x4 =>
  (layout_take taken3 i3 x4.Places).bind fun y6 =>
  if (!y6.1) = true then
  some (.inr (.inl (i3, 5)))
  else
  some (.inl (y6.2, (i64 (i4 + 1))))
  else
  some (.inr (.inr taken3))

noncomputable def layout_check_L3 (m : api_Map) (taken : List (layout_bit × Int)) (i3 : Int) : Option (((List (layout_bit × Int)) × Int) ⊕ (Int × Int) ⊕ (Unit)) :=
  if (decide (i3 < (m.Params.length : Int))) = true then
  (((idx m.Params i3).bind fun x3 =>
  (layout_cellsOf i3 x3).bind fun y5 =>
  loop (t2 (layout_check_L4 i3 y5)) (taken, 0)) : Option ((Int × Int) ⊕ ((List (layout_bit × Int))))).bind (Sum.elim (fun v => some (.inr (.inl v))) (t1 fun (taken2 : List (layout_bit × Int)) =>
  some (.inl (taken2, (i64 (i3 + 1))))))
  else
  some (.inr (.inr ()))

noncomputable def layout_check (m : api_Map) : Option (Int × Int) :=
  (layout_within m.Version 0 2047).bind fun y =>
  if (!y) = true then
  some ((-1), 9)
  else
  if (decide (200 < (m.Params.length : Int))) = true then
  some ((-1), 3)
  else
  ((loop (t1 (layout_check_L1 m)) 0) : Option ((Int × Int) ⊕ (Unit))).bind (Sum.elim (fun v => some v) (t0 (((loop (t2 (layout_check_L2 m)) (0, 0)) : Option ((Int × Int) ⊕ (Unit))).bind (Sum.elim (fun v => some v) (t0 (((loop (t2 (layout_check_L3 m)) (([] : List (layout_bit × Int)), 0)) : Option ((Int × Int) ⊕ (Unit))).bind (Sum.elim (fun v => some v) (t0 (some ((-1), 0))))))))))

noncomputable def layout_cells_L1 (m : api_Map) (out2 : List api_Cell) (i : Int) : Option (((List api_Cell) × Int) ⊕ ((List api_Cell))) :=
  if (decide (i < (m.Params.length : Int))) = true then
  (idx m.Params i).bind fun x =>
  (layout_cellsOf i x).bind fun y =>
  (app out2 y).bind fun l =>
  some (.inl (l, (i64 (i + 1))))
  else
  some (.inr out2)

noncomputable def layout_cells (m : api_Map) : Option (List api_Cell) :=
  ((loop (t2 (layout_cells_L1 m)) ([], 0)) : Option (((List api_Cell)))).bind (t1 fun (out : List api_Cell) =>
  some out)

noncomputable def layout_numberOf_1 (v : Int) : Option Int :=
  some v

noncomputable def layout_numberOf_2_1 (raw : Int) (c0 : Int) : Option (Int × Bool) :=
  some (raw, (decide (raw ≤ c0)))

noncomputable def layout_numberOf_2 (high : Int) : Option layout_number :=
  some (layout_number.mk 0 high (Fv.mk (fun z0 => layout_numberOf_1 z0) 104 []) (Fv.mk (fun z0 => layout_numberOf_2_1 z0 high) 106 [.rp [.int .i64 high] 0]))

noncomputable def layout_numberOf_3 (c1 : Int) : Option layout_number :=
  (layout_numberOf_2 (i64 ((i64 (2 * c1)) - 1))).bind fun y =>
  some y

noncomputable def layout_numberOf_4  : Option layout_number :=
  (layout_numberOf_2 1).bind fun y =>
  some y

noncomputable def layout_numberOf_5 (c1 : api_Param) : Option layout_number :=
  (layout_numberOf_2 (i64 ((c1.Names.length : Int) - 1))).bind fun y =>
  some y

noncomputable def layout_numberOf_6_1 (v : Int) (c0 : Int) : Option Int :=
  some (band .i64 v (i64 ((i64 (2 * c0)) - 1)))

noncomputable def layout_numberOf_6_2 (raw : Int) (c0 : Int) : Option (Int × Bool) :=
  if (decide (c0 ≤ raw)) = true then
  some ((i64 (raw - (i64 (2 * c0)))), true)
  else
  some (raw, true)

noncomputable def layout_numberOf_6 (c0 : Int) : Option layout_number :=
  some (layout_number.mk (i64 (-c0)) (i64 (c0 - 1)) (Fv.mk (fun z0 => layout_numberOf_6_1 z0 c0) 111 [.rp [.int .i64 c0] 0]) (Fv.mk (fun z0 => layout_numberOf_6_2 z0 c0) 112 [.rp [.int .i64 c0] 0]))

noncomputable def layout_numberOf_7_1 (v : Int) (c0 : Int) : Option Int :=
  if (decide (v < 0)) = true then
  some (i64 (c0 - v))
  else
  some v

noncomputable def layout_numberOf_7_2 (raw : Int) (c0 : Int) : Option (Int × Bool) :=
  if (decide (c0 ≤ raw)) = true then
  some ((i64 (c0 - raw)), (decide (c0 < raw)))
  else
  some (raw, true)

noncomputable def layout_numberOf_7 (c0 : Int) : Option layout_number :=
  some (layout_number.mk (i64 (1 - c0)) (i64 (c0 - 1)) (Fv.mk (fun z0 => layout_numberOf_7_1 z0 c0) 114 [.rp [.int .i64 c0] 0]) (Fv.mk (fun z0 => layout_numberOf_7_2 z0 c0) 115 [.rp [.int .i64 c0] 0]))

noncomputable def layout_numberOf_8_1_L1 (v2 : Int) (raw2 : Int) (shift : Int) : Option ((Int × Int × Int) ⊕ (Int)) :=
  if (decide (0 < v2)) = true then
  (rem v2 10).bind fun q =>
  (shl .i64 q shift).bind fun q2 =>
  (quo .i64 v2 10).bind fun q3 =>
  some (.inl (q3, (bor .i64 raw2 q2), (i64 (shift + 4))))
  else
  some (.inr raw2)

noncomputable def layout_numberOf_8_1 (v : Int) : Option Int :=
  ((loop (t3 (layout_numberOf_8_1_L1)) (v, 0, 0)) : Option ((Int))).bind (t1 fun (raw : Int) =>
  some raw)

noncomputable def layout_decimal_L1 (raw : Int) (v2 : Int) (ok2 : Bool) (shift : Int) : Option ((Int × Bool × Int) ⊕ (Int × Bool)) :=
  if (decide (0 ≤ shift)) = true then
  (shr .i64 raw shift).bind fun q =>
  some (.inl ((i64 ((i64 (v2 * 10)) + (band .i64 q 15))), (ok2 && (decide ((band .i64 q 15) < 10))), (i64 (shift - 4))))
  else
  some (.inr (v2, ok2))

noncomputable def layout_decimal (raw : Int) : Option (Int × Bool) :=
  ((loop (t3 (layout_decimal_L1 raw)) (0, true, 60)) : Option ((Int × Bool))).bind (t2 fun (v : Int) (ok : Bool) =>
  some (v, ok))

noncomputable def layout_numberOf_8_L1 (q : Int) (high2 : Int) (i : Int) : Option ((Int × Int) ⊕ (Int)) :=
  if (decide (i < q)) = true then
  some (.inl ((i64 (high2 * 10)), (i64 (i + 1))))
  else
  some (.inr high2)

noncomputable def layout_numberOf_8 (c0 : Int) : Option layout_number :=
  (((quo .i64 c0 4).bind fun q =>
  loop (t2 (layout_numberOf_8_L1 q)) (1, 0)) : Option ((Int))).bind (t1 fun (high : Int) =>
  some (layout_number.mk 0 (i64 (high - 1)) (Fv.mk (fun z0 => layout_numberOf_8_1 z0) 117 []) (Fv.mk (fun z0 => layout_decimal z0) 118 [])))

noncomputable def layout_numberOf (p : api_Param) : Option layout_number :=
  (layout_bitsOf p).bind fun y =>
  (shl .i64 1 (i64 (y - 1))).bind fun q =>
  if decide (p.Kind = 1) = true then
  (layout_numberOf_3 q).bind fun y2 =>
  some y2
  else
  if decide (p.Kind = 5) = true then
  (layout_numberOf_4).bind fun y3 =>
  some y3
  else
  if decide (p.Kind = 6) = true then
  (layout_numberOf_5 p).bind fun y4 =>
  some y4
  else
  if decide (p.Kind = 2) = true then
  (layout_numberOf_6 q).bind fun y5 =>
  some y5
  else
  if decide (p.Kind = 3) = true then
  (layout_numberOf_7 q).bind fun y6 =>
  some y6
  else
  if decide (p.Kind = 4) = true then
  (layout_numberOf_8 y).bind fun y7 =>
  some y7
  else
  none

noncomputable def layout_Pack_L1 (m : api_Map) (out2 : Vector (List Int) 16) (i : Int) : Option (((Vector (List Int) 16) × Int) ⊕ ((Vector (List Int) 16))) :=
  if (decide (i < 16)) = true then
  (mks 58 0).bind fun l2 =>
  (vidx out2 i).bind fun x =>
  (vidx (vset out2 i l2) i).bind fun l3 =>
  (vidx (vset out2 i l2) i).bind fun x2 =>
  (idx l3 0).bind fun x3 =>
  some (.inl ((vset (vset out2 i l2) i (l3.set (Int.toNat 0) m.Version)), (i64 (i + 1))))
  else
  some (.inr out2)

noncomputable def layout_Pack_L3 (x4 : api_Cell) (y5 : Int) (out6 : Vector (List Int) 16) (left : Int) (i3 : Int) : Option (((Vector (List Int) 16) × Int × Int) ⊕ ((Vector (List Int) 16))) :=
  if (decide (i3 < (x4.Places.length : Int))) = true then
  (idx x4.Places i3).bind fun x9 =>
  (vidx out6 x9.Frame).bind fun l4 =>
  (vidx out6 x9.Frame).bind fun x10 =>
  (idx l4 (i64 (x9.Word - 3))).bind fun x11 =>
  (shr .i64 y5 (i64 (left - x9.Bits))).bind fun q =>
  (shl .i64 1 x9.Bits).bind fun q2 =>
  (shl .i64 (band .i64 q (i64 (q2 - 1))) x9.Low).bind fun q3 =>
  (idx l4 (i64 (x9.Word - 3))).bind fun x12 =>
  some (.inl ((vset out6 x9.Frame (l4.set (i64 (x9.Word - 3)).toNat (bor .i64 x11 q3))), (i64 (left - x9.Bits)), (i64 (i3 + 1))))
  else
  some (.inr out6)

noncomputable def layout_Pack_L2 (m : api_Map) (l : List Int) (y2 : (List api_Cell)) (out4 : Vector (List Int) 16) (i2 : Int) : Option (((Vector (List Int) 16) × Int) ⊕ ((Vector (List Int) 16) × Int) ⊕ ((Vector (List Int) 16))) :=
  if (decide (i2 < (y2.length : Int))) = true then
  (((idx y2 i2).bind fun x4 =>
  (idx m.Params x4.Param).bind fun x5 =>
  (layout_numberOf x5).bind fun y3 =>
  (idx l i2).bind fun x6 =>
  (layout_within x6 y3.low y3.high).bind fun y4 =>
  if (!y4) = true then
  some (.inl ((Vector.replicate 16 []), 9))
  else
  (idx l i2).bind fun x7 =>
  (y3.encode.fn x7).bind fun y5 =>
  (idx m.Params x4.Param).bind fun x8 =>
  (layout_bitsOf x8).bind fun y6 =>
  (loop (t3 (layout_Pack_L3 x4 y5)) (out4, y6, 0)).bind (fun v => some (.inr v))) : Option (((Vector (List Int) 16) × Int) ⊕ ((Vector (List Int) 16)))).bind (Sum.elim (fun v => some (.inr (.inl v))) (t1 fun (out5 : Vector (List Int) 16) =>
  some (.inl (out5, (i64 (i2 + 1))))))
  else
  some (.inr (.inr out4))

noncomputable def layout_Pack (m : api_Map) (l : List Int) : Option ((Vector (List Int) 16) × Int) :=
  (layout_check m).bind fun y =>
  if (!decide (y.2 = 0)) = true then
  some ((Vector.replicate 16 []), y.2)
  else
  (layout_cells m).bind fun y2 =>
  if (!decide ((l.length : Int) = (y2.length : Int))) = true then
  some ((Vector.replicate 16 []), 3)
  else
  ((loop (t2 (layout_Pack_L1 m)) ((Vector.replicate 16 []), 0)) : Option (((Vector (List Int) 16)))).bind (t1 fun (out : Vector (List Int) 16) =>
  ((loop (t2 (layout_Pack_L2 m l y2)) (out, 0)) : Option (((Vector (List Int) 16) × Int) ⊕ ((Vector (List Int) 16)))).bind (Sum.elim (fun v => some v) (t1 fun (out3 : Vector (List Int) 16) =>
  some (out3, 0))))

noncomputable def ref2_outside (n : Int) (low : Int) (high : Int) : Option Bool :=
  some ((decide (n < low)) || (decide (high < n)))

noncomputable def ref2_IsName_L1 (s : Str) (i : Int) : Option ((Int) ⊕ (Bool) ⊕ (Unit)) :=
  if (decide (i < (s.length : Int))) = true then
  (sidx s i).bind fun b =>
  if (!(((decide (97 ≤ b)) && (decide (b ≤ 122))) || ((decide (0 < i)) && (((decide (48 ≤ b)) && (decide (b ≤ 57))) || (decide (b = 45)))))) = true then
  some (.inr (.inl false))
  else
  some (.inl (i64 (i + 1)))
  else
  some (.inr (.inr ()))

noncomputable def ref2_IsName (s : Str) : Option Bool :=
  ((loop (t1 (ref2_IsName_L1 s)) 0) : Option ((Bool) ⊕ (Unit))).bind (Sum.elim (fun v => some v) (t0 (some ((decide (1 ≤ (s.length : Int))) && (decide ((s.length : Int) ≤ 30))))))

noncomputable def ref2_bits_L1 (p : api_Param) (n2 : Int) (i : Int) : Option ((Int × Int) ⊕ (Int)) :=
  if (decide (i < (p.Parts.length : Int))) = true then
  (idx p.Parts i).bind fun x =>
  some (.inl ((i64 (n2 + x.Bits)), (i64 (i + 1))))
  else
  some (.inr n2)

noncomputable def ref2_bits (p : api_Param) : Option Int :=
  ((loop (t2 (ref2_bits_L1 p)) (0, 0)) : Option ((Int))).bind (t1 fun (n : Int) =>
  some n)

noncomputable def ref2_partsFault_L1 (p : api_Param) (i : Int) : Option ((Int) ⊕ (Int) ⊕ (Unit)) :=
  if (decide (i < (p.Parts.length : Int))) = true then
  (idx p.Parts i).bind fun x =>
  (ref2_outside x.Frame 0 15).bind fun y =>
  (gd (y == false) false (ref2_outside x.Word 4 60)).bind fun y2 =>
  (gd ((y || y2) == false) false (ref2_outside x.Low 0 10)).bind fun y3 =>
  (gd (((y || y2) || y3) == false) false (ref2_outside x.Bits 1 (i64 (11 - x.Low)))).bind fun y4 =>
  if (((y || y2) || y3) || y4) = true then
  some (.inr (.inl 9))
  else
  some (.inl (i64 (i + 1)))
  else
  some (.inr (.inr ()))

noncomputable def ref2_partsFault (p : api_Param) : Option Int :=
  if (decide ((p.Parts.length : Int) = 0)) = true then
  some 13
  else
  if (decide (8 < (p.Parts.length : Int))) = true then
  some 3
  else
  ((loop (t1 (ref2_partsFault_L1 p)) 0) : Option ((Int) ⊕ (Unit))).bind (Sum.elim (fun v => some v) (t0 ((ref2_bits p).bind fun y5 =>
  if (decide (40 < y5)) = true then
  some 3
  else
  some 0)))

noncomputable def ref2_timesFault_L1 (p : api_Param) (i : Int) : Option ((Int) ⊕ (Int) ⊕ (Unit)) :=
  if (decide (i < (p.Parts.length : Int))) = true then
  (idx p.Parts i).bind fun x =>
  if (((decide (1 < p.Times)) && (decide (57 < p.Step))) || (decide (60 < (i64 (x.Word + (i64 ((i64 (p.Times - 1)) * p.Step))))))) = true then
  some (.inr (.inl 9))
  else
  some (.inl (i64 (i + 1)))
  else
  some (.inr (.inr ()))

noncomputable def ref2_timesFault (p : api_Param) : Option Int :=
  ((if (decide (p.Every = 1)) = true then
  if (decide (p.Every = 1)) = true then
  some (.inr ())
  else
  some (.inl 9)
  else
  if (decide (p.Every = 2)) = true then
  if (decide (p.Every = 2)) = true then
  some (.inr ())
  else
  some (.inl 9)
  else
  if (decide (p.Every = 4)) = true then
  if (decide (p.Every = 4)) = true then
  some (.inr ())
  else
  some (.inl 9)
  else
  if (decide (p.Every = 8)) = true then
  if (decide (p.Every = 8)) = true then
  some (.inr ())
  else
  some (.inl 9)
  else
  if (decide (p.Every = 16)) = true then
  some (.inr ())
  else
  some (.inl 9)) : Option ((Int) ⊕ (Unit))).bind (Sum.elim (fun v => some v) (t0 ((ref2_outside p.First 0 (i64 (p.Every - 1))).bind fun y =>
  (gd (y == false) false (ref2_outside p.Times 1 57)).bind fun y2 =>
  if (((y || y2) || (decide (p.Step < 0))) || (!((decide (p.Step = 0)) == (decide (p.Times = 1))))) = true then
  some 9
  else
  ((loop (t1 (ref2_timesFault_L1 p)) 0) : Option ((Int) ⊕ (Unit))).bind (Sum.elim (fun v => some v) (t0 (some 0))))))

noncomputable def ref2_kindFault_L2 (x : Str) (l : List Str) (i2 : Int) : Option ((Int) ⊕ (Int) ⊕ (Unit)) :=
  if (decide (i2 < (l.length : Int))) = true then
  (idx l i2).bind fun x2 =>
  if (decide (x = x2)) = true then
  some (.inr (.inl 5))
  else
  some (.inl (i64 (i2 + 1)))
  else
  some (.inr (.inr ()))

noncomputable def ref2_kindFault_L1 (p : api_Param) (i : Int) : Option ((Int) ⊕ (Int) ⊕ (Unit)) :=
  if (decide (i < (p.Names.length : Int))) = true then
  (((idx p.Names i).bind fun x =>
  (ref2_IsName x).bind fun y2 =>
  if (!y2) = true then
  some (.inl 8)
  else
  (slc p.Names 0 i).bind fun l =>
  loop (t1 (ref2_kindFault_L2 x l)) 0) : Option ((Int) ⊕ (Unit))).bind (Sum.elim (fun v => some (.inr (.inl v))) (t0 (some (.inl (i64 (i + 1))))))
  else
  some (.inr (.inr ()))

noncomputable def ref2_kindFault (p : api_Param) : Option Int :=
  (ref2_bits p).bind fun y =>
  (gd ((decide (p.Kind = 4)) == true) 0 (rem y 4)).bind fun q =>
  if ((((decide (p.Kind = 4)) && (!decide (q = 0))) || ((decide (p.Kind = 5)) && (!decide (y = 1)))) || (((decide (p.Kind = 2)) || (decide (p.Kind = 3))) && (decide (y = 1)))) = true then
  some 2
  else
  if (!decide (p.Kind = 6)) = true then
  if (decide (0 < (p.Names.length : Int))) = true then
  some 2
  else
  some 0
  else
  if (decide ((p.Names.length : Int) = 0)) = true then
  some 13
  else
  (gd ((decide (64 < (p.Names.length : Int))) == false) 0 (shl .i64 1 y)).bind fun q2 =>
  if ((decide (64 < (p.Names.length : Int))) || (decide (q2 < (p.Names.length : Int)))) = true then
  some 3
  else
  ((loop (t1 (ref2_kindFault_L1 p)) 0) : Option ((Int) ⊕ (Unit))).bind (Sum.elim (fun v => some v) (t0 (some 0)))

noncomputable def ref2_cells_L2 (p : api_Param) (f : Int) (inside2 : Bool) (i : Int) : Option ((Bool × Int) ⊕ (Bool)) :=
  if (decide (i < (p.Parts.length : Int))) = true then
  (idx p.Parts i).bind fun x =>
  some (.inl ((inside2 && (decide ((i64 (f + x.Frame)) < 16))), (i64 (i + 1))))
  else
  some (.inr inside2)

noncomputable def ref2_cells_L4 (p : api_Param) (f : Int) (j : Int) (Places2 : List api_Place) (i2 : Int) : Option (((List api_Place) × Int) ⊕ ((List api_Place))) :=
  if (decide (i2 < (p.Parts.length : Int))) = true then
  (idx p.Parts i2).bind fun x2 =>
  (app Places2 ([(api_Place.mk (i64 (f + x2.Frame)) (i64 (x2.Word + (i64 (j * p.Step)))) x2.Low x2.Bits)] : List api_Place)).bind fun l =>
  some (.inl (l, (i64 (i2 + 1))))
  else
  some (.inr Places2)

noncomputable def ref2_cells_L3 (p : api_Param) (number : Int) (f : Int) (inside : Bool) (out4 : List api_Cell) (j : Int) : Option (((List api_Cell) × Int) ⊕ ((List api_Cell))) :=
  if ((decide (j < p.Times)) && inside) = true then
  ((loop (t2 (ref2_cells_L4 p f j)) ([], 0)) : Option (((List api_Place)))).bind (t1 fun (Places : List api_Place) =>
  (app out4 ([(api_Cell.mk number (out4.length : Int) f Places)] : List api_Cell)).bind fun l2 =>
  some (.inl (l2, (i64 (j + 1)))))
  else
  some (.inr out4)

noncomputable def ref2_cells_L1 (p : api_Param) (number : Int) (out2 : List api_Cell) (f : Int) : Option (((List api_Cell) × Int) ⊕ ((List api_Cell))) :=
  if (decide (f < 16)) = true then
  ((((loop (t2 (ref2_cells_L2 p f)) (true, 0)) : Option ((Bool))).bind (t1 fun (inside : Bool) =>
  loop (t2 (ref2_cells_L3 p number f inside)) (out2, 0))) : Option (((List api_Cell)))).bind (t1 fun (out3 : List api_Cell) =>
  some (.inl (out3, (i64 (f + p.Every)))))
  else
  some (.inr out2)

noncomputable def ref2_cells (p : api_Param) (number : Int) : Option (List api_Cell) :=
  ((loop (t2 (ref2_cells_L1 p number)) ([], p.First)) : Option (((List api_Cell)))).bind (t1 fun (out : List api_Cell) =>
  some out)

noncomputable def ref2_taken_take_L2 (x : api_Place) (o4 : List ((Vector Int 3) × Bool)) (ok4 : Bool) (b : Int) : Option (((List ((Vector Int 3) × Bool)) × Bool × Int) ⊕ ((List ((Vector Int 3) × Bool)) × Bool)) :=
  if (decide (b < (i64 (x.Low + x.Bits)))) = true then
  (gd (ok4 == true) false (some ((mget kqV o4 (#v[x.Frame, x.Word, b] : Vector Int 3)).getD false))).bind fun o5 =>
  some (.inl ((mput kqV o4 (#v[x.Frame, x.Word, b] : Vector Int 3) true), (ok4 && (!o5)), (i64 (b + 1))))
  else
  some (.inr (o4, ok4))

noncomputable def ref2_taken_take_L1 (l : List api_Place) (o2 : List ((Vector Int 3) × Bool)) (ok2 : Bool) (i : Int) : Option (((List ((Vector Int 3) × Bool)) × Bool × Int) ⊕ ((List ((Vector Int 3) × Bool)) × Bool)) :=
  if (decide (i < (l.length : Int))) = true then
  (((idx l i).bind fun x =>
  loop (t3 (ref2_taken_take_L2 x)) (o2, ok2, x.Low)) : Option (((List ((Vector Int 3) × Bool)) × Bool))).bind (t2 fun (o3 : List ((Vector Int 3) × Bool)) (ok3 : Bool) =>
  some (.inl (o3, ok3, (i64 (i + 1)))))
  else
  some (.inr (o2, ok2))

noncomputable def ref2_taken_take (t : List ((Vector Int 3) × Bool)) (l : List api_Place) : Option (Bool × (List ((Vector Int 3) × Bool))) :=
  ((loop (t3 (ref2_taken_take_L1 l)) (t, true, 0)) : Option (((List ((Vector Int 3) × Bool)) × Bool))).bind (t2 fun (o : List ((Vector Int 3) × Bool)) (ok : Bool) =>
  some (ok, o))

noncomputable def ref2_taken_takeAll_L1 (l : List api_Cell) (o2 : List ((Vector Int 3) × Bool)) (ok2 : Bool) (i : Int) : Option (((List ((Vector Int 3) × Bool)) × Bool × Int) ⊕ ((List ((Vector Int 3) × Bool)) × Bool)) :=
  if (decide (i < (l.length : Int))) = true then
  (idx l i).bind fun x =>
  (ref2_taken_take o2 x.Places).bind fun y =>
  if (!y.1) = true then
  some (.inl (y.2, false, (i64 (i + 1))))
  else
  some (.inl (y.2, ok2, (i64 (i + 1))))
  else
  some (.inr (o2, ok2))

noncomputable def ref2_taken_takeAll (t : List ((Vector Int 3) × Bool)) (l : List api_Cell) : Option (Bool × (List ((Vector Int 3) × Bool))) :=
  ((loop (t3 (ref2_taken_takeAll_L1 l)) (t, true, 0)) : Option (((List ((Vector Int 3) × Bool)) × Bool))).bind (t2 fun (o : List ((Vector Int 3) × Bool)) (ok : Bool) =>
  some (ok, o))

noncomputable def ref2_CheckParam (p : api_Param) : Option Int :=
  (ref2_IsName p.Name).bind fun y =>
  if (!y) = true then
  some 8
  else
  (ref2_outside p.Kind 1 6).bind fun y2 =>
  if y2 = true then
  some 7
  else
  (ref2_partsFault p).bind fun y3 =>
  if (!decide (y3 = 0)) = true then
  some y3
  else
  (ref2_timesFault p).bind fun y4 =>
  if (!decide (y4 = 0)) = true then
  some y4
  else
  (ref2_kindFault p).bind fun y5 =>
  if (!decide (y5 = 0)) = true then
  some y5
  else
  (ref2_cells p 0).bind fun y6 =>
  (ref2_taken_takeAll ([] : List ((Vector Int 3) × Bool)) y6).bind fun y7 =>
  if (!y7.1) = true then
  some 5
  else
  if (decide ((y6.length : Int) = 0)) = true then
  some 13
  else
  some 0

noncomputable def ref2_Check_L2 (i : Int) (x : api_Param) (l : List api_Param) (i2 : Int) : Option ((Int) ⊕ (Int × Int) ⊕ (Unit)) :=
  if (decide (i2 < (l.length : Int))) = true then
  (idx l i2).bind fun x2 =>
  if (decide (x2.Name = x.Name)) = true then
  some (.inr (.inl (i, 5)))
  else
  some (.inl (i64 (i2 + 1)))
  else
  some (.inr (.inr ()))

noncomputable def ref2_Check_L1 (m : api_Map) (i : Int) : Option ((Int) ⊕ (Int × Int) ⊕ (Unit)) :=
  if (decide (i < (m.Params.length : Int))) = true then
  (((idx m.Params i).bind fun x =>
  (ref2_CheckParam x).bind fun y2 =>
  if (!decide (y2 = 0)) = true then
  some (.inl (i, y2))
  else
  (slc m.Params 0 i).bind fun l =>
  loop (t1 (ref2_Check_L2 i x l)) 0) : Option ((Int × Int) ⊕ (Unit))).bind (Sum.elim (fun v => some (.inr (.inl v))) (t0 (some (.inl (i64 (i + 1))))))
  else
  some (.inr (.inr ()))

noncomputable def ref2_Check_L3 (m : api_Map) (n : Int) (i3 : Int) : Option ((Int × Int) ⊕ (Int × Int) ⊕ (Unit)) :=
  if (decide (i3 < (m.Params.length : Int))) = true then
  (idx m.Params i3).bind fun x3 =>
  (ref2_cells x3 i3).bind fun y3 =>
  if (decide (4000 < (i64 (n + (y3.length : Int))))) = true then
  some (.inr (.inl (i3, 3)))
  else
  some (.inl ((i64 (n + (y3.length : Int))), (i64 (i3 + 1))))
  else
  some (.inr (.inr ()))

noncomputable def ref2_Check_L4 (m : api_Map) (t : List ((Vector Int 3) × Bool)) (i4 : Int) : Option (((List ((Vector Int 3) × Bool)) × Int) ⊕ (Int × Int) ⊕ (Unit)) :=
  if (decide (i4 < (m.Params.length : Int))) = true then
  (idx m.Params i4).bind fun x4 =>
  (ref2_cells x4 i4).bind fun y4 =>
  (ref2_taken_takeAll t y4).bind fun y5 =>
  if (!y5.1) = true then
  some (.inr (.inl (i4, 5)))
  else
  some (.inl (y5.2, (i64 (i4 + 1))))
  else
  some (.inr (.inr ()))

noncomputable def ref2_Check (m : api_Map) : Option (Int × Int) :=
  (ref2_outside m.Version 0 2047).bind fun y =>
  if y = true then
  some (0, 9)
  else
  if (decide (200 < (m.Params.length : Int))) = true then
  some (0, 3)
  else
  ((loop (t1 (ref2_Check_L1 m)) 0) : Option ((Int × Int) ⊕ (Unit))).bind (Sum.elim (fun v => some v) (t0 (((loop (t2 (ref2_Check_L3 m)) (0, 0)) : Option ((Int × Int) ⊕ (Unit))).bind (Sum.elim (fun v => some v) (t0 (((loop (t2 (ref2_Check_L4 m)) (([] : List ((Vector Int 3) × Bool)), 0)) : Option ((Int × Int) ⊕ (Unit))).bind (Sum.elim (fun v => some v) (t0 (some (0, 0))))))))))

noncomputable def slices_IndexFunc_int_int_L1 (s : List Int) (f : Int → Option Bool) (i : Int) : Option ((Int) ⊕ (Int) ⊕ (Unit)) :=
  if (decide (i < (s.length : Int))) = true then
  (idx s i).bind fun x =>
  (f x).bind fun y =>
  if y = true then
  some (.inr (.inl i))
  else
  some (.inl (i64 (i + 1)))
  else
  some (.inr (.inr ()))

noncomputable def slices_IndexFunc_int_int (s : List Int) (f : Int → Option Bool) : Option Int :=
  ((loop (t1 (slices_IndexFunc_int_int_L1 s f)) 0) : Option ((Int) ⊕ (Unit))).bind (Sum.elim (fun v => some v) (t0 (some (-1))))

noncomputable def slices_ContainsFunc_int_int (s : List Int) (f : Int → Option Bool) : Option Bool :=
  (slices_IndexFunc_int_int s f).bind fun y =>
  some (decide (0 ≤ y))

noncomputable def layout_Unpack_1 (d : Int) : Option Bool :=
  (layout_within d 0 2047).bind fun y =>
  some (!y)

noncomputable def layout_rawOf_L1 (c_ : api_Cell) (l : Vector (List Int) 16) (raw2 : Int) (i : Int) : Option ((Int × Int) ⊕ (Int)) :=
  if (decide (i < (c_.Places.length : Int))) = true then
  (idx c_.Places i).bind fun x =>
  (shl .i64 raw2 x.Bits).bind fun q =>
  (vidx l x.Frame).bind fun x2 =>
  (idx x2 (i64 (x.Word - 3))).bind fun x3 =>
  (shr .i64 x3 x.Low).bind fun q2 =>
  (shl .i64 1 x.Bits).bind fun q3 =>
  some (.inl ((bor .i64 q (band .i64 q2 (i64 (q3 - 1)))), (i64 (i + 1))))
  else
  some (.inr raw2)

noncomputable def layout_rawOf (c_ : api_Cell) (l : Vector (List Int) 16) : Option Int :=
  ((loop (t2 (layout_rawOf_L1 c_ l)) (0, 0)) : Option ((Int))).bind (t1 fun (raw : Int) =>
  some raw)

noncomputable def layout_decoded (p : api_Param) (raw : Int) : Option (Int × Bool) :=
  (layout_numberOf p).bind fun y =>
  (y.decode.fn raw).bind fun y2 =>
  if (!y2.2) = true then
  some (0, false)
  else
  some (y2.1, true)

noncomputable def layout_Unpack_L1 (l : Vector (List Int) 16) (i : Int) : Option ((Int) ⊕ ((List api_Reading) × Int) ⊕ (Unit)) :=
  if (decide (i < 16)) = true then
  (vidx l i).bind fun x =>
  if (!decide ((x.length : Int) = 58)) = true then
  some (.inr (.inl ([], 3)))
  else
  (slices_ContainsFunc_int_int x (fun z0 => layout_Unpack_1 z0)).bind fun y2 =>
  if y2 = true then
  some (.inr (.inl ([], 9)))
  else
  some (.inl (i64 (i + 1)))
  else
  some (.inr (.inr ()))

noncomputable def layout_Unpack_L2 (m : api_Map) (l : Vector (List Int) 16) (i2 : Int) : Option ((Int) ⊕ ((List api_Reading) × Int) ⊕ (Unit)) :=
  if (decide (i2 < 16)) = true then
  (vidx l i2).bind fun x2 =>
  (idx x2 0).bind fun x3 =>
  if (!decide (x3 = m.Version)) = true then
  some (.inr (.inl ([], 11)))
  else
  some (.inl (i64 (i2 + 1)))
  else
  some (.inr (.inr ()))

noncomputable def layout_Unpack_L3 (m : api_Map) (l : Vector (List Int) 16) (y3 : (List api_Cell)) (out2 : List api_Reading) (i3 : Int) : Option (((List api_Reading) × Int) ⊕ ((List api_Reading))) :=
  if (decide (i3 < (y3.length : Int))) = true then
  (idx y3 i3).bind fun x4 =>
  (idx m.Params x4.Param).bind fun x5 =>
  (layout_rawOf x4 l).bind fun y4 =>
  (layout_decoded x5 y4).bind fun y5 =>
  (app out2 ([(api_Reading.mk x4.Param x4.Index y5.1 y5.2)] : List api_Reading)).bind fun l2 =>
  some (.inl (l2, (i64 (i3 + 1))))
  else
  some (.inr out2)

noncomputable def layout_Unpack (m : api_Map) (l : Vector (List Int) 16) : Option ((List api_Reading) × Int) :=
  (layout_check m).bind fun y =>
  if (!decide (y.2 = 0)) = true then
  some ([], y.2)
  else
  ((loop (t1 (layout_Unpack_L1 l)) 0) : Option (((List api_Reading) × Int) ⊕ (Unit))).bind (Sum.elim (fun v => some v) (t0 (((loop (t1 (layout_Unpack_L2 m l)) 0) : Option (((List api_Reading) × Int) ⊕ (Unit))).bind (Sum.elim (fun v => some v) (t0 ((((layout_cells m).bind fun y3 =>
  loop (t2 (layout_Unpack_L3 m l y3)) ([], 0)) : Option (((List api_Reading)))).bind (t1 fun (out : List api_Reading) =>
  some (out, 0))))))))

noncomputable def law2_mapped  : Option Bool :=
  (layout_Pack (api_Map.mk 3 ([(api_Param.mk [97] 2 ([(api_Part.mk 0 9 2 3)] : List api_Part) 2 8 2 1 [])] : List api_Param)) ([(-1), 3, 0, (-4)] : List Int)).bind fun y =>
  (gd ((!decide (y.2 = 0)) == false) [] (vidx y.1 2)).bind fun x =>
  (gd (((!decide (y.2 = 0)) || (!decide ((x.length : Int) = 58))) == false) [] (vidx y.1 5)).bind fun x2 =>
  (gd ((((!decide (y.2 = 0)) || (!decide ((x.length : Int) = 58))) || (!decide ((x2.length : Int) = 58))) == false) [] (vidx y.1 10)).bind fun x3 =>
  (gd (((((!decide (y.2 = 0)) || (!decide ((x.length : Int) = 58))) || (!decide ((x2.length : Int) = 58))) || (!decide ((x3.length : Int) = 58))) == false) [] (vidx y.1 2)).bind fun x4 =>
  (gd (((((!decide (y.2 = 0)) || (!decide ((x.length : Int) = 58))) || (!decide ((x2.length : Int) = 58))) || (!decide ((x3.length : Int) = 58))) == false) 0 (idx x4 6)).bind fun x5 =>
  (gd ((((((!decide (y.2 = 0)) || (!decide ((x.length : Int) = 58))) || (!decide ((x2.length : Int) = 58))) || (!decide ((x3.length : Int) = 58))) || (!decide (x5 = 28))) == false) [] (vidx y.1 2)).bind fun x6 =>
  (gd ((((((!decide (y.2 = 0)) || (!decide ((x.length : Int) = 58))) || (!decide ((x2.length : Int) = 58))) || (!decide ((x3.length : Int) = 58))) || (!decide (x5 = 28))) == false) 0 (idx x6 7)).bind fun x7 =>
  (gd (((((((!decide (y.2 = 0)) || (!decide ((x.length : Int) = 58))) || (!decide ((x2.length : Int) = 58))) || (!decide ((x3.length : Int) = 58))) || (!decide (x5 = 28))) || (!decide (x7 = 12))) == false) [] (vidx y.1 10)).bind fun x8 =>
  (gd (((((((!decide (y.2 = 0)) || (!decide ((x.length : Int) = 58))) || (!decide ((x2.length : Int) = 58))) || (!decide ((x3.length : Int) = 58))) || (!decide (x5 = 28))) || (!decide (x7 = 12))) == false) 0 (idx x8 6)).bind fun x9 =>
  (gd ((((((((!decide (y.2 = 0)) || (!decide ((x.length : Int) = 58))) || (!decide ((x2.length : Int) = 58))) || (!decide ((x3.length : Int) = 58))) || (!decide (x5 = 28))) || (!decide (x7 = 12))) || (!decide (x9 = 0))) == false) [] (vidx y.1 10)).bind fun x10 =>
  (gd ((((((((!decide (y.2 = 0)) || (!decide ((x.length : Int) = 58))) || (!decide ((x2.length : Int) = 58))) || (!decide ((x3.length : Int) = 58))) || (!decide (x5 = 28))) || (!decide (x7 = 12))) || (!decide (x9 = 0))) == false) 0 (idx x10 7)).bind fun x11 =>
  (gd (((((((((!decide (y.2 = 0)) || (!decide ((x.length : Int) = 58))) || (!decide ((x2.length : Int) = 58))) || (!decide ((x3.length : Int) = 58))) || (!decide (x5 = 28))) || (!decide (x7 = 12))) || (!decide (x9 = 0))) || (!decide (x11 = 16))) == false) [] (vidx y.1 5)).bind fun x12 =>
  (gd (((((((((!decide (y.2 = 0)) || (!decide ((x.length : Int) = 58))) || (!decide ((x2.length : Int) = 58))) || (!decide ((x3.length : Int) = 58))) || (!decide (x5 = 28))) || (!decide (x7 = 12))) || (!decide (x9 = 0))) || (!decide (x11 = 16))) == false) 0 (idx x12 0)).bind fun x13 =>
  if (((((((((!decide (y.2 = 0)) || (!decide ((x.length : Int) = 58))) || (!decide ((x2.length : Int) = 58))) || (!decide ((x3.length : Int) = 58))) || (!decide (x5 = 28))) || (!decide (x7 = 12))) || (!decide (x9 = 0))) || (!decide (x11 = 16))) || (!decide (x13 = 3))) = true then
  some false
  else
  (layout_Unpack (api_Map.mk 3 ([(api_Param.mk [97] 2 ([(api_Part.mk 0 9 2 3)] : List api_Part) 2 8 2 1 [])] : List api_Param)) y.1).bind fun y2 =>
  (gd (((decide (y2.2 = 0)) && (decide ((y2.1.length : Int) = 4))) == true) (api_Reading.mk 0 0 0 false) (idx y2.1 3)).bind fun x14 =>
  some (((decide (y2.2 = 0)) && (decide ((y2.1.length : Int) = 4))) && (decide (x14.Param = 0) && (decide (x14.Index = 3) && (decide (x14.Value = (-4)) && ((x14.Good == true) && true)))))

end Go.Vx
