/- A text of the proof: a verified executor of the program form, or the contracts of the functions that the law reaches. -/
import Derived.Test.YtciaeohnkfnamaaDoorShLib
set_option linter.all false
namespace Go.Vx
open Go Go.RowKit
set_option linter.unusedVariables false
structure api_Part where
  Frame : Int
  Word : Int
  Low : Int
  Bits : Int
structure api_Param where
  Name : Str
  Kind : Int
  Parts : List api_Part
  First : Int
  Every : Int
  Times : Int
  Step : Int
  Names : List Str
structure layout_bit where
  frame : Int
  word : Int
  bit : Int
structure api_Place where
  Frame : Int
  Word : Int
  Low : Int
  Bits : Int
structure api_Cell where
  Param : Int
  Index : Int
  Frame : Int
  Places : List api_Place
structure api_Map where
  Version : Int
  Params : List api_Param
structure ref0_Ink where
  out : List Int
structure api_Sample where
  At : Int
  N : Int
  Mark : Int
structure api_Series where
  Den : Int
  Samples : List api_Sample

noncomputable def layout_isName_1 (c_ : Int) : Option Bool :=
  some (!((((decide (97 ≤ c_)) && (decide (c_ ≤ 122))) || ((decide (48 ≤ c_)) && (decide (c_ ≤ 57)))) || (decide (c_ = 45))))

noncomputable def layout_isName (s : Str) : Option Bool :=
  (gd (((decide ((s.length : Int) < 1)) || (decide (30 < (s.length : Int)))) == false) 0 (sidx s 0)).bind fun b =>
  (gd ((((decide ((s.length : Int) < 1)) || (decide (30 < (s.length : Int)))) || (decide (b < 97))) == false) 0 (sidx s 0)).bind fun b2 =>
  if ((((decide ((s.length : Int) < 1)) || (decide (30 < (s.length : Int)))) || (decide (b < 97))) || (decide (122 < b2))) = true then
  some false
  else
  (containsFunc s (fun z0 => layout_isName_1 z0)).bind fun y =>
  some (!y)

noncomputable def layout_within (n : Int) (low : Int) (high : Int) : Option Bool :=
  some ((decide (low ≤ n)) && (decide (n ≤ high)))

noncomputable def layout_bitsOf_L1 (p : api_Param) (n2 : Int) (i : Int) : Option ((Int × Int) ⊕ (Int)) :=
  if (decide (i < (p.Parts.length : Int))) = true then
  (idx p.Parts i).bind fun x =>
  some (.inl ((i64 (n2 + x.Bits)), (i64 (i + 1))))
  else
  some (.inr n2)

noncomputable def layout_bitsOf (p : api_Param) : Option Int :=
  ((loop (t2 (layout_bitsOf_L1 p)) (0, 0)) : Option ((Int))).bind (t1 fun (n : Int) =>
  some n)

noncomputable def slices_Index_int_int_L1 (s : List Int) (v : Int) (i : Int) : Option ((Int) ⊕ (Int) ⊕ (Unit)) :=
  if (decide (i < (s.length : Int))) = true then
  (idx s i).bind fun x =>
  if (decide (v = x)) = true then
  some (.inr (.inl i))
  else
  some (.inl (i64 (i + 1)))
  else
  some (.inr (.inr ()))

noncomputable def slices_Index_int_int (s : List Int) (v : Int) : Option Int :=
  ((loop (t1 (slices_Index_int_int_L1 s v)) 0) : Option ((Int) ⊕ (Unit))).bind (Sum.elim (fun q' => some q') (t0 (some (-1))))

noncomputable def slices_Contains_int_int (s : List Int) (v : Int) : Option Bool :=
  (slices_Index_int_int s v).bind fun y =>
  some (decide (0 ≤ y))

noncomputable def layout_checkParts_L1 (p : api_Param) (i : Int) : Option ((Int) ⊕ (Int) ⊕ (Unit)) :=
  if (decide (i < (p.Parts.length : Int))) = true then
  (idx p.Parts i).bind fun x =>
  (layout_within x.Frame 0 15).bind fun y =>
  (gd ((!y) == false) false (layout_within x.Word 4 60)).bind fun y2 =>
  (gd (((!y) || (!y2)) == false) false (layout_within x.Low 0 10)).bind fun y3 =>
  (gd ((((!y) || (!y2)) || (!y3)) == false) false (layout_within x.Bits 1 (i64 (11 - x.Low)))).bind fun y4 =>
  if ((((!y) || (!y2)) || (!y3)) || (!y4)) = true then
  some (.inr (.inl 9))
  else
  some (.inl (i64 (i + 1)))
  else
  some (.inr (.inr ()))

noncomputable def layout_checkParts_L2 (p : api_Param) (i2 : Int) : Option ((Int) ⊕ (Int) ⊕ (Unit)) :=
  if (decide (i2 < (p.Parts.length : Int))) = true then
  (idx p.Parts i2).bind fun x2 =>
  if ((decide (60 < p.Step)) || (decide (60 < (i64 (x2.Word + (i64 ((i64 (p.Times - 1)) * p.Step))))))) = true then
  some (.inr (.inl 9))
  else
  some (.inl (i64 (i2 + 1)))
  else
  some (.inr (.inr ()))

noncomputable def layout_checkParts (p : api_Param) : Option Int :=
  if (decide ((p.Parts.length : Int) = 0)) = true then
  some 13
  else
  if (decide (8 < (p.Parts.length : Int))) = true then
  some 3
  else
  ((loop (t1 (layout_checkParts_L1 p)) 0) : Option ((Int) ⊕ (Unit))).bind (Sum.elim (fun q' => some q') (t0 ((layout_bitsOf p).bind fun y5 =>
  if (decide (40 < y5)) = true then
  some 3
  else
  (slices_Contains_int_int ([1, 2, 4, 8, 16] : List Int) p.Every).bind fun y6 =>
  (gd ((!y6) == false) false (layout_within p.First 0 (i64 (p.Every - 1)))).bind fun y7 =>
  (gd (((!y6) || (!y7)) == false) false (layout_within p.Times 1 57)).bind fun y8 =>
  if (((((!y6) || (!y7)) || (!y8)) || (decide (p.Step < 0))) || (!((decide (p.Step = 0)) == (decide (p.Times = 1))))) = true then
  some 9
  else
  ((loop (t1 (layout_checkParts_L2 p)) 0) : Option ((Int) ⊕ (Unit))).bind (Sum.elim (fun q' => some q') (t0 (some 0))))))

noncomputable def slices_Index_string_string_L1 (s : List Str) (v : Str) (i : Int) : Option ((Int) ⊕ (Int) ⊕ (Unit)) :=
  if (decide (i < (s.length : Int))) = true then
  (idx s i).bind fun x =>
  if (decide (v = x)) = true then
  some (.inr (.inl i))
  else
  some (.inl (i64 (i + 1)))
  else
  some (.inr (.inr ()))

noncomputable def slices_Index_string_string (s : List Str) (v : Str) : Option Int :=
  ((loop (t1 (slices_Index_string_string_L1 s v)) 0) : Option ((Int) ⊕ (Unit))).bind (Sum.elim (fun q' => some q') (t0 (some (-1))))

noncomputable def slices_Contains_string_string (s : List Str) (v : Str) : Option Bool :=
  (slices_Index_string_string s v).bind fun y =>
  some (decide (0 ≤ y))

noncomputable def layout_checkNames_L1 (p : api_Param) (i : Int) : Option ((Int) ⊕ (Int) ⊕ (Unit)) :=
  if (decide (i < (p.Names.length : Int))) = true then
  (idx p.Names i).bind fun x =>
  (layout_isName x).bind fun y2 =>
  if (!y2) = true then
  some (.inr (.inl 8))
  else
  (slc p.Names 0 i).bind fun l =>
  (slices_Contains_string_string l x).bind fun y3 =>
  if y3 = true then
  some (.inr (.inl 5))
  else
  some (.inl (i64 (i + 1)))
  else
  some (.inr (.inr ()))

noncomputable def layout_checkNames (p : api_Param) : Option Int :=
  (layout_bitsOf p).bind fun y =>
  (gd ((decide (p.Kind = 4)) == true) 0 (rem y 4)).bind fun q =>
  if ((((decide (p.Kind = 4)) && (!decide (q = 0))) || ((decide (p.Kind = 5)) && (!decide (y = 1)))) || (((decide (p.Kind = 2)) || (decide (p.Kind = 3))) && (decide (y = 1)))) = true then
  some 2
  else
  if (!decide (p.Kind = 6)) = true then
  if (decide (0 < (p.Names.length : Int))) = true then
  some 2
  else
  some 0
  else
  if (decide ((p.Names.length : Int) = 0)) = true then
  some 13
  else
  (gd ((decide (64 < (p.Names.length : Int))) == false) 0 (shl .i64 1 y)).bind fun q2 =>
  if ((decide (64 < (p.Names.length : Int))) || (decide (q2 < (p.Names.length : Int)))) = true then
  some 3
  else
  ((loop (t1 (layout_checkNames_L1 p)) 0) : Option ((Int) ⊕ (Unit))).bind (Sum.elim (fun q' => some q') (t0 (some 0)))

noncomputable def slices_IndexFunc_api_Part_api_Part_L1 (s : List api_Part) (f : api_Part → Option Bool) (i : Int) : Option ((Int) ⊕ (Int) ⊕ (Unit)) :=
  if (decide (i < (s.length : Int))) = true then
  (idx s i).bind fun x =>
  (f x).bind fun y =>
  if y = true then
  some (.inr (.inl i))
  else
  some (.inl (i64 (i + 1)))
  else
  some (.inr (.inr ()))

noncomputable def slices_IndexFunc_api_Part_api_Part (s : List api_Part) (f : api_Part → Option Bool) : Option Int :=
  ((loop (t1 (slices_IndexFunc_api_Part_api_Part_L1 s f)) 0) : Option ((Int) ⊕ (Unit))).bind (Sum.elim (fun q' => some q') (t0 (some (-1))))

noncomputable def slices_ContainsFunc_api_Part_api_Part (s : List api_Part) (f : api_Part → Option Bool) : Option Bool :=
  (slices_IndexFunc_api_Part_api_Part s f).bind fun y =>
  some (decide (0 ≤ y))

noncomputable def layout_starts_1 (x : api_Part) (c0 : Int) : Option Bool :=
  some (decide (16 ≤ (i64 (c0 + x.Frame))))

noncomputable def layout_starts_L1 (p : api_Param) (out2 : List Int) (f : Int) : Option (((List Int) × Int) ⊕ ((List Int))) :=
  if (decide (f < 16)) = true then
  (((slices_ContainsFunc_api_Part_api_Part p.Parts (fun z0 => layout_starts_1 z0 f)).bind fun y =>
  if (!y) = true then
  (app out2 ([f] : List Int)).bind fun l =>
  some l
  else
  some out2) : Option (((List Int)))).bind (t1 fun (out3 : List Int) =>
  some (.inl (out3, (i64 (f + p.Every)))))
  else
  some (.inr out2)

noncomputable def layout_starts (p : api_Param) : Option (List Int) :=
  ((loop (t2 (layout_starts_L1 p)) ([], p.First)) : Option (((List Int)))).bind (t1 fun (out : List Int) =>
  some out)

noncomputable def layout_placeOf (p : api_Param) (x : api_Part) (f : Int) (j : Int) : Option api_Place :=
  some (api_Place.mk (i64 (f + x.Frame)) (i64 (x.Word + (i64 (j * p.Step)))) x.Low x.Bits)

noncomputable def layout_cellsOf_L3 (p : api_Param) (x : Int) (i2 : Int) (Places2 : List api_Place) (i3 : Int) : Option (((List api_Place) × Int) ⊕ ((List api_Place))) :=
  if (decide (i3 < (p.Parts.length : Int))) = true then
  (idx p.Parts i3).bind fun x2 =>
  (layout_placeOf p x2 x i2).bind fun y2 =>
  (app Places2 ([y2] : List api_Place)).bind fun l =>
  some (.inl (l, (i64 (i3 + 1))))
  else
  some (.inr Places2)

noncomputable def layout_cellsOf_L2 (number : Int) (p : api_Param) (x : Int) (out4 : List api_Cell) (i2 : Int) : Option (((List api_Cell) × Int) ⊕ ((List api_Cell))) :=
  if (decide (i2 < p.Times)) = true then
  ((loop (t2 (layout_cellsOf_L3 p x i2)) ([], 0)) : Option (((List api_Place)))).bind (t1 fun (Places : List api_Place) =>
  (app out4 ([(api_Cell.mk number (out4.length : Int) x Places)] : List api_Cell)).bind fun l2 =>
  some (.inl (l2, (i64 (i2 + 1)))))
  else
  some (.inr out4)

noncomputable def layout_cellsOf_L1 (number : Int) (p : api_Param) (y : (List Int)) (out2 : List api_Cell) (i : Int) : Option (((List api_Cell) × Int) ⊕ ((List api_Cell))) :=
  if (decide (i < (y.length : Int))) = true then
  (((idx y i).bind fun x =>
  loop (t2 (layout_cellsOf_L2 number p x)) (out2, 0)) : Option (((List api_Cell)))).bind (t1 fun (out3 : List api_Cell) =>
  some (.inl (out3, (i64 (i + 1)))))
  else
  some (.inr out2)

noncomputable def layout_cellsOf (number : Int) (p : api_Param) : Option (List api_Cell) :=
  (((layout_starts p).bind fun y =>
  loop (t2 (layout_cellsOf_L1 number p y)) ([], 0)) : Option (((List api_Cell)))).bind (t1 fun (out : List api_Cell) =>
  some out)

def kq_layout_bit (a b : layout_bit) : Bool := (decide (a.frame = b.frame) && (decide (a.word = b.word) && (decide (a.bit = b.bit) && true)))

noncomputable def layout_bitsAt_L1 (x : api_Place) (out2 : List layout_bit) (i : Int) : Option (((List layout_bit) × Int) ⊕ ((List layout_bit))) :=
  if (decide (i < x.Bits)) = true then
  (app out2 ([(layout_bit.mk x.Frame x.Word (i64 (x.Low + i)))] : List layout_bit)).bind fun l =>
  some (.inl (l, (i64 (i + 1))))
  else
  some (.inr out2)

noncomputable def layout_bitsAt (x : api_Place) : Option (List layout_bit) :=
  ((loop (t2 (layout_bitsAt_L1 x)) ([], 0)) : Option (((List layout_bit)))).bind (t1 fun (out : List layout_bit) =>
  some out)

noncomputable def layout_take_L2 (owner : Int) (y : (List layout_bit)) (o4 : List (layout_bit × Int)) (i2 : Int) : Option (((List (layout_bit × Int)) × Int) ⊕ (Bool × (List (layout_bit × Int))) ⊕ ((List (layout_bit × Int)))) :=
  if (decide (i2 < (y.length : Int))) = true then
  (idx y i2).bind fun x2 =>
  (some (mget kq_layout_bit o4 x2)).bind fun o5 =>
  if o5.isSome = true then
  some (.inr (.inl (false, o4)))
  else
  some (.inl ((mput kq_layout_bit o4 x2 owner), (i64 (i2 + 1))))
  else
  some (.inr (.inr o4))

noncomputable def layout_take_L1 (owner : Int) (l : List api_Place) (o2 : List (layout_bit × Int)) (i : Int) : Option (((List (layout_bit × Int)) × Int) ⊕ (Bool × (List (layout_bit × Int))) ⊕ ((List (layout_bit × Int)))) :=
  if (decide (i < (l.length : Int))) = true then
  (((idx l i).bind fun x =>
  (layout_bitsAt x).bind fun y =>
  loop (t2 (layout_take_L2 owner y)) (o2, 0)) : Option ((Bool × (List (layout_bit × Int))) ⊕ ((List (layout_bit × Int))))).bind (Sum.elim (fun q' => some (.inr (.inl q'))) (t1 fun (o3 : List (layout_bit × Int)) =>
  some (.inl (o3, (i64 (i + 1))))))
  else
  some (.inr (.inr o2))

noncomputable def layout_take (taken : List (layout_bit × Int)) (owner : Int) (l : List api_Place) : Option (Bool × (List (layout_bit × Int))) :=
  ((loop (t2 (layout_take_L1 owner l)) (taken, 0)) : Option ((Bool × (List (layout_bit × Int))) ⊕ ((List (layout_bit × Int))))).bind (Sum.elim (fun q' => some q') (t1 fun (o : List (layout_bit × Int)) =>
  some (true, o)))

noncomputable def layout_CheckParam_L1 (y5 : (List api_Cell)) (taken : List (layout_bit × Int)) (i : Int) : Option (((List (layout_bit × Int)) × Int) ⊕ (Int) ⊕ (Unit)) :=
  if (decide (i < (y5.length : Int))) = true then
  (idx y5 i).bind fun x =>
  (layout_take taken 0 x.Places).bind fun y6 =>
  if (!y6.1) = true then
  some (.inr (.inl 5))
  else
  some (.inl (y6.2, (i64 (i + 1))))
  else
  some (.inr (.inr ()))

noncomputable def layout_CheckParam (p : api_Param) : Option Int :=
  (layout_isName p.Name).bind fun y =>
  if (!y) = true then
  some 8
  else
  (layout_within p.Kind 1 6).bind fun y2 =>
  if (!y2) = true then
  some 7
  else
  (layout_checkParts p).bind fun y3 =>
  if (!decide (y3 = 0)) = true then
  some y3
  else
  (layout_checkNames p).bind fun y4 =>
  if (!decide (y4 = 0)) = true then
  some y4
  else
  (layout_cellsOf 0 p).bind fun y5 =>
  ((loop (t2 (layout_CheckParam_L1 y5)) (([] : List (layout_bit × Int)), 0)) : Option ((Int) ⊕ (Unit))).bind (Sum.elim (fun q' => some q') (t0 (if (decide ((y5.length : Int) = 0)) = true then
  some 13
  else
  some 0)))

noncomputable def series_within (n : Int) (low : Int) (high : Int) : Option Bool :=
  some ((decide (low ≤ n)) && (decide (n ≤ high)))

noncomputable def slices_IndexFunc_api_Param_api_Param_L1 (s : List api_Param) (f : api_Param → Option Bool) (i : Int) : Option ((Int) ⊕ (Int) ⊕ (Unit)) :=
  if (decide (i < (s.length : Int))) = true then
  (idx s i).bind fun x =>
  (f x).bind fun y =>
  if y = true then
  some (.inr (.inl i))
  else
  some (.inl (i64 (i + 1)))
  else
  some (.inr (.inr ()))

noncomputable def slices_IndexFunc_api_Param_api_Param (s : List api_Param) (f : api_Param → Option Bool) : Option Int :=
  ((loop (t1 (slices_IndexFunc_api_Param_api_Param_L1 s f)) 0) : Option ((Int) ⊕ (Unit))).bind (Sum.elim (fun q' => some q') (t0 (some (-1))))

noncomputable def slices_ContainsFunc_api_Param_api_Param (s : List api_Param) (f : api_Param → Option Bool) : Option Bool :=
  (slices_IndexFunc_api_Param_api_Param s f).bind fun y =>
  some (decide (0 ≤ y))

noncomputable def layout_check_1 (q : api_Param) (c0 : api_Param) : Option Bool :=
  some (decide (q.Name = c0.Name))

noncomputable def layout_check_L1 (m : api_Map) (i : Int) : Option ((Int) ⊕ (Int × Int) ⊕ (Unit)) :=
  if (decide (i < (m.Params.length : Int))) = true then
  (idx m.Params i).bind fun x =>
  (layout_CheckParam x).bind fun y2 =>
  if (!decide (y2 = 0)) = true then
  some (.inr (.inl (i, y2)))
  else
  (slc m.Params 0 i).bind fun l =>
  (slices_ContainsFunc_api_Param_api_Param l (fun z0 => layout_check_1 z0 x)).bind fun y3 =>
  if y3 = true then
  some (.inr (.inl (i, 5)))
  else
  some (.inl (i64 (i + 1)))
  else
  some (.inr (.inr ()))

noncomputable def layout_check_L2 (m : api_Map) (cells : Int) (i2 : Int) : Option ((Int × Int) ⊕ (Int × Int) ⊕ (Unit)) :=
  if (decide (i2 < (m.Params.length : Int))) = true then
  (idx m.Params i2).bind fun x2 =>
  (layout_starts x2).bind fun y4 =>
  if (decide (4000 < (i64 (cells + (i64 ((y4.length : Int) * x2.Times)))))) = true then
  some (.inr (.inl (i2, 3)))
  else
  some (.inl ((i64 (cells + (i64 ((y4.length : Int) * x2.Times)))), (i64 (i2 + 1))))
  else
  some (.inr (.inr ()))

noncomputable def layout_check_L4 (i3 : Int) (y5 : (List api_Cell)) (taken3 : List (layout_bit × Int)) (i4 : Int) : Option (((List (layout_bit × Int)) × Int) ⊕ (Int × Int) ⊕ ((List (layout_bit × Int)))) :=
  if (decide (i4 < (y5.length : Int))) = true then
  (idx y5 i4).bind fun x4 =>
  (layout_take taken3 i3 x4.Places).bind fun y6 =>
  if (!y6.1) = true then
  some (.inr (.inl (i3, 5)))
  else
  some (.inl (y6.2, (i64 (i4 + 1))))
  else
  some (.inr (.inr taken3))

noncomputable def layout_check_L3 (m : api_Map) (taken : List (layout_bit × Int)) (i3 : Int) : Option (((List (layout_bit × Int)) × Int) ⊕ (Int × Int) ⊕ (Unit)) :=
  if (decide (i3 < (m.Params.length : Int))) = true then
  (((idx m.Params i3).bind fun x3 =>
  (layout_cellsOf i3 x3).bind fun y5 =>
  loop (t2 (layout_check_L4 i3 y5)) (taken, 0)) : Option ((Int × Int) ⊕ ((List (layout_bit × Int))))).bind (Sum.elim (fun q' => some (.inr (.inl q'))) (t1 fun (taken2 : List (layout_bit × Int)) =>
  some (.inl (taken2, (i64 (i3 + 1))))))
  else
  some (.inr (.inr ()))

noncomputable def layout_check (m : api_Map) : Option (Int × Int) :=
  (layout_within m.Version 0 2047).bind fun y =>
  if (!y) = true then
  some ((-1), 9)
  else
  if (decide (200 < (m.Params.length : Int))) = true then
  some ((-1), 3)
  else
  ((loop (t1 (layout_check_L1 m)) 0) : Option ((Int × Int) ⊕ (Unit))).bind (Sum.elim (fun q' => some q') (t0 (((loop (t2 (layout_check_L2 m)) (0, 0)) : Option ((Int × Int) ⊕ (Unit))).bind (Sum.elim (fun q' => some q') (t0 (((loop (t2 (layout_check_L3 m)) (([] : List (layout_bit × Int)), 0)) : Option ((Int × Int) ⊕ (Unit))).bind (Sum.elim (fun q' => some q') (t0 (some ((-1), 0))))))))))

noncomputable def layout_cells_L1 (m : api_Map) (out2 : List api_Cell) (i : Int) : Option (((List api_Cell) × Int) ⊕ ((List api_Cell))) :=
  if (decide (i < (m.Params.length : Int))) = true then
  (idx m.Params i).bind fun x =>
  (layout_cellsOf i x).bind fun y =>
  (app out2 y).bind fun l =>
  some (.inl (l, (i64 (i + 1))))
  else
  some (.inr out2)

noncomputable def layout_cells (m : api_Map) : Option (List api_Cell) :=
  ((loop (t2 (layout_cells_L1 m)) ([], 0)) : Option (((List api_Cell)))).bind (t1 fun (out : List api_Cell) =>
  some out)

noncomputable def layout_Cells (m : api_Map) : Option ((List api_Cell) × Int) :=
  (layout_check m).bind fun y =>
  if (!decide (y.2 = 0)) = true then
  some ([], y.2)
  else
  (layout_cells m).bind fun y2 =>
  some (y2, 0)

noncomputable def series_sampleTimes_L1 (p : api_Param) (cells : List api_Cell) (first : Int) (out2 : List Int) (i : Int) : Option (((List Int) × Int) ⊕ ((List Int))) :=
  if (decide (i < (cells.length : Int))) = true then
  (idx cells i).bind fun x =>
  (rem x.Index p.Times).bind fun q =>
  (quo .i64 (i64 (64 * q)) p.Times).bind fun q2 =>
  (app out2 ([(i64 ((i64 (64 * (i64 (first + x.Frame)))) + q2))] : List Int)).bind fun l =>
  some (.inl (l, (i64 (i + 1))))
  else
  some (.inr out2)

noncomputable def series_sampleTimes (p : api_Param) (cells : List api_Cell) (first : Int) : Option (List Int) :=
  ((loop (t2 (series_sampleTimes_L1 p cells first)) ([], 0)) : Option (((List Int)))).bind (t1 fun (out : List Int) =>
  some out)

noncomputable def series_Times (p : api_Param) (first : Int) : Option ((List Int) × Int) :=
  (layout_CheckParam p).bind fun y =>
  if (!decide (y = 0)) = true then
  some ([], y)
  else
  (series_within first 0 4194288).bind fun y2 =>
  if (!y2) = true then
  some ([], 9)
  else
  (rem first 16).bind fun q =>
  if (!decide (q = 0)) = true then
  some ([], 2)
  else
  (layout_Cells (api_Map.mk 0 ([p] : List api_Param))).bind fun y3 =>
  (series_sampleTimes p y3.1 first).bind fun y4 =>
  some (y4, 0)

noncomputable def istrconv_small (i : Int) : Option Str :=
  if (decide (i < 10)) = true then
  (slc [48, 49, 50, 51, 52, 53, 54, 55, 56, 57, 97, 98, 99, 100, 101, 102, 103, 104, 105, 106, 107, 108, 109, 110, 111, 112, 113, 114, 115, 116, 117, 118, 119, 120, 121, 122] i (i64 (i + 1))).bind fun s =>
  some s
  else
  (slc [48, 48, 48, 49, 48, 50, 48, 51, 48, 52, 48, 53, 48, 54, 48, 55, 48, 56, 48, 57, 49, 48, 49, 49, 49, 50, 49, 51, 49, 52, 49, 53, 49, 54, 49, 55, 49, 56, 49, 57, 50, 48, 50, 49, 50, 50, 50, 51, 50, 52, 50, 53, 50, 54, 50, 55, 50, 56, 50, 57, 51, 48, 51, 49, 51, 50, 51, 51, 51, 52, 51, 53, 51, 54, 51, 55, 51, 56, 51, 57, 52, 48, 52, 49, 52, 50, 52, 51, 52, 52, 52, 53, 52, 54, 52, 55, 52, 56, 52, 57, 53, 48, 53, 49, 53, 50, 53, 51, 53, 52, 53, 53, 53, 54, 53, 55, 53, 56, 53, 57, 54, 48, 54, 49, 54, 50, 54, 51, 54, 52, 54, 53, 54, 54, 54, 55, 54, 56, 54, 57, 55, 48, 55, 49, 55, 50, 55, 51, 55, 52, 55, 53, 55, 54, 55, 55, 55, 56, 55, 57, 56, 48, 56, 49, 56, 50, 56, 51, 56, 52, 56, 53, 56, 54, 56, 55, 56, 56, 56, 57, 57, 48, 57, 49, 57, 50, 57, 51, 57, 52, 57, 53, 57, 54, 57, 55, 57, 56, 57, 57] (i64 (i * 2)) (i64 ((i64 (i * 2)) + 2))).bind fun s2 =>
  some s2

noncomputable def istrconv_AppendUint (dst_ : List Int) (i : Int) (base : Int) : Option (List Int) :=
  if (decide (base = 10)) = true then
  if (decide (i < 100)) = true then
  (istrconv_small (i64 i)).bind fun y =>
  (app dst_ (bytes y)).bind fun l =>
  some l
  else
  (numDigits i).bind fun y2 =>
  (slc (Vector.replicate 24 0).toList 0 y2).bind fun l2 =>
  (fmt10 (Vector.replicate 24 0) (Int.toNat (y2 - 0)) i).bind fun y3 =>
  (slc y3.toList 0 y2).bind fun l3 =>
  (slc y3.toList 0 y2).bind fun l4 =>
  (app dst_ l4).bind fun l5 =>
  some l5
  else
  none

noncomputable def istrconv_AppendInt (dst_ : List Int) (i : Int) (base : Int) : Option (List Int) :=
  ((if (decide (i < 0)) = true then
  (app dst_ ([45] : List Int)).bind fun l =>
  some (l, (u64 (-(u64 i))))
  else
  some (dst_, (u64 i))) : Option (((List Int) × Int))).bind (t2 fun (o : List Int) (u : Int) =>
  (istrconv_AppendUint o u base).bind fun y =>
  some y)

noncomputable def strconv_AppendInt (dst_ : List Int) (i : Int) (base : Int) : Option (List Int) :=
  (istrconv_AppendInt dst_ i base).bind fun y =>
  some y

noncomputable def ref0_Ink_Int (k : ref0_Ink) (n : Int) : Option ref0_Ink :=
  (strconv_AppendInt k.out n 10).bind fun y =>
  (app y ([32] : List Int)).bind fun l =>
  some (ref0_Ink.mk l)

noncomputable def ref0_Ink_Ints_L1 (l : List Int) (out : List Int) (i : Int) : Option (((List Int) × Int) ⊕ (ref0_Ink)) :=
  if (decide (i < (l.length : Int))) = true then
  (idx l i).bind fun x =>
  (ref0_Ink_Int (ref0_Ink.mk out) x).bind fun y2 =>
  some (.inl (y2.out, (i64 (i + 1))))
  else
  some (.inr (ref0_Ink.mk out))

noncomputable def ref0_Ink_Ints (k : ref0_Ink) (l : List Int) : Option ref0_Ink :=
  (ref0_Ink_Int k (l.length : Int)).bind fun y =>
  loop (t2 (ref0_Ink_Ints_L1 l)) (y.out, 0)

noncomputable def ref0_Ink_Errno (k : ref0_Ink) (e : Int) : Option ref0_Ink :=
  (ref0_Ink_Int k e).bind fun y =>
  some y

noncomputable def ref0_Ink_Told (k : ref0_Ink) : Option Str :=
  some (ofBytes k.out)

noncomputable def law5_ints (l : List Int) (e : Int) : Option Str :=
  (ref0_Ink_Ints (ref0_Ink.mk []) l).bind fun y =>
  (ref0_Ink_Errno y e).bind fun y2 =>
  (ref0_Ink_Told y2).bind fun y3 =>
  some y3

noncomputable def ref2_IsName_L1 (s : Str) (i : Int) : Option ((Int) ⊕ (Bool) ⊕ (Unit)) :=
  if (decide (i < (s.length : Int))) = true then
  (sidx s i).bind fun b =>
  if (!(((decide (97 ≤ b)) && (decide (b ≤ 122))) || ((decide (0 < i)) && (((decide (48 ≤ b)) && (decide (b ≤ 57))) || (decide (b = 45)))))) = true then
  some (.inr (.inl false))
  else
  some (.inl (i64 (i + 1)))
  else
  some (.inr (.inr ()))

noncomputable def ref2_IsName (s : Str) : Option Bool :=
  ((loop (t1 (ref2_IsName_L1 s)) 0) : Option ((Bool) ⊕ (Unit))).bind (Sum.elim (fun q' => some q') (t0 (some ((decide (1 ≤ (s.length : Int))) && (decide ((s.length : Int) ≤ 30))))))

noncomputable def ref2_outside (n : Int) (low : Int) (high : Int) : Option Bool :=
  some ((decide (n < low)) || (decide (high < n)))

noncomputable def ref2_bits_L1 (p : api_Param) (n2 : Int) (i : Int) : Option ((Int × Int) ⊕ (Int)) :=
  if (decide (i < (p.Parts.length : Int))) = true then
  (idx p.Parts i).bind fun x =>
  some (.inl ((i64 (n2 + x.Bits)), (i64 (i + 1))))
  else
  some (.inr n2)

noncomputable def ref2_bits (p : api_Param) : Option Int :=
  ((loop (t2 (ref2_bits_L1 p)) (0, 0)) : Option ((Int))).bind (t1 fun (n : Int) =>
  some n)

noncomputable def ref2_partsFault_L1 (p : api_Param) (i : Int) : Option ((Int) ⊕ (Int) ⊕ (Unit)) :=
  if (decide (i < (p.Parts.length : Int))) = true then
  (idx p.Parts i).bind fun x =>
  (ref2_outside x.Frame 0 15).bind fun y =>
  (gd (y == false) false (ref2_outside x.Word 4 60)).bind fun y2 =>
  (gd ((y || y2) == false) false (ref2_outside x.Low 0 10)).bind fun y3 =>
  (gd (((y || y2) || y3) == false) false (ref2_outside x.Bits 1 (i64 (11 - x.Low)))).bind fun y4 =>
  if (((y || y2) || y3) || y4) = true then
  some (.inr (.inl 9))
  else
  some (.inl (i64 (i + 1)))
  else
  some (.inr (.inr ()))

noncomputable def ref2_partsFault (p : api_Param) : Option Int :=
  if (decide ((p.Parts.length : Int) = 0)) = true then
  some 13
  else
  if (decide (8 < (p.Parts.length : Int))) = true then
  some 3
  else
  ((loop (t1 (ref2_partsFault_L1 p)) 0) : Option ((Int) ⊕ (Unit))).bind (Sum.elim (fun q' => some q') (t0 ((ref2_bits p).bind fun y5 =>
  if (decide (40 < y5)) = true then
  some 3
  else
  some 0)))

noncomputable def ref2_timesFault_L1 (p : api_Param) (i : Int) : Option ((Int) ⊕ (Int) ⊕ (Unit)) :=
  if (decide (i < (p.Parts.length : Int))) = true then
  (idx p.Parts i).bind fun x =>
  if (((decide (1 < p.Times)) && (decide (57 < p.Step))) || (decide (60 < (i64 (x.Word + (i64 ((i64 (p.Times - 1)) * p.Step))))))) = true then
  some (.inr (.inl 9))
  else
  some (.inl (i64 (i + 1)))
  else
  some (.inr (.inr ()))

noncomputable def ref2_timesFault (p : api_Param) : Option Int :=
  ((if (decide (p.Every = 1)) = true then
  if (decide (p.Every = 1)) = true then
  some (.inr ())
  else
  some (.inl 9)
  else
  if (decide (p.Every = 2)) = true then
  if (decide (p.Every = 2)) = true then
  some (.inr ())
  else
  some (.inl 9)
  else
  if (decide (p.Every = 4)) = true then
  if (decide (p.Every = 4)) = true then
  some (.inr ())
  else
  some (.inl 9)
  else
  if (decide (p.Every = 8)) = true then
  if (decide (p.Every = 8)) = true then
  some (.inr ())
  else
  some (.inl 9)
  else
  if (decide (p.Every = 16)) = true then
  some (.inr ())
  else
  some (.inl 9)) : Option ((Int) ⊕ (Unit))).bind (Sum.elim (fun q' => some q') (t0 ((ref2_outside p.First 0 (i64 (p.Every - 1))).bind fun y =>
  (gd (y == false) false (ref2_outside p.Times 1 57)).bind fun y2 =>
  if (((y || y2) || (decide (p.Step < 0))) || (!((decide (p.Step = 0)) == (decide (p.Times = 1))))) = true then
  some 9
  else
  ((loop (t1 (ref2_timesFault_L1 p)) 0) : Option ((Int) ⊕ (Unit))).bind (Sum.elim (fun q' => some q') (t0 (some 0))))))

noncomputable def ref2_kindFault_L2 (x : Str) (l : List Str) (i2 : Int) : Option ((Int) ⊕ (Int) ⊕ (Unit)) :=
  if (decide (i2 < (l.length : Int))) = true then
  (idx l i2).bind fun x2 =>
  if (decide (x = x2)) = true then
  some (.inr (.inl 5))
  else
  some (.inl (i64 (i2 + 1)))
  else
  some (.inr (.inr ()))

noncomputable def ref2_kindFault_L1 (p : api_Param) (i : Int) : Option ((Int) ⊕ (Int) ⊕ (Unit)) :=
  if (decide (i < (p.Names.length : Int))) = true then
  (((idx p.Names i).bind fun x =>
  (ref2_IsName x).bind fun y2 =>
  if (!y2) = true then
  some (.inl 8)
  else
  (slc p.Names 0 i).bind fun l =>
  loop (t1 (ref2_kindFault_L2 x l)) 0) : Option ((Int) ⊕ (Unit))).bind (Sum.elim (fun q' => some (.inr (.inl q'))) (t0 (some (.inl (i64 (i + 1))))))
  else
  some (.inr (.inr ()))

noncomputable def ref2_kindFault (p : api_Param) : Option Int :=
  (ref2_bits p).bind fun y =>
  (gd ((decide (p.Kind = 4)) == true) 0 (rem y 4)).bind fun q =>
  if ((((decide (p.Kind = 4)) && (!decide (q = 0))) || ((decide (p.Kind = 5)) && (!decide (y = 1)))) || (((decide (p.Kind = 2)) || (decide (p.Kind = 3))) && (decide (y = 1)))) = true then
  some 2
  else
  if (!decide (p.Kind = 6)) = true then
  if (decide (0 < (p.Names.length : Int))) = true then
  some 2
  else
  some 0
  else
  if (decide ((p.Names.length : Int) = 0)) = true then
  some 13
  else
  (gd ((decide (64 < (p.Names.length : Int))) == false) 0 (shl .i64 1 y)).bind fun q2 =>
  if ((decide (64 < (p.Names.length : Int))) || (decide (q2 < (p.Names.length : Int)))) = true then
  some 3
  else
  ((loop (t1 (ref2_kindFault_L1 p)) 0) : Option ((Int) ⊕ (Unit))).bind (Sum.elim (fun q' => some q') (t0 (some 0)))

noncomputable def ref2_cells_L2 (p : api_Param) (f : Int) (inside2 : Bool) (i : Int) : Option ((Bool × Int) ⊕ (Bool)) :=
  if (decide (i < (p.Parts.length : Int))) = true then
  (idx p.Parts i).bind fun x =>
  some (.inl ((inside2 && (decide ((i64 (f + x.Frame)) < 16))), (i64 (i + 1))))
  else
  some (.inr inside2)

noncomputable def ref2_cells_L4 (p : api_Param) (f : Int) (j : Int) (Places2 : List api_Place) (i2 : Int) : Option (((List api_Place) × Int) ⊕ ((List api_Place))) :=
  if (decide (i2 < (p.Parts.length : Int))) = true then
  (idx p.Parts i2).bind fun x2 =>
  (app Places2 ([(api_Place.mk (i64 (f + x2.Frame)) (i64 (x2.Word + (i64 (j * p.Step)))) x2.Low x2.Bits)] : List api_Place)).bind fun l =>
  some (.inl (l, (i64 (i2 + 1))))
  else
  some (.inr Places2)

noncomputable def ref2_cells_L3 (p : api_Param) (number : Int) (f : Int) (inside : Bool) (out4 : List api_Cell) (j : Int) : Option (((List api_Cell) × Int) ⊕ ((List api_Cell))) :=
  if ((decide (j < p.Times)) && inside) = true then
  ((loop (t2 (ref2_cells_L4 p f j)) ([], 0)) : Option (((List api_Place)))).bind (t1 fun (Places : List api_Place) =>
  (app out4 ([(api_Cell.mk number (out4.length : Int) f Places)] : List api_Cell)).bind fun l2 =>
  some (.inl (l2, (i64 (j + 1)))))
  else
  some (.inr out4)

noncomputable def ref2_cells_L1 (p : api_Param) (number : Int) (out2 : List api_Cell) (f : Int) : Option (((List api_Cell) × Int) ⊕ ((List api_Cell))) :=
  if (decide (f < 16)) = true then
  ((((loop (t2 (ref2_cells_L2 p f)) (true, 0)) : Option ((Bool))).bind (t1 fun (inside : Bool) =>
  loop (t2 (ref2_cells_L3 p number f inside)) (out2, 0))) : Option (((List api_Cell)))).bind (t1 fun (out3 : List api_Cell) =>
  some (.inl (out3, (i64 (f + p.Every)))))
  else
  some (.inr out2)

noncomputable def ref2_cells (p : api_Param) (number : Int) : Option (List api_Cell) :=
  ((loop (t2 (ref2_cells_L1 p number)) ([], p.First)) : Option (((List api_Cell)))).bind (t1 fun (out : List api_Cell) =>
  some out)

noncomputable def ref2_taken_take_L2 (x : api_Place) (o4 : List ((Vector Int 3) × Bool)) (ok4 : Bool) (b : Int) : Option (((List ((Vector Int 3) × Bool)) × Bool × Int) ⊕ ((List ((Vector Int 3) × Bool)) × Bool)) :=
  if (decide (b < (i64 (x.Low + x.Bits)))) = true then
  (gd (ok4 == true) false (some ((mget kqV o4 (#v[x.Frame, x.Word, b] : Vector Int 3)).getD false))).bind fun o5 =>
  some (.inl ((mput kqV o4 (#v[x.Frame, x.Word, b] : Vector Int 3) true), (ok4 && (!o5)), (i64 (b + 1))))
  else
  some (.inr (o4, ok4))

noncomputable def ref2_taken_take_L1 (l : List api_Place) (o2 : List ((Vector Int 3) × Bool)) (ok2 : Bool) (i : Int) : Option (((List ((Vector Int 3) × Bool)) × Bool × Int) ⊕ ((List ((Vector Int 3) × Bool)) × Bool)) :=
  if (decide (i < (l.length : Int))) = true then
  (((idx l i).bind fun x =>
  loop (t3 (ref2_taken_take_L2 x)) (o2, ok2, x.Low)) : Option (((List ((Vector Int 3) × Bool)) × Bool))).bind (t2 fun (o3 : List ((Vector Int 3) × Bool)) (ok3 : Bool) =>
  some (.inl (o3, ok3, (i64 (i + 1)))))
  else
  some (.inr (o2, ok2))

noncomputable def ref2_taken_take (t : List ((Vector Int 3) × Bool)) (l : List api_Place) : Option (Bool × (List ((Vector Int 3) × Bool))) :=
  ((loop (t3 (ref2_taken_take_L1 l)) (t, true, 0)) : Option (((List ((Vector Int 3) × Bool)) × Bool))).bind (t2 fun (o : List ((Vector Int 3) × Bool)) (ok : Bool) =>
  some (ok, o))

noncomputable def ref2_taken_takeAll_L1 (l : List api_Cell) (o2 : List ((Vector Int 3) × Bool)) (ok2 : Bool) (i : Int) : Option (((List ((Vector Int 3) × Bool)) × Bool × Int) ⊕ ((List ((Vector Int 3) × Bool)) × Bool)) :=
  if (decide (i < (l.length : Int))) = true then
  (idx l i).bind fun x =>
  (ref2_taken_take o2 x.Places).bind fun y =>
  if (!y.1) = true then
  some (.inl (y.2, false, (i64 (i + 1))))
  else
  some (.inl (y.2, ok2, (i64 (i + 1))))
  else
  some (.inr (o2, ok2))

noncomputable def ref2_taken_takeAll (t : List ((Vector Int 3) × Bool)) (l : List api_Cell) : Option (Bool × (List ((Vector Int 3) × Bool))) :=
  ((loop (t3 (ref2_taken_takeAll_L1 l)) (t, true, 0)) : Option (((List ((Vector Int 3) × Bool)) × Bool))).bind (t2 fun (o : List ((Vector Int 3) × Bool)) (ok : Bool) =>
  some (ok, o))

noncomputable def ref2_CheckParam (p : api_Param) : Option Int :=
  (ref2_IsName p.Name).bind fun y =>
  if (!y) = true then
  some 8
  else
  (ref2_outside p.Kind 1 6).bind fun y2 =>
  if y2 = true then
  some 7
  else
  (ref2_partsFault p).bind fun y3 =>
  if (!decide (y3 = 0)) = true then
  some y3
  else
  (ref2_timesFault p).bind fun y4 =>
  if (!decide (y4 = 0)) = true then
  some y4
  else
  (ref2_kindFault p).bind fun y5 =>
  if (!decide (y5 = 0)) = true then
  some y5
  else
  (ref2_cells p 0).bind fun y6 =>
  (ref2_taken_takeAll ([] : List ((Vector Int 3) × Bool)) y6).bind fun y7 =>
  if (!y7.1) = true then
  some 5
  else
  if (decide ((y6.length : Int) = 0)) = true then
  some 13
  else
  some 0

noncomputable def ref5_outside (n : Int) (low : Int) (high : Int) : Option Bool :=
  some ((decide (n < low)) || (decide (high < n)))

noncomputable def ref2_Check_L2 (i : Int) (x : api_Param) (l : List api_Param) (i2 : Int) : Option ((Int) ⊕ (Int × Int) ⊕ (Unit)) :=
  if (decide (i2 < (l.length : Int))) = true then
  (idx l i2).bind fun x2 =>
  if (decide (x2.Name = x.Name)) = true then
  some (.inr (.inl (i, 5)))
  else
  some (.inl (i64 (i2 + 1)))
  else
  some (.inr (.inr ()))

noncomputable def ref2_Check_L1 (m : api_Map) (i : Int) : Option ((Int) ⊕ (Int × Int) ⊕ (Unit)) :=
  if (decide (i < (m.Params.length : Int))) = true then
  (((idx m.Params i).bind fun x =>
  (ref2_CheckParam x).bind fun y2 =>
  if (!decide (y2 = 0)) = true then
  some (.inl (i, y2))
  else
  (slc m.Params 0 i).bind fun l =>
  loop (t1 (ref2_Check_L2 i x l)) 0) : Option ((Int × Int) ⊕ (Unit))).bind (Sum.elim (fun q' => some (.inr (.inl q'))) (t0 (some (.inl (i64 (i + 1))))))
  else
  some (.inr (.inr ()))

noncomputable def ref2_Check_L3 (m : api_Map) (n : Int) (i3 : Int) : Option ((Int × Int) ⊕ (Int × Int) ⊕ (Unit)) :=
  if (decide (i3 < (m.Params.length : Int))) = true then
  (idx m.Params i3).bind fun x3 =>
  (ref2_cells x3 i3).bind fun y3 =>
  if (decide (4000 < (i64 (n + (y3.length : Int))))) = true then
  some (.inr (.inl (i3, 3)))
  else
  some (.inl ((i64 (n + (y3.length : Int))), (i64 (i3 + 1))))
  else
  some (.inr (.inr ()))

noncomputable def ref2_Check_L4 (m : api_Map) (t : List ((Vector Int 3) × Bool)) (i4 : Int) : Option (((List ((Vector Int 3) × Bool)) × Int) ⊕ (Int × Int) ⊕ (Unit)) :=
  if (decide (i4 < (m.Params.length : Int))) = true then
  (idx m.Params i4).bind fun x4 =>
  (ref2_cells x4 i4).bind fun y4 =>
  (ref2_taken_takeAll t y4).bind fun y5 =>
  if (!y5.1) = true then
  some (.inr (.inl (i4, 5)))
  else
  some (.inl (y5.2, (i64 (i4 + 1))))
  else
  some (.inr (.inr ()))

noncomputable def ref2_Check (m : api_Map) : Option (Int × Int) :=
  (ref2_outside m.Version 0 2047).bind fun y =>
  if y = true then
  some (0, 9)
  else
  if (decide (200 < (m.Params.length : Int))) = true then
  some (0, 3)
  else
  ((loop (t1 (ref2_Check_L1 m)) 0) : Option ((Int × Int) ⊕ (Unit))).bind (Sum.elim (fun q' => some q') (t0 (((loop (t2 (ref2_Check_L3 m)) (0, 0)) : Option ((Int × Int) ⊕ (Unit))).bind (Sum.elim (fun q' => some q') (t0 (((loop (t2 (ref2_Check_L4 m)) (([] : List ((Vector Int 3) × Bool)), 0)) : Option ((Int × Int) ⊕ (Unit))).bind (Sum.elim (fun q' => some q') (t0 (some (0, 0))))))))))

noncomputable def ref2_allCells_L1 (m : api_Map) (out2 : List api_Cell) (i : Int) : Option (((List api_Cell) × Int) ⊕ ((List api_Cell))) :=
  if (decide (i < (m.Params.length : Int))) = true then
  (idx m.Params i).bind fun x =>
  (ref2_cells x i).bind fun y =>
  (app out2 y).bind fun l =>
  some (.inl (l, (i64 (i + 1))))
  else
  some (.inr out2)

noncomputable def ref2_allCells (m : api_Map) : Option (List api_Cell) :=
  ((loop (t2 (ref2_allCells_L1 m)) ([], 0)) : Option (((List api_Cell)))).bind (t1 fun (out : List api_Cell) =>
  some out)

noncomputable def ref2_Cells (m : api_Map) : Option ((List api_Cell) × Int) :=
  (ref2_Check m).bind fun y =>
  if (!decide (y.2 = 0)) = true then
  some ([], y.2)
  else
  (ref2_allCells m).bind fun y2 =>
  some (y2, 0)

noncomputable def ref5_cellsOf_L1 (n : Int) (y : (List api_Cell) × Int) (out2 : List api_Cell) (i : Int) : Option (((List api_Cell) × Int) ⊕ ((List api_Cell))) :=
  if (decide (i < (y.1.length : Int))) = true then
  (idx y.1 i).bind fun x =>
  if (decide (x.Param = n)) = true then
  (idx y.1 i).bind fun x2 =>
  (app out2 ([x2] : List api_Cell)).bind fun l =>
  some (.inl (l, (i64 (i + 1))))
  else
  some (.inl (out2, (i64 (i + 1))))
  else
  some (.inr out2)

noncomputable def ref5_cellsOf (m : api_Map) (n : Int) : Option (List api_Cell) :=
  (ref2_Cells m).bind fun y =>
  ((loop (t2 (ref5_cellsOf_L1 n y)) ([], 0)) : Option (((List api_Cell)))).bind (t1 fun (out : List api_Cell) =>
  some out)

noncomputable def ref5_moments_L1 (p : api_Param) (cells : List api_Cell) (first : Int) (out2 : List Int) (had : List (Int × Int)) (i : Int) : Option (((List Int) × (List (Int × Int)) × Int) ⊕ ((List Int))) :=
  if (decide (i < (cells.length : Int))) = true then
  (idx cells i).bind fun x =>
  (some ((mget kqI had x.Frame).getD 0)).bind fun o =>
  (quo .i64 (i64 (64 * o)) p.Times).bind fun q =>
  (app out2 ([(i64 ((i64 (64 * (i64 (first + x.Frame)))) + q))] : List Int)).bind fun l =>
  (some ((mget kqI had x.Frame).getD 0)).bind fun o2 =>
  some (.inl (l, (mput kqI had x.Frame (i64 (o2 + 1))), (i64 (i + 1))))
  else
  some (.inr out2)

noncomputable def ref5_moments (p : api_Param) (cells : List api_Cell) (first : Int) : Option (List Int) :=
  ((loop (t3 (ref5_moments_L1 p cells first)) ([], ([] : List (Int × Int)), 0)) : Option (((List Int)))).bind (t1 fun (out : List Int) =>
  some out)

noncomputable def ref5_Times (p : api_Param) (first : Int) : Option ((List Int) × Int) :=
  (ref2_CheckParam p).bind fun y =>
  if (!decide (y = 0)) = true then
  some ([], y)
  else
  (ref5_outside first 0 4194288).bind fun y2 =>
  if y2 = true then
  some ([], 9)
  else
  (rem first 16).bind fun q =>
  if (!decide (q = 0)) = true then
  some ([], 2)
  else
  (ref5_cellsOf (api_Map.mk 0 ([p] : List api_Param)) 0).bind fun y3 =>
  (ref5_moments p y3 first).bind fun y4 =>
  some (y4, 0)

noncomputable def series_check_L1 (s : api_Series) (i : Int) : Option ((Int) ⊕ (Int × Int) ⊕ (Unit)) :=
  if (decide (i < (s.Samples.length : Int))) = true then
  (idx s.Samples i).bind fun x =>
  (series_within x.At 0 1099511627776).bind fun y2 =>
  (gd ((!y2) == false) false (series_within x.N (-1125899906842624) 1125899906842624)).bind fun y3 =>
  (gd (((!y2) || (!y3)) == false) false (series_within x.Mark 0 4)).bind fun y4 =>
  if (((!y2) || (!y3)) || (!y4)) = true then
  some (.inr (.inl (i, 9)))
  else
  if ((!decide (x.N = 0)) && (decide (x.Mark ≤ 1))) = true then
  some (.inr (.inl (i, 2)))
  else
  (gd ((decide (0 < i)) == true) (api_Sample.mk 0 0 0) (idx s.Samples (i64 (i - 1)))).bind fun x2 =>
  if ((decide (0 < i)) && (decide (x.At ≤ x2.At))) = true then
  some (.inr (.inl (i, 10)))
  else
  some (.inl (i64 (i + 1)))
  else
  some (.inr (.inr ()))

noncomputable def series_check (s : api_Series) : Option (Int × Int) :=
  (series_within s.Den 1 1000000).bind fun y =>
  if (!y) = true then
  some ((-1), 9)
  else
  if (decide (20000 < (s.Samples.length : Int))) = true then
  some ((-1), 3)
  else
  ((loop (t1 (series_check_L1 s)) 0) : Option ((Int × Int) ⊕ (Unit))).bind (Sum.elim (fun q' => some q') (t0 (some ((-1), 0))))

noncomputable def series_Check (s : api_Series) : Option Int :=
  (series_check s).bind fun y =>
  some y.2

noncomputable def slices_BinarySearchFunc_api_Sample_api_Sample_int_L1 (x : List api_Sample) (target : Int) (cmp : api_Sample → Int → Option Int) (i2 : Int) (j : Int) : Option ((Int × Int) ⊕ (Int)) :=
  if (decide (i2 < j)) = true then
  (shr .u64 (u64 (i64 (i2 + j))) 1).bind fun q =>
  (idx x (i64 q)).bind fun x2 =>
  (cmp x2 target).bind fun y =>
  if (decide (y < 0)) = true then
  some (.inl ((i64 ((i64 q) + 1)), j))
  else
  some (.inl (i2, (i64 q)))
  else
  some (.inr i2)

noncomputable def slices_BinarySearchFunc_api_Sample_api_Sample_int (x : List api_Sample) (target : Int) (cmp : api_Sample → Int → Option Int) : Option (Int × Bool) :=
  ((loop (t2 (slices_BinarySearchFunc_api_Sample_api_Sample_int_L1 x target cmp)) (0, (x.length : Int))) : Option ((Int))).bind (t1 fun (i : Int) =>
  (gd ((decide (i < (x.length : Int))) == true) (api_Sample.mk 0 0 0) (idx x i)).bind fun x3 =>
  (gd ((decide (i < (x.length : Int))) == true) 0 (cmp x3 target)).bind fun y2 =>
  some (i, ((decide (i < (x.length : Int))) && (decide (y2 = 0)))))

noncomputable def series_latest_1 (x : api_Sample) (at_ : Int) : Option Int :=
  some (i64 (x.At - at_))

noncomputable def series_latest (s : api_Series) (at_ : Int) : Option Int :=
  (slices_BinarySearchFunc_api_Sample_api_Sample_int s.Samples at_ (fun z0 z1 => series_latest_1 z0 z1)).bind fun y =>
  if y.2 = true then
  some y.1
  else
  some (i64 (y.1 - 1))

noncomputable def series_solid (x : api_Sample) : Option Bool :=
  some (decide (3 ≤ x.Mark))

noncomputable def series_hold (s : api_Series) (at_ : Int) (long : Int) : Option (api_Sample × Bool) :=
  (series_latest s at_).bind fun y =>
  (gd ((decide (y < 0)) == false) (api_Sample.mk 0 0 0) (idx s.Samples y)).bind fun x =>
  (gd ((decide (y < 0)) == false) false (series_solid x)).bind fun y2 =>
  (gd (((decide (y < 0)) || (!y2)) == false) (api_Sample.mk 0 0 0) (idx s.Samples y)).bind fun x2 =>
  if (((decide (y < 0)) || (!y2)) || (decide (long < (i64 (at_ - x2.At))))) = true then
  some ((api_Sample.mk 0 0 0), false)
  else
  (idx s.Samples y).bind fun x3 =>
  some (x3, true)

noncomputable def series_Hold (s : api_Series) (at_ : Int) (long : Int) : Option (api_Sample × Bool × Int) :=
  (series_Check s).bind fun y =>
  if (!decide (y = 0)) = true then
  some ((api_Sample.mk 0 0 0), false, y)
  else
  (series_within at_ 0 1099511627776).bind fun y2 =>
  (gd ((!y2) == false) false (series_within long 0 1099511627776)).bind fun y3 =>
  if ((!y2) || (!y3)) = true then
  some ((api_Sample.mk 0 0 0), false, 9)
  else
  (series_hold s at_ long).bind fun y4 =>
  some (y4.1, y4.2, 0)

noncomputable def law5_holds  : Option Bool :=
  (series_Hold (api_Series.mk 1 ([(api_Sample.mk 5 7 4)] : List api_Sample)) 9 4).bind fun y =>
  some ((y.2.1 && (decide (y.2.2 = 0))) && (decide (y.1.At = 5) && (decide (y.1.N = 7) && (decide (y.1.Mark = 4) && true))))

noncomputable def law5_SeriesTimesMatchSpec_L1 (y : (List Int) × Int) (i : Int) : Option ((Int) ⊕ (Bool) ⊕ (Unit)) :=
  if (decide (i < (y.1.length : Int))) = true then
  (idx y.1 i).bind fun x =>
  (idx y.1 (i64 (i - 1))).bind fun x2 =>
  if (decide (x ≤ x2)) = true then
  some (.inr (.inl false))
  else
  some (.inl (i64 (i + 1)))
  else
  some (.inr (.inr ()))

noncomputable def law5_SeriesTimesMatchSpec (p : api_Param) (first : Int) : Option Bool :=
  (series_Times p first).bind fun y =>
  (law5_ints y.1 y.2).bind fun y2 =>
  (ref5_Times p first).bind fun y3 =>
  (law5_ints y3.1 y3.2).bind fun y4 =>
  if (!decide (y2 = y4)) = true then
  some false
  else
  ((loop (t1 (law5_SeriesTimesMatchSpec_L1 y)) 1) : Option ((Bool) ⊕ (Unit))).bind (Sum.elim (fun q' => some q') (t0 ((law5_holds).bind fun y5 =>
  some y5)))
end Go.Vx
