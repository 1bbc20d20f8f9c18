/- A text of the proof: a verified executor of the program form, or the contracts of the functions that the law reaches. -/
import Derived.Test.YtncoekfjpkfcdaaShT
set_option linter.all false
namespace Go.Vx
open Go Go.RowKit
set_option linter.unusedVariables false
noncomputable def layout_find_L1 (m : api_Map) (name : Str) (i : Int) : Option ((Int) ⊕ ((Unit) ⊕ (api_Param)) ⊕ (Unit)) :=
  if (decide (i < (m.Params.length : Int))) = true then
  (idx m.Params i).bind fun x =>
  if (decide (x.Name = name)) = true then
  (idx m.Params i).bind fun x2 =>
  some (.inr (.inl (Sum.inr x2)))
  else
  some (.inl (i64 (i + 1)))
  else
  some (.inr (.inr ()))

noncomputable def layout_find (m : api_Map) (name : Str) : Option ((Unit) ⊕ (api_Param)) :=
  ((loop (t1 (layout_find_L1 m name)) 0) : Option (((Unit) ⊕ (api_Param)) ⊕ (Unit))).bind (Sum.elim (fun v => some v) (t0 (some (Sum.inl ()))))

noncomputable def layout_copyParam (p : api_Param) : Option api_Param :=
  (clone p.Parts).bind fun y =>
  (clone p.Names).bind fun y2 =>
  some (api_Param.mk p.Name p.Kind y p.First p.Every p.Times p.Step y2)

noncomputable def layout_Without_L1 (m : api_Map) (names : List Str) (i : Int) : Option ((Int) ⊕ (api_Map × Int) ⊕ (Unit)) :=
  if (decide (i < (names.length : Int))) = true then
  (idx names i).bind fun x =>
  (layout_find m x).bind (Sum.elim (fun y2 =>
  if true = true then
  some (.inr (.inl ((api_Map.mk 0 []), 4)))
  else
  some (.inl (i64 (i + 1)))) (fun y2 =>
  if false = true then
  some (.inr (.inl ((api_Map.mk 0 []), 4)))
  else
  some (.inl (i64 (i + 1)))))
  else
  some (.inr (.inr ()))

noncomputable def layout_Without_L2 (m : api_Map) (names : List Str) (Params2 : List api_Param) (i2 : Int) : Option (((List api_Param) × Int) ⊕ ((List api_Param))) :=
  if (decide (i2 < (m.Params.length : Int))) = true then
  (idx m.Params i2).bind fun x2 =>
  (slices_Contains_string_string names x2.Name).bind fun y3 =>
  if (!y3) = true then
  (layout_copyParam x2).bind fun y4 =>
  (app Params2 ([y4] : List api_Param)).bind fun l =>
  some (.inl (l, (i64 (i2 + 1))))
  else
  some (.inl (Params2, (i64 (i2 + 1))))
  else
  some (.inr Params2)

noncomputable def layout_Without (m : api_Map) (names : List Str) : Option (api_Map × Int) :=
  (layout_check m).bind fun y =>
  if (!decide (y.2 = 0)) = true then
  some ((api_Map.mk 0 []), y.2)
  else
  ((loop (t1 (layout_Without_L1 m names)) 0) : Option ((api_Map × Int) ⊕ (Unit))).bind (Sum.elim (fun v => some v) (t0 (((loop (t2 (layout_Without_L2 m names)) ([], 0)) : Option (((List api_Param)))).bind (t1 fun (Params : List api_Param) =>
  some ((api_Map.mk m.Version Params), 0)))))

noncomputable def ref2_find_L1 (m : api_Map) (name : Str) (i : Int) : Option ((Int) ⊕ (api_Param × Bool) ⊕ (Unit)) :=
  if (decide (i < (m.Params.length : Int))) = true then
  (idx m.Params i).bind fun x =>
  if (decide (x.Name = name)) = true then
  some (.inr (.inl (x, true)))
  else
  some (.inl (i64 (i + 1)))
  else
  some (.inr (.inr ()))

noncomputable def ref2_find (m : api_Map) (name : Str) : Option (api_Param × Bool) :=
  ((loop (t1 (ref2_find_L1 m name)) 0) : Option ((api_Param × Bool) ⊕ (Unit))).bind (Sum.elim (fun v => some v) (t0 (some ((api_Param.mk [] 0 [] 0 0 0 0 []), false))))

noncomputable def ref2_Without_L1 (m : api_Map) (names : List Str) (i : Int) : Option ((Int) ⊕ (api_Map × Int) ⊕ (Unit)) :=
  if (decide (i < (names.length : Int))) = true then
  (idx names i).bind fun x =>
  (ref2_find m x).bind fun y2 =>
  if (!y2.2) = true then
  some (.inr (.inl ((api_Map.mk 0 []), 4)))
  else
  some (.inl (i64 (i + 1)))
  else
  some (.inr (.inr ()))

noncomputable def ref2_Without_L3 (names : List Str) (x2 : api_Param) (gone2 : Bool) (i3 : Int) : Option ((Bool × Int) ⊕ (Bool)) :=
  if (decide (i3 < (names.length : Int))) = true then
  (idx names i3).bind fun x3 =>
  some (.inl ((gone2 || (decide (x3 = x2.Name))), (i64 (i3 + 1))))
  else
  some (.inr gone2)

noncomputable def ref2_Without_L2 (m : api_Map) (names : List Str) (Params2 : List api_Param) (i2 : Int) : Option (((List api_Param) × Int) ⊕ ((List api_Param))) :=
  if (decide (i2 < (m.Params.length : Int))) = true then
  (idx m.Params i2).bind fun x2 =>
  ((loop (t2 (ref2_Without_L3 names x2)) (false, 0)) : Option ((Bool))).bind (t1 fun (gone : Bool) =>
  if (!gone) = true then
  (app Params2 ([x2] : List api_Param)).bind fun l =>
  some (.inl (l, (i64 (i2 + 1))))
  else
  some (.inl (Params2, (i64 (i2 + 1)))))
  else
  some (.inr Params2)

noncomputable def ref2_Without (m : api_Map) (names : List Str) : Option (api_Map × Int) :=
  (ref2_Check m).bind fun y =>
  if (!decide (y.2 = 0)) = true then
  some ((api_Map.mk 0 []), y.2)
  else
  ((loop (t1 (ref2_Without_L1 m names)) 0) : Option ((api_Map × Int) ⊕ (Unit))).bind (Sum.elim (fun v => some v) (t0 (((loop (t2 (ref2_Without_L2 m names)) ([], 0)) : Option (((List api_Param)))).bind (t1 fun (Params : List api_Param) =>
  some ((api_Map.mk m.Version Params), 0)))))

noncomputable def slices_EqualFunc_api_Param_api_Param_api_Param_api_Param_L1 (s1 : List api_Param) (s2 : List api_Param) (eq : api_Param → api_Param → Option Bool) (i : Int) : Option ((Int) ⊕ (Bool) ⊕ (Unit)) :=
  if (decide (i < (s1.length : Int))) = true then
  (idx s1 i).bind fun x =>
  (idx s2 i).bind fun x2 =>
  (eq x x2).bind fun y =>
  if (!y) = true then
  some (.inr (.inl false))
  else
  some (.inl (i64 (i + 1)))
  else
  some (.inr (.inr ()))

noncomputable def slices_EqualFunc_api_Param_api_Param_api_Param_api_Param (s1 : List api_Param) (s2 : List api_Param) (eq : api_Param → api_Param → Option Bool) : Option Bool :=
  if (!decide ((s1.length : Int) = (s2.length : Int))) = true then
  some false
  else
  ((loop (t1 (slices_EqualFunc_api_Param_api_Param_api_Param_api_Param_L1 s1 s2 eq)) 0) : Option ((Bool) ⊕ (Unit))).bind (Sum.elim (fun v => some v) (t0 (some true)))

noncomputable def slices_Equal_api_Part_api_Part_L1 (s1 : List api_Part) (s2 : List api_Part) (i : Int) : Option ((Int) ⊕ (Bool) ⊕ (Unit)) :=
  if (decide (i < (s1.length : Int))) = true then
  (idx s1 i).bind fun x =>
  (idx s2 i).bind fun x2 =>
  if (!(decide (x.Frame = x2.Frame) && (decide (x.Word = x2.Word) && (decide (x.Low = x2.Low) && (decide (x.Bits = x2.Bits) && true))))) = true then
  some (.inr (.inl false))
  else
  some (.inl (i64 (i + 1)))
  else
  some (.inr (.inr ()))

noncomputable def slices_Equal_api_Part_api_Part (s1 : List api_Part) (s2 : List api_Part) : Option Bool :=
  if (!decide ((s1.length : Int) = (s2.length : Int))) = true then
  some false
  else
  ((loop (t1 (slices_Equal_api_Part_api_Part_L1 s1 s2)) 0) : Option ((Bool) ⊕ (Unit))).bind (Sum.elim (fun v => some v) (t0 (some true)))

noncomputable def slices_Equal_string_string_L1 (s1 : List Str) (s2 : List Str) (i : Int) : Option ((Int) ⊕ (Bool) ⊕ (Unit)) :=
  if (decide (i < (s1.length : Int))) = true then
  (idx s1 i).bind fun x =>
  (idx s2 i).bind fun x2 =>
  if (!decide (x = x2)) = true then
  some (.inr (.inl false))
  else
  some (.inl (i64 (i + 1)))
  else
  some (.inr (.inr ()))

noncomputable def slices_Equal_string_string (s1 : List Str) (s2 : List Str) : Option Bool :=
  if (!decide ((s1.length : Int) = (s2.length : Int))) = true then
  some false
  else
  ((loop (t1 (slices_Equal_string_string_L1 s1 s2)) 0) : Option ((Bool) ⊕ (Unit))).bind (Sum.elim (fun v => some v) (t0 (some true)))

noncomputable def law2_sameParam (a : api_Param) (b : api_Param) : Option Bool :=
  (gd (((decide (a.Name = b.Name)) && (decide (a.Kind = b.Kind))) == true) false (slices_Equal_api_Part_api_Part a.Parts b.Parts)).bind fun y =>
  (gd ((((((((decide (a.Name = b.Name)) && (decide (a.Kind = b.Kind))) && y) && (decide (a.First = b.First))) && (decide (a.Every = b.Every))) && (decide (a.Times = b.Times))) && (decide (a.Step = b.Step))) == true) false (slices_Equal_string_string a.Names b.Names)).bind fun y2 =>
  some ((((((((decide (a.Name = b.Name)) && (decide (a.Kind = b.Kind))) && y) && (decide (a.First = b.First))) && (decide (a.Every = b.Every))) && (decide (a.Times = b.Times))) && (decide (a.Step = b.Step))) && y2)

noncomputable def law2_sameMap (a : api_Map) (b : api_Map) : Option Bool :=
  (gd ((decide (a.Version = b.Version)) == true) false (slices_EqualFunc_api_Param_api_Param_api_Param_api_Param a.Params b.Params (fun z0 z1 => law2_sameParam z0 z1))).bind fun y =>
  some ((decide (a.Version = b.Version)) && y)

noncomputable def law2_LayoutWithoutMatchesSpec (m : api_Map) (names : List Str) : Option Bool :=
  (layout_Without m names).bind fun y =>
  (ref2_Without m names).bind fun y2 =>
  (gd ((decide (y.2 = y2.2)) == true) false (law2_sameMap y.1 y2.1)).bind fun y3 =>
  (gd (((decide (y.2 = y2.2)) && y3) == true) false law2_mapped).bind fun y4 =>
  some (((decide (y.2 = y2.2)) && y3) && y4)
end Go.Vx
