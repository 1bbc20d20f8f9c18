/- A text of the proof: a verified executor of the program form, or the contracts of the functions that the law reaches. -/
import Derived.Test.YtncoekfjpkfcdaaFuL2
set_option linter.all false
namespace Go.Vx
open Go Go.RowKit
set_option linter.unusedVariables false

noncomputable def layout_within_c (n : Int) (low : Int) (high : Int) : Option Bool :=
  some ((decide (low ≤ n)) && (decide (n ≤ high)))
theorem le_layout_within (n : Int) (low : Int) (high : Int) : Le (layout_within_c n low high) (layout_within n low high) := by
  unfold layout_within_c layout_within
  repeat' (first | with_reducible exact Le.refl _ | with_reducible apply Le.bind | with_reducible apply Le.ite | with_reducible apply Le.gd | with_reducible apply Le.loop | with_reducible apply Le.t0 | with_reducible apply Le.t1 | with_reducible apply Le.t2 | with_reducible apply Le.t3 | with_reducible apply Le.t4 | with_reducible apply Le.t5 | with_reducible apply Le.t6 | with_reducible apply Le.t7 | with_reducible apply Le.t8 | with_reducible apply Le.elim | intro _)

noncomputable def layout_checkParts_L1_c (p : api_Param) (i : Int) : Option ((Int) ⊕ (Int) ⊕ (Unit)) :=
  if (decide (i < (p.Parts.length : Int))) = true then
  (idx p.Parts i).bind fun x =>
  (layout_within_c x.Frame 0 15).bind fun y =>
  (gd ((!y) == false) false (layout_within_c x.Word 4 60)).bind fun y2 =>
  (gd (((!y) || (!y2)) == false) false (layout_within_c x.Low 0 10)).bind fun y3 =>
  (gd ((((!y) || (!y2)) || (!y3)) == false) false (layout_within_c x.Bits 1 (i64 (11 - x.Low)))).bind fun y4 =>
  if ((((!y) || (!y2)) || (!y3)) || (!y4)) = true then
  some (.inr (.inl 9))
  else
  some (.inl (i64 (i + 1)))
  else
  some (.inr (.inr ()))
theorem le_layout_checkParts_L1 (p : api_Param) (i : Int) : Le (layout_checkParts_L1_c p i) (layout_checkParts_L1 p i) := by
  unfold layout_checkParts_L1_c layout_checkParts_L1
  repeat' (first | with_reducible exact Le.refl _ | with_reducible apply Le.bind | with_reducible apply Le.ite | with_reducible apply Le.gd | with_reducible apply Le.loop | with_reducible apply Le.t0 | with_reducible apply Le.t1 | with_reducible apply Le.t2 | with_reducible apply Le.t3 | with_reducible apply Le.t4 | with_reducible apply Le.t5 | with_reducible apply Le.t6 | with_reducible apply Le.t7 | with_reducible apply Le.t8 | with_reducible apply Le.elim | with_reducible apply le_layout_within | intro _)

noncomputable def slices_Index_int_int_L1_c (s : List Int) (v : Int) (i : Int) : Option ((Int) ⊕ (Int) ⊕ (Unit)) :=
  if (decide (i < (s.length : Int))) = true then
  (idx s i).bind fun x =>
  if (decide (v = x)) = true then
  some (.inr (.inl i))
  else
  some (.inl (i64 (i + 1)))
  else
  some (.inr (.inr ()))
theorem le_slices_Index_int_int_L1 (s : List Int) (v : Int) (i : Int) : Le (slices_Index_int_int_L1_c s v i) (slices_Index_int_int_L1 s v i) := by
  unfold slices_Index_int_int_L1_c slices_Index_int_int_L1
  repeat' (first | with_reducible exact Le.refl _ | with_reducible apply Le.bind | with_reducible apply Le.ite | with_reducible apply Le.gd | with_reducible apply Le.loop | with_reducible apply Le.t0 | with_reducible apply Le.t1 | with_reducible apply Le.t2 | with_reducible apply Le.t3 | with_reducible apply Le.t4 | with_reducible apply Le.t5 | with_reducible apply Le.t6 | with_reducible apply Le.t7 | with_reducible apply Le.t8 | with_reducible apply Le.elim | intro _)

noncomputable def slices_Index_int_int_c (s : List Int) (v : Int) : Option Int :=
  ((cloop (t1 (slices_Index_int_int_L1_c s v)) 0) : Option ((Int) ⊕ (Unit))).bind (Sum.elim (fun v => some v) (t0 (some (-1))))
theorem le_slices_Index_int_int (s : List Int) (v : Int) : Le (slices_Index_int_int_c s v) (slices_Index_int_int s v) := by
  unfold slices_Index_int_int_c slices_Index_int_int
  repeat' (first | with_reducible exact Le.refl _ | with_reducible apply Le.bind | with_reducible apply Le.ite | with_reducible apply Le.gd | with_reducible apply Le.loop | with_reducible apply Le.t0 | with_reducible apply Le.t1 | with_reducible apply Le.t2 | with_reducible apply Le.t3 | with_reducible apply Le.t4 | with_reducible apply Le.t5 | with_reducible apply Le.t6 | with_reducible apply Le.t7 | with_reducible apply Le.t8 | with_reducible apply Le.elim | with_reducible apply le_slices_Index_int_int_L1 | intro _)

noncomputable def slices_Contains_int_int_c (s : List Int) (v : Int) : Option Bool :=
  (slices_Index_int_int_c s v).bind fun y =>
  some (decide (0 ≤ y))
theorem le_slices_Contains_int_int (s : List Int) (v : Int) : Le (slices_Contains_int_int_c s v) (slices_Contains_int_int s v) := by
  unfold slices_Contains_int_int_c slices_Contains_int_int
  repeat' (first | with_reducible exact Le.refl _ | with_reducible apply Le.bind | with_reducible apply Le.ite | with_reducible apply Le.gd | with_reducible apply Le.loop | with_reducible apply Le.t0 | with_reducible apply Le.t1 | with_reducible apply Le.t2 | with_reducible apply Le.t3 | with_reducible apply Le.t4 | with_reducible apply Le.t5 | with_reducible apply Le.t6 | with_reducible apply Le.t7 | with_reducible apply Le.t8 | with_reducible apply Le.elim | with_reducible apply le_slices_Index_int_int | intro _)

noncomputable def layout_checkParts_L2_c (p : api_Param) (i2 : Int) : Option ((Int) ⊕ (Int) ⊕ (Unit)) :=
  if (decide (i2 < (p.Parts.length : Int))) = true then
  (idx p.Parts i2).bind fun x2 =>
  if ((decide (60 < p.Step)) || (decide (60 < (i64 (x2.Word + (i64 ((i64 (p.Times - 1)) * p.Step))))))) = true then
  some (.inr (.inl 9))
  else
  some (.inl (i64 (i2 + 1)))
  else
  some (.inr (.inr ()))
theorem le_layout_checkParts_L2 (p : api_Param) (i2 : Int) : Le (layout_checkParts_L2_c p i2) (layout_checkParts_L2 p i2) := by
  unfold layout_checkParts_L2_c layout_checkParts_L2
  repeat' (first | with_reducible exact Le.refl _ | with_reducible apply Le.bind | with_reducible apply Le.ite | with_reducible apply Le.gd | with_reducible apply Le.loop | with_reducible apply Le.t0 | with_reducible apply Le.t1 | with_reducible apply Le.t2 | with_reducible apply Le.t3 | with_reducible apply Le.t4 | with_reducible apply Le.t5 | with_reducible apply Le.t6 | with_reducible apply Le.t7 | with_reducible apply Le.t8 | with_reducible apply Le.elim | intro _)

noncomputable def layout_checkParts_c (p : api_Param) : Option Int :=
  if (decide ((p.Parts.length : Int) = 0)) = true then
  some 13
  else
  if (decide (8 < (p.Parts.length : Int))) = true then
  some 3
  else
  ((cloop (t1 (layout_checkParts_L1_c p)) 0) : Option ((Int) ⊕ (Unit))).bind (Sum.elim (fun v => some v) (t0 ((layout_bitsOf_c p).bind fun y5 =>
  if (decide (40 < y5)) = true then
  some 3
  else
  (slices_Contains_int_int_c ([1, 2, 4, 8, 16] : List Int) p.Every).bind fun y6 =>
  (gd ((!y6) == false) false (layout_within_c p.First 0 (i64 (p.Every - 1)))).bind fun y7 =>
  (gd (((!y6) || (!y7)) == false) false (layout_within_c p.Times 1 57)).bind fun y8 =>
  if (((((!y6) || (!y7)) || (!y8)) || (decide (p.Step < 0))) || (!((decide (p.Step = 0)) == (decide (p.Times = 1))))) = true then
  some 9
  else
  ((cloop (t1 (layout_checkParts_L2_c p)) 0) : Option ((Int) ⊕ (Unit))).bind (Sum.elim (fun v => some v) (t0 (some 0))))))
theorem le_layout_checkParts (p : api_Param) : Le (layout_checkParts_c p) (layout_checkParts p) := by
  unfold layout_checkParts_c layout_checkParts
  repeat' (first | with_reducible exact Le.refl _ | with_reducible apply Le.bind | with_reducible apply Le.ite | with_reducible apply Le.gd | with_reducible apply Le.loop | with_reducible apply Le.t0 | with_reducible apply Le.t1 | with_reducible apply Le.t2 | with_reducible apply Le.t3 | with_reducible apply Le.t4 | with_reducible apply Le.t5 | with_reducible apply Le.t6 | with_reducible apply Le.t7 | with_reducible apply Le.t8 | with_reducible apply Le.elim | with_reducible apply le_layout_checkParts_L1 | with_reducible apply le_slices_Contains_int_int | with_reducible apply le_layout_within | with_reducible apply le_layout_checkParts_L2 | with_reducible apply le_layout_bitsOf | intro _)

noncomputable def slices_Index_string_string_L1_c (s : List Str) (v : Str) (i : Int) : Option ((Int) ⊕ (Int) ⊕ (Unit)) :=
  if (decide (i < (s.length : Int))) = true then
  (idx s i).bind fun x =>
  if (decide (v = x)) = true then
  some (.inr (.inl i))
  else
  some (.inl (i64 (i + 1)))
  else
  some (.inr (.inr ()))
theorem le_slices_Index_string_string_L1 (s : List Str) (v : Str) (i : Int) : Le (slices_Index_string_string_L1_c s v i) (slices_Index_string_string_L1 s v i) := by
  unfold slices_Index_string_string_L1_c slices_Index_string_string_L1
  repeat' (first | with_reducible exact Le.refl _ | with_reducible apply Le.bind | with_reducible apply Le.ite | with_reducible apply Le.gd | with_reducible apply Le.loop | with_reducible apply Le.t0 | with_reducible apply Le.t1 | with_reducible apply Le.t2 | with_reducible apply Le.t3 | with_reducible apply Le.t4 | with_reducible apply Le.t5 | with_reducible apply Le.t6 | with_reducible apply Le.t7 | with_reducible apply Le.t8 | with_reducible apply Le.elim | intro _)

noncomputable def slices_Index_string_string_c (s : List Str) (v : Str) : Option Int :=
  ((cloop (t1 (slices_Index_string_string_L1_c s v)) 0) : Option ((Int) ⊕ (Unit))).bind (Sum.elim (fun v => some v) (t0 (some (-1))))
theorem le_slices_Index_string_string (s : List Str) (v : Str) : Le (slices_Index_string_string_c s v) (slices_Index_string_string s v) := by
  unfold slices_Index_string_string_c slices_Index_string_string
  repeat' (first | with_reducible exact Le.refl _ | with_reducible apply Le.bind | with_reducible apply Le.ite | with_reducible apply Le.gd | with_reducible apply Le.loop | with_reducible apply Le.t0 | with_reducible apply Le.t1 | with_reducible apply Le.t2 | with_reducible apply Le.t3 | with_reducible apply Le.t4 | with_reducible apply Le.t5 | with_reducible apply Le.t6 | with_reducible apply Le.t7 | with_reducible apply Le.t8 | with_reducible apply Le.elim | with_reducible apply le_slices_Index_string_string_L1 | intro _)

noncomputable def slices_Contains_string_string_c (s : List Str) (v : Str) : Option Bool :=
  (slices_Index_string_string_c s v).bind fun y =>
  some (decide (0 ≤ y))
theorem le_slices_Contains_string_string (s : List Str) (v : Str) : Le (slices_Contains_string_string_c s v) (slices_Contains_string_string s v) := by
  unfold slices_Contains_string_string_c slices_Contains_string_string
  repeat' (first | with_reducible exact Le.refl _ | with_reducible apply Le.bind | with_reducible apply Le.ite | with_reducible apply Le.gd | with_reducible apply Le.loop | with_reducible apply Le.t0 | with_reducible apply Le.t1 | with_reducible apply Le.t2 | with_reducible apply Le.t3 | with_reducible apply Le.t4 | with_reducible apply Le.t5 | with_reducible apply Le.t6 | with_reducible apply Le.t7 | with_reducible apply Le.t8 | with_reducible apply Le.elim | with_reducible apply le_slices_Index_string_string | intro _)

noncomputable def layout_checkNames_L1_c (p : api_Param) (i : Int) : Option ((Int) ⊕ (Int) ⊕ (Unit)) :=
  if (decide (i < (p.Names.length : Int))) = true then
  (idx p.Names i).bind fun x =>
  (nmC x).bind fun y2 =>
  if (!y2) = true then
  some (.inr (.inl 8))
  else
  (slc p.Names 0 i).bind fun l =>
  (slices_Contains_string_string_c l x).bind fun y3 =>
  if y3 = true then
  some (.inr (.inl 5))
  else
  some (.inl (i64 (i + 1)))
  else
  some (.inr (.inr ()))
theorem le_layout_checkNames_L1 (p : api_Param) (i : Int) : Le (layout_checkNames_L1_c p i) (layout_checkNames_L1 p i) := by
  unfold layout_checkNames_L1_c layout_checkNames_L1
  repeat' (first | with_reducible exact Le.refl _ | with_reducible apply Le.bind | with_reducible apply Le.ite | with_reducible apply Le.gd | with_reducible apply Le.loop | with_reducible apply Le.t0 | with_reducible apply Le.t1 | with_reducible apply Le.t2 | with_reducible apply Le.t3 | with_reducible apply Le.t4 | with_reducible apply Le.t5 | with_reducible apply Le.t6 | with_reducible apply Le.t7 | with_reducible apply Le.t8 | with_reducible apply Le.elim | with_reducible apply le_slices_Contains_string_string | with_reducible apply le_nmC | intro _)

noncomputable def layout_checkNames_c (p : api_Param) : Option Int :=
  (layout_bitsOf_c p).bind fun y =>
  (gd ((decide (p.Kind = 4)) == true) 0 (rem y 4)).bind fun q =>
  if ((((decide (p.Kind = 4)) && (!decide (q = 0))) || ((decide (p.Kind = 5)) && (!decide (y = 1)))) || (((decide (p.Kind = 2)) || (decide (p.Kind = 3))) && (decide (y = 1)))) = true then
  some 2
  else
  if (!decide (p.Kind = 6)) = true then
  if (decide (0 < (p.Names.length : Int))) = true then
  some 2
  else
  some 0
  else
  if (decide ((p.Names.length : Int) = 0)) = true then
  some 13
  else
  (gd ((decide (64 < (p.Names.length : Int))) == false) 0 (shl .i64 1 y)).bind fun q2 =>
  if ((decide (64 < (p.Names.length : Int))) || (decide (q2 < (p.Names.length : Int)))) = true then
  some 3
  else
  ((cloop (t1 (layout_checkNames_L1_c p)) 0) : Option ((Int) ⊕ (Unit))).bind (Sum.elim (fun v => some v) (t0 (some 0)))
theorem le_layout_checkNames (p : api_Param) : Le (layout_checkNames_c p) (layout_checkNames p) := by
  unfold layout_checkNames_c layout_checkNames
  repeat' (first | with_reducible exact Le.refl _ | with_reducible apply Le.bind | with_reducible apply Le.ite | with_reducible apply Le.gd | with_reducible apply Le.loop | with_reducible apply Le.t0 | with_reducible apply Le.t1 | with_reducible apply Le.t2 | with_reducible apply Le.t3 | with_reducible apply Le.t4 | with_reducible apply Le.t5 | with_reducible apply Le.t6 | with_reducible apply Le.t7 | with_reducible apply Le.t8 | with_reducible apply Le.elim | with_reducible apply le_layout_checkNames_L1 | with_reducible apply le_layout_bitsOf | intro _)

noncomputable def slices_IndexFunc_api_Part_api_Part_L1_c (s : List api_Part) (f : api_Part → Option Bool) (i : Int) : Option ((Int) ⊕ (Int) ⊕ (Unit)) :=
  if (decide (i < (s.length : Int))) = true then
  (idx s i).bind fun x =>
  (f x).bind fun y =>
  if y = true then
  some (.inr (.inl i))
  else
  some (.inl (i64 (i + 1)))
  else
  some (.inr (.inr ()))
theorem le_slices_IndexFunc_api_Part_api_Part_L1 (s : List api_Part) (f : api_Part → Option Bool) (i : Int) (f' : api_Part → Option Bool) (h_f : ∀ z0, Le (f z0) (f' z0)) : Le (slices_IndexFunc_api_Part_api_Part_L1_c s f i) (slices_IndexFunc_api_Part_api_Part_L1 s f' i) := by
  unfold slices_IndexFunc_api_Part_api_Part_L1_c slices_IndexFunc_api_Part_api_Part_L1
  repeat' (first | with_reducible exact Le.refl _ | with_reducible apply Le.bind | with_reducible apply Le.ite | with_reducible apply Le.gd | with_reducible apply Le.loop | with_reducible apply Le.t0 | with_reducible apply Le.t1 | with_reducible apply Le.t2 | with_reducible apply Le.t3 | with_reducible apply Le.t4 | with_reducible apply Le.t5 | with_reducible apply Le.t6 | with_reducible apply Le.t7 | with_reducible apply Le.t8 | with_reducible apply Le.elim | with_reducible apply h_f | intro _)

noncomputable def slices_IndexFunc_api_Part_api_Part_c (s : List api_Part) (f : api_Part → Option Bool) : Option Int :=
  ((cloop (t1 (slices_IndexFunc_api_Part_api_Part_L1_c s f)) 0) : Option ((Int) ⊕ (Unit))).bind (Sum.elim (fun v => some v) (t0 (some (-1))))
theorem le_slices_IndexFunc_api_Part_api_Part (s : List api_Part) (f : api_Part → Option Bool) (f' : api_Part → Option Bool) (h_f : ∀ z0, Le (f z0) (f' z0)) : Le (slices_IndexFunc_api_Part_api_Part_c s f) (slices_IndexFunc_api_Part_api_Part s f') := by
  unfold slices_IndexFunc_api_Part_api_Part_c slices_IndexFunc_api_Part_api_Part
  repeat' (first | with_reducible exact Le.refl _ | with_reducible apply Le.bind | with_reducible apply Le.ite | with_reducible apply Le.gd | with_reducible apply Le.loop | with_reducible apply Le.t0 | with_reducible apply Le.t1 | with_reducible apply Le.t2 | with_reducible apply Le.t3 | with_reducible apply Le.t4 | with_reducible apply Le.t5 | with_reducible apply Le.t6 | with_reducible apply Le.t7 | with_reducible apply Le.t8 | with_reducible apply Le.elim | with_reducible apply le_slices_IndexFunc_api_Part_api_Part_L1 | with_reducible apply h_f | intro _)

noncomputable def slices_ContainsFunc_api_Part_api_Part_c (s : List api_Part) (f : api_Part → Option Bool) : Option Bool :=
  (slices_IndexFunc_api_Part_api_Part_c s f).bind fun y =>
  some (decide (0 ≤ y))
theorem le_slices_ContainsFunc_api_Part_api_Part (s : List api_Part) (f : api_Part → Option Bool) (f' : api_Part → Option Bool) (h_f : ∀ z0, Le (f z0) (f' z0)) : Le (slices_ContainsFunc_api_Part_api_Part_c s f) (slices_ContainsFunc_api_Part_api_Part s f') := by
  unfold slices_ContainsFunc_api_Part_api_Part_c slices_ContainsFunc_api_Part_api_Part
  repeat' (first | with_reducible exact Le.refl _ | with_reducible apply Le.bind | with_reducible apply Le.ite | with_reducible apply Le.gd | with_reducible apply Le.loop | with_reducible apply Le.t0 | with_reducible apply Le.t1 | with_reducible apply Le.t2 | with_reducible apply Le.t3 | with_reducible apply Le.t4 | with_reducible apply Le.t5 | with_reducible apply Le.t6 | with_reducible apply Le.t7 | with_reducible apply Le.t8 | with_reducible apply Le.elim | with_reducible apply le_slices_IndexFunc_api_Part_api_Part | with_reducible apply h_f | intro _)

noncomputable def layout_starts_1_c (x : api_Part) (c0 : Int) : Option Bool :=
  some (decide (16 ≤ (i64 (c0 + x.Frame))))
theorem le_layout_starts_1 (x : api_Part) (c0 : Int) : Le (layout_starts_1_c x c0) (layout_starts_1 x c0) := by
  unfold layout_starts_1_c layout_starts_1
  repeat' (first | with_reducible exact Le.refl _ | with_reducible apply Le.bind | with_reducible apply Le.ite | with_reducible apply Le.gd | with_reducible apply Le.loop | with_reducible apply Le.t0 | with_reducible apply Le.t1 | with_reducible apply Le.t2 | with_reducible apply Le.t3 | with_reducible apply Le.t4 | with_reducible apply Le.t5 | with_reducible apply Le.t6 | with_reducible apply Le.t7 | with_reducible apply Le.t8 | with_reducible apply Le.elim | intro _)

noncomputable def layout_starts_L1_c (p : api_Param) (out2 : List Int) (f : Int) : Option (((List Int) × Int) ⊕ ((List Int))) :=
  if (decide (f < 16)) = true then
  (((slices_ContainsFunc_api_Part_api_Part_c p.Parts (fun z0 => layout_starts_1_c z0 f)).bind fun y =>
  if (!y) = true then
  (app out2 ([f] : List Int)).bind fun l =>
  some l
  else
  some out2) : Option (((List Int)))).bind (t1 fun (out3 : List Int) =>
  some (.inl (out3, (i64 (f + p.Every)))))
  else
  some (.inr out2)
theorem le_layout_starts_L1 (p : api_Param) (out2 : List Int) (f : Int) : Le (layout_starts_L1_c p out2 f) (layout_starts_L1 p out2 f) := by
  unfold layout_starts_L1_c layout_starts_L1
  repeat' (first | with_reducible exact Le.refl _ | with_reducible apply Le.bind | with_reducible apply Le.ite | with_reducible apply Le.gd | with_reducible apply Le.loop | with_reducible apply Le.t0 | with_reducible apply Le.t1 | with_reducible apply Le.t2 | with_reducible apply Le.t3 | with_reducible apply Le.t4 | with_reducible apply Le.t5 | with_reducible apply Le.t6 | with_reducible apply Le.t7 | with_reducible apply Le.t8 | with_reducible apply Le.elim | with_reducible apply le_slices_ContainsFunc_api_Part_api_Part | with_reducible apply le_layout_starts_1 | intro _)

noncomputable def layout_starts_c (p : api_Param) : Option (List Int) :=
  ((cloop (t2 (layout_starts_L1_c p)) ([], p.First)) : Option (((List Int)))).bind (t1 fun (out : List Int) =>
  some out)
theorem le_layout_starts (p : api_Param) : Le (layout_starts_c p) (layout_starts p) := by
  unfold layout_starts_c layout_starts
  repeat' (first | with_reducible exact Le.refl _ | with_reducible apply Le.bind | with_reducible apply Le.ite | with_reducible apply Le.gd | with_reducible apply Le.loop | with_reducible apply Le.t0 | with_reducible apply Le.t1 | with_reducible apply Le.t2 | with_reducible apply Le.t3 | with_reducible apply Le.t4 | with_reducible apply Le.t5 | with_reducible apply Le.t6 | with_reducible apply Le.t7 | with_reducible apply Le.t8 | with_reducible apply Le.elim | with_reducible apply le_layout_starts_L1 | intro _)

noncomputable def layout_placeOf_c (p : api_Param) (x : api_Part) (f : Int) (j : Int) : Option api_Place :=
  some (api_Place.mk (i64 (f + x.Frame)) (i64 (x.Word + (i64 (j * p.Step)))) x.Low x.Bits)
theorem le_layout_placeOf (p : api_Param) (x : api_Part) (f : Int) (j : Int) : Le (layout_placeOf_c p x f j) (layout_placeOf p x f j) := by
  unfold layout_placeOf_c layout_placeOf
  repeat' (first | with_reducible exact Le.refl _ | with_reducible apply Le.bind | with_reducible apply Le.ite | with_reducible apply Le.gd | with_reducible apply Le.loop | with_reducible apply Le.t0 | with_reducible apply Le.t1 | with_reducible apply Le.t2 | with_reducible apply Le.t3 | with_reducible apply Le.t4 | with_reducible apply Le.t5 | with_reducible apply Le.t6 | with_reducible apply Le.t7 | with_reducible apply Le.t8 | with_reducible apply Le.elim | intro _)

noncomputable def layout_cellsOf_L3_c (p : api_Param) (x : Int) (i2 : Int) (Places2 : List api_Place) (i3 : Int) : Option (((List api_Place) × Int) ⊕ ((List api_Place))) :=
  if (decide (i3 < (p.Parts.length : Int))) = true then
  (idx p.Parts i3).bind fun x2 =>
  (layout_placeOf_c p x2 x i2).bind fun y2 =>
  (app Places2 ([y2] : List api_Place)).bind fun l =>
  some (.inl (l, (i64 (i3 + 1))))
  else
  some (.inr Places2)
theorem le_layout_cellsOf_L3 (p : api_Param) (x : Int) (i2 : Int) (Places2 : List api_Place) (i3 : Int) : Le (layout_cellsOf_L3_c p x i2 Places2 i3) (layout_cellsOf_L3 p x i2 Places2 i3) := by
  unfold layout_cellsOf_L3_c layout_cellsOf_L3
  repeat' (first | with_reducible exact Le.refl _ | with_reducible apply Le.bind | with_reducible apply Le.ite | with_reducible apply Le.gd | with_reducible apply Le.loop | with_reducible apply Le.t0 | with_reducible apply Le.t1 | with_reducible apply Le.t2 | with_reducible apply Le.t3 | with_reducible apply Le.t4 | with_reducible apply Le.t5 | with_reducible apply Le.t6 | with_reducible apply Le.t7 | with_reducible apply Le.t8 | with_reducible apply Le.elim | with_reducible apply le_layout_placeOf | intro _)

noncomputable def layout_cellsOf_L2_c (number : Int) (p : api_Param) (x : Int) (out4 : List api_Cell) (i2 : Int) : Option (((List api_Cell) × Int) ⊕ ((List api_Cell))) :=
  if (decide (i2 < p.Times)) = true then
  ((cloop (t2 (layout_cellsOf_L3_c p x i2)) ([], 0)) : Option (((List api_Place)))).bind (t1 fun (Places : List api_Place) =>
  (app out4 ([(api_Cell.mk number (out4.length : Int) x Places)] : List api_Cell)).bind fun l2 =>
  some (.inl (l2, (i64 (i2 + 1)))))
  else
  some (.inr out4)
theorem le_layout_cellsOf_L2 (number : Int) (p : api_Param) (x : Int) (out4 : List api_Cell) (i2 : Int) : Le (layout_cellsOf_L2_c number p x out4 i2) (layout_cellsOf_L2 number p x out4 i2) := by
  unfold layout_cellsOf_L2_c layout_cellsOf_L2
  repeat' (first | with_reducible exact Le.refl _ | with_reducible apply Le.bind | with_reducible apply Le.ite | with_reducible apply Le.gd | with_reducible apply Le.loop | with_reducible apply Le.t0 | with_reducible apply Le.t1 | with_reducible apply Le.t2 | with_reducible apply Le.t3 | with_reducible apply Le.t4 | with_reducible apply Le.t5 | with_reducible apply Le.t6 | with_reducible apply Le.t7 | with_reducible apply Le.t8 | with_reducible apply Le.elim | with_reducible apply le_layout_cellsOf_L3 | intro _)

noncomputable def layout_cellsOf_L1_c (number : Int) (p : api_Param) (y : (List Int)) (out2 : List api_Cell) (i : Int) : Option (((List api_Cell) × Int) ⊕ ((List api_Cell))) :=
  if (decide (i < (y.length : Int))) = true then
  (((idx y i).bind fun x =>
  cloop (t2 (layout_cellsOf_L2_c number p x)) (out2, 0)) : Option (((List api_Cell)))).bind (t1 fun (out3 : List api_Cell) =>
  some (.inl (out3, (i64 (i + 1)))))
  else
  some (.inr out2)
theorem le_layout_cellsOf_L1 (number : Int) (p : api_Param) (y : (List Int)) (out2 : List api_Cell) (i : Int) : Le (layout_cellsOf_L1_c number p y out2 i) (layout_cellsOf_L1 number p y out2 i) := by
  unfold layout_cellsOf_L1_c layout_cellsOf_L1
  repeat' (first | with_reducible exact Le.refl _ | with_reducible apply Le.bind | with_reducible apply Le.ite | with_reducible apply Le.gd | with_reducible apply Le.loop | with_reducible apply Le.t0 | with_reducible apply Le.t1 | with_reducible apply Le.t2 | with_reducible apply Le.t3 | with_reducible apply Le.t4 | with_reducible apply Le.t5 | with_reducible apply Le.t6 | with_reducible apply Le.t7 | with_reducible apply Le.t8 | with_reducible apply Le.elim | with_reducible apply le_layout_cellsOf_L2 | intro _)

noncomputable def layout_cellsOf_c (number : Int) (p : api_Param) : Option (List api_Cell) :=
  (((layout_starts_c p).bind fun y =>
  cloop (t2 (layout_cellsOf_L1_c number p y)) ([], 0)) : Option (((List api_Cell)))).bind (t1 fun (out : List api_Cell) =>
  some out)
theorem le_layout_cellsOf (number : Int) (p : api_Param) : Le (layout_cellsOf_c number p) (layout_cellsOf number p) := by
  unfold layout_cellsOf_c layout_cellsOf
  repeat' (first | with_reducible exact Le.refl _ | with_reducible apply Le.bind | with_reducible apply Le.ite | with_reducible apply Le.gd | with_reducible apply Le.loop | with_reducible apply Le.t0 | with_reducible apply Le.t1 | with_reducible apply Le.t2 | with_reducible apply Le.t3 | with_reducible apply Le.t4 | with_reducible apply Le.t5 | with_reducible apply Le.t6 | with_reducible apply Le.t7 | with_reducible apply Le.t8 | with_reducible apply Le.elim | with_reducible apply le_layout_starts | with_reducible apply le_layout_cellsOf_L1 | intro _)

noncomputable def layout_bitsAt_L1_c (x : api_Place) (out2 : List layout_bit) (i : Int) : Option (((List layout_bit) × Int) ⊕ ((List layout_bit))) :=
  if (decide (i < x.Bits)) = true then
  (app out2 ([(layout_bit.mk x.Frame x.Word (i64 (x.Low + i)))] : List layout_bit)).bind fun l =>
  some (.inl (l, (i64 (i + 1))))
  else
  some (.inr out2)
theorem le_layout_bitsAt_L1 (x : api_Place) (out2 : List layout_bit) (i : Int) : Le (layout_bitsAt_L1_c x out2 i) (layout_bitsAt_L1 x out2 i) := by
  unfold layout_bitsAt_L1_c layout_bitsAt_L1
  repeat' (first | with_reducible exact Le.refl _ | with_reducible apply Le.bind | with_reducible apply Le.ite | with_reducible apply Le.gd | with_reducible apply Le.loop | with_reducible apply Le.t0 | with_reducible apply Le.t1 | with_reducible apply Le.t2 | with_reducible apply Le.t3 | with_reducible apply Le.t4 | with_reducible apply Le.t5 | with_reducible apply Le.t6 | with_reducible apply Le.t7 | with_reducible apply Le.t8 | with_reducible apply Le.elim | intro _)

noncomputable def layout_bitsAt_c (x : api_Place) : Option (List layout_bit) :=
  ((cloop (t2 (layout_bitsAt_L1_c x)) ([], 0)) : Option (((List layout_bit)))).bind (t1 fun (out : List layout_bit) =>
  some out)
theorem le_layout_bitsAt (x : api_Place) : Le (layout_bitsAt_c x) (layout_bitsAt x) := by
  unfold layout_bitsAt_c layout_bitsAt
  repeat' (first | with_reducible exact Le.refl _ | with_reducible apply Le.bind | with_reducible apply Le.ite | with_reducible apply Le.gd | with_reducible apply Le.loop | with_reducible apply Le.t0 | with_reducible apply Le.t1 | with_reducible apply Le.t2 | with_reducible apply Le.t3 | with_reducible apply Le.t4 | with_reducible apply Le.t5 | with_reducible apply Le.t6 | with_reducible apply Le.t7 | with_reducible apply Le.t8 | with_reducible apply Le.elim | with_reducible apply le_layout_bitsAt_L1 | intro _)

noncomputable def layout_take_L2_c (owner : Int) (y : (List layout_bit)) (o4 : List (layout_bit × Int)) (i2 : Int) : Option (((List (layout_bit × Int)) × Int) ⊕ (Bool × (List (layout_bit × Int))) ⊕ ((List (layout_bit × Int)))) :=
  if (decide (i2 < (y.length : Int))) = true then
  (idx y i2).bind fun x2 =>
  (some (mget kq_layout_bit o4 x2)).bind fun o5 =>
  if o5.isSome = true then
  some (.inr (.inl (false, o4)))
  else
  some (.inl ((mput kq_layout_bit o4 x2 owner), (i64 (i2 + 1))))
  else
  some (.inr (.inr o4))
theorem le_layout_take_L2 (owner : Int) (y : (List layout_bit)) (o4 : List (layout_bit × Int)) (i2 : Int) : Le (layout_take_L2_c owner y o4 i2) (layout_take_L2 owner y o4 i2) := by
  unfold layout_take_L2_c layout_take_L2
  repeat' (first | with_reducible exact Le.refl _ | with_reducible apply Le.bind | with_reducible apply Le.ite | with_reducible apply Le.gd | with_reducible apply Le.loop | with_reducible apply Le.t0 | with_reducible apply Le.t1 | with_reducible apply Le.t2 | with_reducible apply Le.t3 | with_reducible apply Le.t4 | with_reducible apply Le.t5 | with_reducible apply Le.t6 | with_reducible apply Le.t7 | with_reducible apply Le.t8 | with_reducible apply Le.elim | intro _)

noncomputable def layout_take_L1_c (owner : Int) (l : List api_Place) (o2 : List (layout_bit × Int)) (i : Int) : Option (((List (layout_bit × Int)) × Int) ⊕ (Bool × (List (layout_bit × Int))) ⊕ ((List (layout_bit × Int)))) :=
  if (decide (i < (l.length : Int))) = true then
  (((idx l i).bind fun x =>
  (layout_bitsAt_c x).bind fun y =>
  cloop (t2 (layout_take_L2_c owner y)) (o2, 0)) : Option ((Bool × (List (layout_bit × Int))) ⊕ ((List (layout_bit × Int))))).bind (Sum.elim (fun v => some (.inr (.inl v))) (t1 fun (o3 : List (layout_bit × Int)) =>
  some (.inl (o3, (i64 (i + 1))))))
  else
  some (.inr (.inr o2))
theorem le_layout_take_L1 (owner : Int) (l : List api_Place) (o2 : List (layout_bit × Int)) (i : Int) : Le (layout_take_L1_c owner l o2 i) (layout_take_L1 owner l o2 i) := by
  unfold layout_take_L1_c layout_take_L1
  repeat' (first | with_reducible exact Le.refl _ | with_reducible apply Le.bind | with_reducible apply Le.ite | with_reducible apply Le.gd | with_reducible apply Le.loop | with_reducible apply Le.t0 | with_reducible apply Le.t1 | with_reducible apply Le.t2 | with_reducible apply Le.t3 | with_reducible apply Le.t4 | with_reducible apply Le.t5 | with_reducible apply Le.t6 | with_reducible apply Le.t7 | with_reducible apply Le.t8 | with_reducible apply Le.elim | with_reducible apply le_layout_bitsAt | with_reducible apply le_layout_take_L2 | intro _)

noncomputable def layout_take_c (taken : List (layout_bit × Int)) (owner : Int) (l : List api_Place) : Option (Bool × (List (layout_bit × Int))) :=
  ((cloop (t2 (layout_take_L1_c owner l)) (taken, 0)) : Option ((Bool × (List (layout_bit × Int))) ⊕ ((List (layout_bit × Int))))).bind (Sum.elim (fun v => some v) (t1 fun (o : List (layout_bit × Int)) =>
  some (true, o)))
theorem le_layout_take (taken : List (layout_bit × Int)) (owner : Int) (l : List api_Place) : Le (layout_take_c taken owner l) (layout_take taken owner l) := by
  unfold layout_take_c layout_take
  repeat' (first | with_reducible exact Le.refl _ | with_reducible apply Le.bind | with_reducible apply Le.ite | with_reducible apply Le.gd | with_reducible apply Le.loop | with_reducible apply Le.t0 | with_reducible apply Le.t1 | with_reducible apply Le.t2 | with_reducible apply Le.t3 | with_reducible apply Le.t4 | with_reducible apply Le.t5 | with_reducible apply Le.t6 | with_reducible apply Le.t7 | with_reducible apply Le.t8 | with_reducible apply Le.elim | with_reducible apply le_layout_take_L1 | intro _)

noncomputable def layout_CheckParam_L1_c (y5 : (List api_Cell)) (taken : List (layout_bit × Int)) (i : Int) : Option (((List (layout_bit × Int)) × Int) ⊕ (Int) ⊕ (Unit)) :=
  if (decide (i < (y5.length : Int))) = true then
  (idx y5 i).bind fun x =>
  (layout_take_c taken 0 x.Places).bind fun y6 =>
  if (!y6.1) = true then
  some (.inr (.inl 5))
  else
  some (.inl (y6.2, (i64 (i + 1))))
  else
  some (.inr (.inr ()))
theorem le_layout_CheckParam_L1 (y5 : (List api_Cell)) (taken : List (layout_bit × Int)) (i : Int) : Le (layout_CheckParam_L1_c y5 taken i) (layout_CheckParam_L1 y5 taken i) := by
  unfold layout_CheckParam_L1_c layout_CheckParam_L1
  repeat' (first | with_reducible exact Le.refl _ | with_reducible apply Le.bind | with_reducible apply Le.ite | with_reducible apply Le.gd | with_reducible apply Le.loop | with_reducible apply Le.t0 | with_reducible apply Le.t1 | with_reducible apply Le.t2 | with_reducible apply Le.t3 | with_reducible apply Le.t4 | with_reducible apply Le.t5 | with_reducible apply Le.t6 | with_reducible apply Le.t7 | with_reducible apply Le.t8 | with_reducible apply Le.elim | with_reducible apply le_layout_take | intro _)

noncomputable def layout_CheckParam_c (p : api_Param) : Option Int :=
  (nmC p.Name).bind fun y =>
  if (!y) = true then
  some 8
  else
  (layout_within_c p.Kind 1 6).bind fun y2 =>
  if (!y2) = true then
  some 7
  else
  (layout_checkParts_c p).bind fun y3 =>
  if (!decide (y3 = 0)) = true then
  some y3
  else
  (layout_checkNames_c p).bind fun y4 =>
  if (!decide (y4 = 0)) = true then
  some y4
  else
  (layout_cellsOf_c 0 p).bind fun y5 =>
  ((cloop (t2 (layout_CheckParam_L1_c y5)) (([] : List (layout_bit × Int)), 0)) : Option ((Int) ⊕ (Unit))).bind (Sum.elim (fun v => some v) (t0 (if (decide ((y5.length : Int) = 0)) = true then
  some 13
  else
  some 0)))
theorem le_layout_CheckParam (p : api_Param) : Le (layout_CheckParam_c p) (layout_CheckParam p) := by
  unfold layout_CheckParam_c layout_CheckParam
  repeat' (first | with_reducible exact Le.refl _ | with_reducible apply Le.bind | with_reducible apply Le.ite | with_reducible apply Le.gd | with_reducible apply Le.loop | with_reducible apply Le.t0 | with_reducible apply Le.t1 | with_reducible apply Le.t2 | with_reducible apply Le.t3 | with_reducible apply Le.t4 | with_reducible apply Le.t5 | with_reducible apply Le.t6 | with_reducible apply Le.t7 | with_reducible apply Le.t8 | with_reducible apply Le.elim | with_reducible apply le_layout_within | with_reducible apply le_layout_checkParts | with_reducible apply le_layout_checkNames | with_reducible apply le_layout_cellsOf | with_reducible apply le_layout_CheckParam_L1 | with_reducible apply le_nmC | intro _)

noncomputable def slices_IndexFunc_api_Param_api_Param_L1_c (s : List api_Param) (f : api_Param → Option Bool) (i : Int) : Option ((Int) ⊕ (Int) ⊕ (Unit)) :=
  if (decide (i < (s.length : Int))) = true then
  (idx s i).bind fun x =>
  (f x).bind fun y =>
  if y = true then
  some (.inr (.inl i))
  else
  some (.inl (i64 (i + 1)))
  else
  some (.inr (.inr ()))
theorem le_slices_IndexFunc_api_Param_api_Param_L1 (s : List api_Param) (f : api_Param → Option Bool) (i : Int) (f' : api_Param → Option Bool) (h_f : ∀ z0, Le (f z0) (f' z0)) : Le (slices_IndexFunc_api_Param_api_Param_L1_c s f i) (slices_IndexFunc_api_Param_api_Param_L1 s f' i) := by
  unfold slices_IndexFunc_api_Param_api_Param_L1_c slices_IndexFunc_api_Param_api_Param_L1
  repeat' (first | with_reducible exact Le.refl _ | with_reducible apply Le.bind | with_reducible apply Le.ite | with_reducible apply Le.gd | with_reducible apply Le.loop | with_reducible apply Le.t0 | with_reducible apply Le.t1 | with_reducible apply Le.t2 | with_reducible apply Le.t3 | with_reducible apply Le.t4 | with_reducible apply Le.t5 | with_reducible apply Le.t6 | with_reducible apply Le.t7 | with_reducible apply Le.t8 | with_reducible apply Le.elim | with_reducible apply h_f | intro _)

noncomputable def slices_IndexFunc_api_Param_api_Param_c (s : List api_Param) (f : api_Param → Option Bool) : Option Int :=
  ((cloop (t1 (slices_IndexFunc_api_Param_api_Param_L1_c s f)) 0) : Option ((Int) ⊕ (Unit))).bind (Sum.elim (fun v => some v) (t0 (some (-1))))
theorem le_slices_IndexFunc_api_Param_api_Param (s : List api_Param) (f : api_Param → Option Bool) (f' : api_Param → Option Bool) (h_f : ∀ z0, Le (f z0) (f' z0)) : Le (slices_IndexFunc_api_Param_api_Param_c s f) (slices_IndexFunc_api_Param_api_Param s f') := by
  unfold slices_IndexFunc_api_Param_api_Param_c slices_IndexFunc_api_Param_api_Param
  repeat' (first | with_reducible exact Le.refl _ | with_reducible apply Le.bind | with_reducible apply Le.ite | with_reducible apply Le.gd | with_reducible apply Le.loop | with_reducible apply Le.t0 | with_reducible apply Le.t1 | with_reducible apply Le.t2 | with_reducible apply Le.t3 | with_reducible apply Le.t4 | with_reducible apply Le.t5 | with_reducible apply Le.t6 | with_reducible apply Le.t7 | with_reducible apply Le.t8 | with_reducible apply Le.elim | with_reducible apply le_slices_IndexFunc_api_Param_api_Param_L1 | with_reducible apply h_f | intro _)

noncomputable def slices_ContainsFunc_api_Param_api_Param_c (s : List api_Param) (f : api_Param → Option Bool) : Option Bool :=
  (slices_IndexFunc_api_Param_api_Param_c s f).bind fun y =>
  some (decide (0 ≤ y))
theorem le_slices_ContainsFunc_api_Param_api_Param (s : List api_Param) (f : api_Param → Option Bool) (f' : api_Param → Option Bool) (h_f : ∀ z0, Le (f z0) (f' z0)) : Le (slices_ContainsFunc_api_Param_api_Param_c s f) (slices_ContainsFunc_api_Param_api_Param s f') := by
  unfold slices_ContainsFunc_api_Param_api_Param_c slices_ContainsFunc_api_Param_api_Param
  repeat' (first | with_reducible exact Le.refl _ | with_reducible apply Le.bind | with_reducible apply Le.ite | with_reducible apply Le.gd | with_reducible apply Le.loop | with_reducible apply Le.t0 | with_reducible apply Le.t1 | with_reducible apply Le.t2 | with_reducible apply Le.t3 | with_reducible apply Le.t4 | with_reducible apply Le.t5 | with_reducible apply Le.t6 | with_reducible apply Le.t7 | with_reducible apply Le.t8 | with_reducible apply Le.elim | with_reducible apply le_slices_IndexFunc_api_Param_api_Param | with_reducible apply h_f | intro _)

noncomputable def layout_check_1_c (q : api_Param) (c0 : api_Param) : Option Bool :=
  some (decide (q.Name = c0.Name))
theorem le_layout_check_1 (q : api_Param) (c0 : api_Param) : Le (layout_check_1_c q c0) (layout_check_1 q c0) := by
  unfold layout_check_1_c layout_check_1
  repeat' (first | with_reducible exact Le.refl _ | with_reducible apply Le.bind | with_reducible apply Le.ite | with_reducible apply Le.gd | with_reducible apply Le.loop | with_reducible apply Le.t0 | with_reducible apply Le.t1 | with_reducible apply Le.t2 | with_reducible apply Le.t3 | with_reducible apply Le.t4 | with_reducible apply Le.t5 | with_reducible apply Le.t6 | with_reducible apply Le.t7 | with_reducible apply Le.t8 | with_reducible apply Le.elim | intro _)

noncomputable def layout_check_L1_c (m : api_Map) (i : Int) : Option ((Int) ⊕ (Int × Int) ⊕ (Unit)) :=
  if (decide (i < (m.Params.length : Int))) = true then
  (idx m.Params i).bind fun x =>
  (layout_CheckParam_c x).bind fun y2 =>
  if (!decide (y2 = 0)) = true then
  some (.inr (.inl (i, y2)))
  else
  (slc m.Params 0 i).bind fun l =>
  (slices_ContainsFunc_api_Param_api_Param_c l (fun z0 => layout_check_1_c z0 x)).bind fun y3 =>
  if y3 = true then
  some (.inr (.inl (i, 5)))
  else
  some (.inl (i64 (i + 1)))
  else
  some (.inr (.inr ()))
theorem le_layout_check_L1 (m : api_Map) (i : Int) : Le (layout_check_L1_c m i) (layout_check_L1 m i) := by
  unfold layout_check_L1_c layout_check_L1
  repeat' (first | with_reducible exact Le.refl _ | with_reducible apply Le.bind | with_reducible apply Le.ite | with_reducible apply Le.gd | with_reducible apply Le.loop | with_reducible apply Le.t0 | with_reducible apply Le.t1 | with_reducible apply Le.t2 | with_reducible apply Le.t3 | with_reducible apply Le.t4 | with_reducible apply Le.t5 | with_reducible apply Le.t6 | with_reducible apply Le.t7 | with_reducible apply Le.t8 | with_reducible apply Le.elim | with_reducible apply le_layout_CheckParam | with_reducible apply le_slices_ContainsFunc_api_Param_api_Param | with_reducible apply le_layout_check_1 | intro _)

noncomputable def layout_check_L2_c (m : api_Map) (cells : Int) (i2 : Int) : Option ((Int × Int) ⊕ (Int × Int) ⊕ (Unit)) :=
  if (decide (i2 < (m.Params.length : Int))) = true then
  (idx m.Params i2).bind fun x2 =>
  (layout_starts_c x2).bind fun y4 =>
  if (decide (4000 < (i64 (cells + (i64 ((y4.length : Int) * x2.Times)))))) = true then
  some (.inr (.inl (i2, 3)))
  else
  some (.inl ((i64 (cells + (i64 ((y4.length : Int) * x2.Times)))), (i64 (i2 + 1))))
  else
  some (.inr (.inr ()))
theorem le_layout_check_L2 (m : api_Map) (cells : Int) (i2 : Int) : Le (layout_check_L2_c m cells i2) (layout_check_L2 m cells i2) := by
  unfold layout_check_L2_c layout_check_L2
  repeat' (first | with_reducible exact Le.refl _ | with_reducible apply Le.bind | with_reducible apply Le.ite | with_reducible apply Le.gd | with_reducible apply Le.loop | with_reducible apply Le.t0 | with_reducible apply Le.t1 | with_reducible apply Le.t2 | with_reducible apply Le.t3 | with_reducible apply Le.t4 | with_reducible apply Le.t5 | with_reducible apply Le.t6 | with_reducible apply Le.t7 | with_reducible apply Le.t8 | with_reducible apply Le.elim | with_reducible apply le_layout_starts | intro _)

noncomputable def layout_check_L4_c (i3 : Int) (y5 : (List api_Cell)) (taken3 : List (layout_bit × Int)) (i4 : Int) : Option (((List (layout_bit × Int)) × Int) ⊕ (Int × Int) ⊕ ((List (layout_bit × Int)))) :=
  if (decide (i4 < (y5.length : Int))) = true then
  (idx y5 i4).bind fun x4 =>
  (layout_take_c taken3 i3 x4.Places).bind fun y6 =>
  if (!y6.1) = true then
  some (.inr (.inl (i3, 5)))
  else
  some (.inl (y6.2, (i64 (i4 + 1))))
  else
  some (.inr (.inr taken3))
theorem le_layout_check_L4 (i3 : Int) (y5 : (List api_Cell)) (taken3 : List (layout_bit × Int)) (i4 : Int) : Le (layout_check_L4_c i3 y5 taken3 i4) (layout_check_L4 i3 y5 taken3 i4) := by
  unfold layout_check_L4_c layout_check_L4
  repeat' (first | with_reducible exact Le.refl _ | with_reducible apply Le.bind | with_reducible apply Le.ite | with_reducible apply Le.gd | with_reducible apply Le.loop | with_reducible apply Le.t0 | with_reducible apply Le.t1 | with_reducible apply Le.t2 | with_reducible apply Le.t3 | with_reducible apply Le.t4 | with_reducible apply Le.t5 | with_reducible apply Le.t6 | with_reducible apply Le.t7 | with_reducible apply Le.t8 | with_reducible apply Le.elim | with_reducible apply le_layout_take | intro _)

noncomputable def layout_check_L3_c (m : api_Map) (taken : List (layout_bit × Int)) (i3 : Int) : Option (((List (layout_bit × Int)) × Int) ⊕ (Int × Int) ⊕ (Unit)) :=
  if (decide (i3 < (m.Params.length : Int))) = true then
  (((idx m.Params i3).bind fun x3 =>
  (layout_cellsOf_c i3 x3).bind fun y5 =>
  cloop (t2 (layout_check_L4_c i3 y5)) (taken, 0)) : Option ((Int × Int) ⊕ ((List (layout_bit × Int))))).bind (Sum.elim (fun v => some (.inr (.inl v))) (t1 fun (taken2 : List (layout_bit × Int)) =>
  some (.inl (taken2, (i64 (i3 + 1))))))
  else
  some (.inr (.inr ()))
theorem le_layout_check_L3 (m : api_Map) (taken : List (layout_bit × Int)) (i3 : Int) : Le (layout_check_L3_c m taken i3) (layout_check_L3 m taken i3) := by
  unfold layout_check_L3_c layout_check_L3
  repeat' (first | with_reducible exact Le.refl _ | with_reducible apply Le.bind | with_reducible apply Le.ite | with_reducible apply Le.gd | with_reducible apply Le.loop | with_reducible apply Le.t0 | with_reducible apply Le.t1 | with_reducible apply Le.t2 | with_reducible apply Le.t3 | with_reducible apply Le.t4 | with_reducible apply Le.t5 | with_reducible apply Le.t6 | with_reducible apply Le.t7 | with_reducible apply Le.t8 | with_reducible apply Le.elim | with_reducible apply le_layout_cellsOf | with_reducible apply le_layout_check_L4 | intro _)

noncomputable def layout_check_c (m : api_Map) : Option (Int × Int) :=
  (layout_within_c m.Version 0 2047).bind fun y =>
  if (!y) = true then
  some ((-1), 9)
  else
  if (decide (200 < (m.Params.length : Int))) = true then
  some ((-1), 3)
  else
  ((cloop (t1 (layout_check_L1_c m)) 0) : Option ((Int × Int) ⊕ (Unit))).bind (Sum.elim (fun v => some v) (t0 (((cloop (t2 (layout_check_L2_c m)) (0, 0)) : Option ((Int × Int) ⊕ (Unit))).bind (Sum.elim (fun v => some v) (t0 (((cloop (t2 (layout_check_L3_c m)) (([] : List (layout_bit × Int)), 0)) : Option ((Int × Int) ⊕ (Unit))).bind (Sum.elim (fun v => some v) (t0 (some ((-1), 0))))))))))
theorem le_layout_check (m : api_Map) : Le (layout_check_c m) (layout_check m) := by
  unfold layout_check_c layout_check
  repeat' (first | with_reducible exact Le.refl _ | with_reducible apply Le.bind | with_reducible apply Le.ite | with_reducible apply Le.gd | with_reducible apply Le.loop | with_reducible apply Le.t0 | with_reducible apply Le.t1 | with_reducible apply Le.t2 | with_reducible apply Le.t3 | with_reducible apply Le.t4 | with_reducible apply Le.t5 | with_reducible apply Le.t6 | with_reducible apply Le.t7 | with_reducible apply Le.t8 | with_reducible apply Le.elim | with_reducible apply le_layout_within | with_reducible apply le_layout_check_L1 | with_reducible apply le_layout_check_L2 | with_reducible apply le_layout_check_L3 | intro _)

noncomputable def layout_cells_L1_c (m : api_Map) (out2 : List api_Cell) (i : Int) : Option (((List api_Cell) × Int) ⊕ ((List api_Cell))) :=
  if (decide (i < (m.Params.length : Int))) = true then
  (idx m.Params i).bind fun x =>
  (layout_cellsOf_c i x).bind fun y =>
  (app out2 y).bind fun l =>
  some (.inl (l, (i64 (i + 1))))
  else
  some (.inr out2)
theorem le_layout_cells_L1 (m : api_Map) (out2 : List api_Cell) (i : Int) : Le (layout_cells_L1_c m out2 i) (layout_cells_L1 m out2 i) := by
  unfold layout_cells_L1_c layout_cells_L1
  repeat' (first | with_reducible exact Le.refl _ | with_reducible apply Le.bind | with_reducible apply Le.ite | with_reducible apply Le.gd | with_reducible apply Le.loop | with_reducible apply Le.t0 | with_reducible apply Le.t1 | with_reducible apply Le.t2 | with_reducible apply Le.t3 | with_reducible apply Le.t4 | with_reducible apply Le.t5 | with_reducible apply Le.t6 | with_reducible apply Le.t7 | with_reducible apply Le.t8 | with_reducible apply Le.elim | with_reducible apply le_layout_cellsOf | intro _)

noncomputable def layout_cells_c (m : api_Map) : Option (List api_Cell) :=
  ((cloop (t2 (layout_cells_L1_c m)) ([], 0)) : Option (((List api_Cell)))).bind (t1 fun (out : List api_Cell) =>
  some out)
theorem le_layout_cells (m : api_Map) : Le (layout_cells_c m) (layout_cells m) := by
  unfold layout_cells_c layout_cells
  repeat' (first | with_reducible exact Le.refl _ | with_reducible apply Le.bind | with_reducible apply Le.ite | with_reducible apply Le.gd | with_reducible apply Le.loop | with_reducible apply Le.t0 | with_reducible apply Le.t1 | with_reducible apply Le.t2 | with_reducible apply Le.t3 | with_reducible apply Le.t4 | with_reducible apply Le.t5 | with_reducible apply Le.t6 | with_reducible apply Le.t7 | with_reducible apply Le.t8 | with_reducible apply Le.elim | with_reducible apply le_layout_cells_L1 | intro _)

noncomputable def layout_Pack_L1_c (m : api_Map) (out2 : Vector (List Int) 16) (i : Int) : Option (((Vector (List Int) 16) × Int) ⊕ ((Vector (List Int) 16))) :=
  if (decide (i < 16)) = true then
  (mks 58 0).bind fun l2 =>
  (vidx out2 i).bind fun x =>
  (vidx (vset out2 i l2) i).bind fun l3 =>
  (vidx (vset out2 i l2) i).bind fun x2 =>
  (idx l3 0).bind fun x3 =>
  some (.inl ((vset (vset out2 i l2) i (l3.set (Int.toNat 0) m.Version)), (i64 (i + 1))))
  else
  some (.inr out2)
theorem le_layout_Pack_L1 (m : api_Map) (out2 : Vector (List Int) 16) (i : Int) : Le (layout_Pack_L1_c m out2 i) (layout_Pack_L1 m out2 i) := by
  unfold layout_Pack_L1_c layout_Pack_L1
  repeat' (first | with_reducible exact Le.refl _ | with_reducible apply Le.bind | with_reducible apply Le.ite | with_reducible apply Le.gd | with_reducible apply Le.loop | with_reducible apply Le.t0 | with_reducible apply Le.t1 | with_reducible apply Le.t2 | with_reducible apply Le.t3 | with_reducible apply Le.t4 | with_reducible apply Le.t5 | with_reducible apply Le.t6 | with_reducible apply Le.t7 | with_reducible apply Le.t8 | with_reducible apply Le.elim | intro _)

noncomputable def layout_Pack_L3_c (x4 : api_Cell) (y5 : Int) (out6 : Vector (List Int) 16) (left : Int) (i3 : Int) : Option (((Vector (List Int) 16) × Int × Int) ⊕ ((Vector (List Int) 16))) :=
  if (decide (i3 < (x4.Places.length : Int))) = true then
  (idx x4.Places i3).bind fun x9 =>
  (vidx out6 x9.Frame).bind fun l4 =>
  (vidx out6 x9.Frame).bind fun x10 =>
  (idx l4 (i64 (x9.Word - 3))).bind fun x11 =>
  (shr .i64 y5 (i64 (left - x9.Bits))).bind fun q =>
  (shl .i64 1 x9.Bits).bind fun q2 =>
  (shl .i64 (band .i64 q (i64 (q2 - 1))) x9.Low).bind fun q3 =>
  (idx l4 (i64 (x9.Word - 3))).bind fun x12 =>
  some (.inl ((vset out6 x9.Frame (l4.set (i64 (x9.Word - 3)).toNat (bor .i64 x11 q3))), (i64 (left - x9.Bits)), (i64 (i3 + 1))))
  else
  some (.inr out6)
theorem le_layout_Pack_L3 (x4 : api_Cell) (y5 : Int) (out6 : Vector (List Int) 16) (left : Int) (i3 : Int) : Le (layout_Pack_L3_c x4 y5 out6 left i3) (layout_Pack_L3 x4 y5 out6 left i3) := by
  unfold layout_Pack_L3_c layout_Pack_L3
  repeat' (first | with_reducible exact Le.refl _ | with_reducible apply Le.bind | with_reducible apply Le.ite | with_reducible apply Le.gd | with_reducible apply Le.loop | with_reducible apply Le.t0 | with_reducible apply Le.t1 | with_reducible apply Le.t2 | with_reducible apply Le.t3 | with_reducible apply Le.t4 | with_reducible apply Le.t5 | with_reducible apply Le.t6 | with_reducible apply Le.t7 | with_reducible apply Le.t8 | with_reducible apply Le.elim | intro _)

noncomputable def layout_Pack_L2_c (m : api_Map) (l : List Int) (y2 : (List api_Cell)) (out4 : Vector (List Int) 16) (i2 : Int) : Option (((Vector (List Int) 16) × Int) ⊕ ((Vector (List Int) 16) × Int) ⊕ ((Vector (List Int) 16))) :=
  if (decide (i2 < (y2.length : Int))) = true then
  (((idx y2 i2).bind fun x4 =>
  (idx m.Params x4.Param).bind fun x5 =>
  (numC x5).bind fun y3 =>
  (idx l i2).bind fun x6 =>
  (layout_within_c x6 y3.low y3.high).bind fun y4 =>
  if (!y4) = true then
  some (.inl ((Vector.replicate 16 []), 9))
  else
  (idx l i2).bind fun x7 =>
  (y3.encode.fn x7).bind fun y5 =>
  (idx m.Params x4.Param).bind fun x8 =>
  (layout_bitsOf_c x8).bind fun y6 =>
  (cloop (t3 (layout_Pack_L3_c x4 y5)) (out4, y6, 0)).bind (fun v => some (.inr v))) : Option (((Vector (List Int) 16) × Int) ⊕ ((Vector (List Int) 16)))).bind (Sum.elim (fun v => some (.inr (.inl v))) (t1 fun (out5 : Vector (List Int) 16) =>
  some (.inl (out5, (i64 (i2 + 1))))))
  else
  some (.inr (.inr out4))
theorem le_layout_Pack_L2 (m : api_Map) (l : List Int) (y2 : (List api_Cell)) (out4 : Vector (List Int) 16) (i2 : Int) : Le (layout_Pack_L2_c m l y2 out4 i2) (layout_Pack_L2 m l y2 out4 i2) := by
  unfold layout_Pack_L2_c layout_Pack_L2
  repeat' (first | with_reducible exact Le.refl _ | with_reducible apply Le.bind | with_reducible apply Le.ite | with_reducible apply Le.gd | with_reducible apply Le.loop | with_reducible apply Le.t0 | with_reducible apply Le.t1 | with_reducible apply Le.t2 | with_reducible apply Le.t3 | with_reducible apply Le.t4 | with_reducible apply Le.t5 | with_reducible apply Le.t6 | with_reducible apply Le.t7 | with_reducible apply Le.t8 | with_reducible apply Le.elim | with_reducible apply le_layout_within | with_reducible apply le_layout_Pack_L3 | with_reducible apply le_numC | with_reducible apply le_layout_bitsOf | intro _)

noncomputable def layout_Pack_c (m : api_Map) (l : List Int) : Option ((Vector (List Int) 16) × Int) :=
  (layout_check_c m).bind fun y =>
  if (!decide (y.2 = 0)) = true then
  some ((Vector.replicate 16 []), y.2)
  else
  (layout_cells_c m).bind fun y2 =>
  if (!decide ((l.length : Int) = (y2.length : Int))) = true then
  some ((Vector.replicate 16 []), 3)
  else
  ((cloop (t2 (layout_Pack_L1_c m)) ((Vector.replicate 16 []), 0)) : Option (((Vector (List Int) 16)))).bind (t1 fun (out : Vector (List Int) 16) =>
  ((cloop (t2 (layout_Pack_L2_c m l y2)) (out, 0)) : Option (((Vector (List Int) 16) × Int) ⊕ ((Vector (List Int) 16)))).bind (Sum.elim (fun v => some v) (t1 fun (out3 : Vector (List Int) 16) =>
  some (out3, 0))))
theorem le_layout_Pack (m : api_Map) (l : List Int) : Le (layout_Pack_c m l) (layout_Pack m l) := by
  unfold layout_Pack_c layout_Pack
  repeat' (first | with_reducible exact Le.refl _ | with_reducible apply Le.bind | with_reducible apply Le.ite | with_reducible apply Le.gd | with_reducible apply Le.loop | with_reducible apply Le.t0 | with_reducible apply Le.t1 | with_reducible apply Le.t2 | with_reducible apply Le.t3 | with_reducible apply Le.t4 | with_reducible apply Le.t5 | with_reducible apply Le.t6 | with_reducible apply Le.t7 | with_reducible apply Le.t8 | with_reducible apply Le.elim | with_reducible apply le_layout_check | with_reducible apply le_layout_cells | with_reducible apply le_layout_Pack_L1 | with_reducible apply le_layout_Pack_L2 | intro _)

noncomputable def slices_IndexFunc_int_int_L1_c (s : List Int) (f : Int → Option Bool) (i : Int) : Option ((Int) ⊕ (Int) ⊕ (Unit)) :=
  if (decide (i < (s.length : Int))) = true then
  (idx s i).bind fun x =>
  (f x).bind fun y =>
  if y = true then
  some (.inr (.inl i))
  else
  some (.inl (i64 (i + 1)))
  else
  some (.inr (.inr ()))
theorem le_slices_IndexFunc_int_int_L1 (s : List Int) (f : Int → Option Bool) (i : Int) (f' : Int → Option Bool) (h_f : ∀ z0, Le (f z0) (f' z0)) : Le (slices_IndexFunc_int_int_L1_c s f i) (slices_IndexFunc_int_int_L1 s f' i) := by
  unfold slices_IndexFunc_int_int_L1_c slices_IndexFunc_int_int_L1
  repeat' (first | with_reducible exact Le.refl _ | with_reducible apply Le.bind | with_reducible apply Le.ite | with_reducible apply Le.gd | with_reducible apply Le.loop | with_reducible apply Le.t0 | with_reducible apply Le.t1 | with_reducible apply Le.t2 | with_reducible apply Le.t3 | with_reducible apply Le.t4 | with_reducible apply Le.t5 | with_reducible apply Le.t6 | with_reducible apply Le.t7 | with_reducible apply Le.t8 | with_reducible apply Le.elim | with_reducible apply h_f | intro _)

noncomputable def slices_IndexFunc_int_int_c (s : List Int) (f : Int → Option Bool) : Option Int :=
  ((cloop (t1 (slices_IndexFunc_int_int_L1_c s f)) 0) : Option ((Int) ⊕ (Unit))).bind (Sum.elim (fun v => some v) (t0 (some (-1))))
theorem le_slices_IndexFunc_int_int (s : List Int) (f : Int → Option Bool) (f' : Int → Option Bool) (h_f : ∀ z0, Le (f z0) (f' z0)) : Le (slices_IndexFunc_int_int_c s f) (slices_IndexFunc_int_int s f') := by
  unfold slices_IndexFunc_int_int_c slices_IndexFunc_int_int
  repeat' (first | with_reducible exact Le.refl _ | with_reducible apply Le.bind | with_reducible apply Le.ite | with_reducible apply Le.gd | with_reducible apply Le.loop | with_reducible apply Le.t0 | with_reducible apply Le.t1 | with_reducible apply Le.t2 | with_reducible apply Le.t3 | with_reducible apply Le.t4 | with_reducible apply Le.t5 | with_reducible apply Le.t6 | with_reducible apply Le.t7 | with_reducible apply Le.t8 | with_reducible apply Le.elim | with_reducible apply le_slices_IndexFunc_int_int_L1 | with_reducible apply h_f | intro _)

noncomputable def slices_ContainsFunc_int_int_c (s : List Int) (f : Int → Option Bool) : Option Bool :=
  (slices_IndexFunc_int_int_c s f).bind fun y =>
  some (decide (0 ≤ y))
theorem le_slices_ContainsFunc_int_int (s : List Int) (f : Int → Option Bool) (f' : Int → Option Bool) (h_f : ∀ z0, Le (f z0) (f' z0)) : Le (slices_ContainsFunc_int_int_c s f) (slices_ContainsFunc_int_int s f') := by
  unfold slices_ContainsFunc_int_int_c slices_ContainsFunc_int_int
  repeat' (first | with_reducible exact Le.refl _ | with_reducible apply Le.bind | with_reducible apply Le.ite | with_reducible apply Le.gd | with_reducible apply Le.loop | with_reducible apply Le.t0 | with_reducible apply Le.t1 | with_reducible apply Le.t2 | with_reducible apply Le.t3 | with_reducible apply Le.t4 | with_reducible apply Le.t5 | with_reducible apply Le.t6 | with_reducible apply Le.t7 | with_reducible apply Le.t8 | with_reducible apply Le.elim | with_reducible apply le_slices_IndexFunc_int_int | with_reducible apply h_f | intro _)

noncomputable def layout_Unpack_1_c (d : Int) : Option Bool :=
  (layout_within_c d 0 2047).bind fun y =>
  some (!y)
theorem le_layout_Unpack_1 (d : Int) : Le (layout_Unpack_1_c d) (layout_Unpack_1 d) := by
  unfold layout_Unpack_1_c layout_Unpack_1
  repeat' (first | with_reducible exact Le.refl _ | with_reducible apply Le.bind | with_reducible apply Le.ite | with_reducible apply Le.gd | with_reducible apply Le.loop | with_reducible apply Le.t0 | with_reducible apply Le.t1 | with_reducible apply Le.t2 | with_reducible apply Le.t3 | with_reducible apply Le.t4 | with_reducible apply Le.t5 | with_reducible apply Le.t6 | with_reducible apply Le.t7 | with_reducible apply Le.t8 | with_reducible apply Le.elim | with_reducible apply le_layout_within | intro _)

noncomputable def layout_Unpack_L1_c (l : Vector (List Int) 16) (i : Int) : Option ((Int) ⊕ ((List api_Reading) × Int) ⊕ (Unit)) :=
  if (decide (i < 16)) = true then
  (vidx l i).bind fun x =>
  if (!decide ((x.length : Int) = 58)) = true then
  some (.inr (.inl ([], 3)))
  else
  (slices_ContainsFunc_int_int_c x (fun z0 => layout_Unpack_1_c z0)).bind fun y2 =>
  if y2 = true then
  some (.inr (.inl ([], 9)))
  else
  some (.inl (i64 (i + 1)))
  else
  some (.inr (.inr ()))
theorem le_layout_Unpack_L1 (l : Vector (List Int) 16) (i : Int) : Le (layout_Unpack_L1_c l i) (layout_Unpack_L1 l i) := by
  unfold layout_Unpack_L1_c layout_Unpack_L1
  repeat' (first | with_reducible exact Le.refl _ | with_reducible apply Le.bind | with_reducible apply Le.ite | with_reducible apply Le.gd | with_reducible apply Le.loop | with_reducible apply Le.t0 | with_reducible apply Le.t1 | with_reducible apply Le.t2 | with_reducible apply Le.t3 | with_reducible apply Le.t4 | with_reducible apply Le.t5 | with_reducible apply Le.t6 | with_reducible apply Le.t7 | with_reducible apply Le.t8 | with_reducible apply Le.elim | with_reducible apply le_slices_ContainsFunc_int_int | with_reducible apply le_layout_Unpack_1 | intro _)

noncomputable def layout_Unpack_L2_c (m : api_Map) (l : Vector (List Int) 16) (i2 : Int) : Option ((Int) ⊕ ((List api_Reading) × Int) ⊕ (Unit)) :=
  if (decide (i2 < 16)) = true then
  (vidx l i2).bind fun x2 =>
  (idx x2 0).bind fun x3 =>
  if (!decide (x3 = m.Version)) = true then
  some (.inr (.inl ([], 11)))
  else
  some (.inl (i64 (i2 + 1)))
  else
  some (.inr (.inr ()))
theorem le_layout_Unpack_L2 (m : api_Map) (l : Vector (List Int) 16) (i2 : Int) : Le (layout_Unpack_L2_c m l i2) (layout_Unpack_L2 m l i2) := by
  unfold layout_Unpack_L2_c layout_Unpack_L2
  repeat' (first | with_reducible exact Le.refl _ | with_reducible apply Le.bind | with_reducible apply Le.ite | with_reducible apply Le.gd | with_reducible apply Le.loop | with_reducible apply Le.t0 | with_reducible apply Le.t1 | with_reducible apply Le.t2 | with_reducible apply Le.t3 | with_reducible apply Le.t4 | with_reducible apply Le.t5 | with_reducible apply Le.t6 | with_reducible apply Le.t7 | with_reducible apply Le.t8 | with_reducible apply Le.elim | intro _)

noncomputable def layout_rawOf_L1_c (c_ : api_Cell) (l : Vector (List Int) 16) (raw2 : Int) (i : Int) : Option ((Int × Int) ⊕ (Int)) :=
  if (decide (i < (c_.Places.length : Int))) = true then
  (idx c_.Places i).bind fun x =>
  (shl .i64 raw2 x.Bits).bind fun q =>
  (vidx l x.Frame).bind fun x2 =>
  (idx x2 (i64 (x.Word - 3))).bind fun x3 =>
  (shr .i64 x3 x.Low).bind fun q2 =>
  (shl .i64 1 x.Bits).bind fun q3 =>
  some (.inl ((bor .i64 q (band .i64 q2 (i64 (q3 - 1)))), (i64 (i + 1))))
  else
  some (.inr raw2)
theorem le_layout_rawOf_L1 (c_ : api_Cell) (l : Vector (List Int) 16) (raw2 : Int) (i : Int) : Le (layout_rawOf_L1_c c_ l raw2 i) (layout_rawOf_L1 c_ l raw2 i) := by
  unfold layout_rawOf_L1_c layout_rawOf_L1
  repeat' (first | with_reducible exact Le.refl _ | with_reducible apply Le.bind | with_reducible apply Le.ite | with_reducible apply Le.gd | with_reducible apply Le.loop | with_reducible apply Le.t0 | with_reducible apply Le.t1 | with_reducible apply Le.t2 | with_reducible apply Le.t3 | with_reducible apply Le.t4 | with_reducible apply Le.t5 | with_reducible apply Le.t6 | with_reducible apply Le.t7 | with_reducible apply Le.t8 | with_reducible apply Le.elim | intro _)

noncomputable def layout_rawOf_c (c_ : api_Cell) (l : Vector (List Int) 16) : Option Int :=
  ((cloop (t2 (layout_rawOf_L1_c c_ l)) (0, 0)) : Option ((Int))).bind (t1 fun (raw : Int) =>
  some raw)
theorem le_layout_rawOf (c_ : api_Cell) (l : Vector (List Int) 16) : Le (layout_rawOf_c c_ l) (layout_rawOf c_ l) := by
  unfold layout_rawOf_c layout_rawOf
  repeat' (first | with_reducible exact Le.refl _ | with_reducible apply Le.bind | with_reducible apply Le.ite | with_reducible apply Le.gd | with_reducible apply Le.loop | with_reducible apply Le.t0 | with_reducible apply Le.t1 | with_reducible apply Le.t2 | with_reducible apply Le.t3 | with_reducible apply Le.t4 | with_reducible apply Le.t5 | with_reducible apply Le.t6 | with_reducible apply Le.t7 | with_reducible apply Le.t8 | with_reducible apply Le.elim | with_reducible apply le_layout_rawOf_L1 | intro _)

noncomputable def layout_decoded_c (p : api_Param) (raw : Int) : Option (Int × Bool) :=
  (numC p).bind fun y =>
  (y.decode.fn raw).bind fun y2 =>
  if (!y2.2) = true then
  some (0, false)
  else
  some (y2.1, true)
theorem le_layout_decoded (p : api_Param) (raw : Int) : Le (layout_decoded_c p raw) (layout_decoded p raw) := by
  unfold layout_decoded_c layout_decoded
  repeat' (first | with_reducible exact Le.refl _ | with_reducible apply Le.bind | with_reducible apply Le.ite | with_reducible apply Le.gd | with_reducible apply Le.loop | with_reducible apply Le.t0 | with_reducible apply Le.t1 | with_reducible apply Le.t2 | with_reducible apply Le.t3 | with_reducible apply Le.t4 | with_reducible apply Le.t5 | with_reducible apply Le.t6 | with_reducible apply Le.t7 | with_reducible apply Le.t8 | with_reducible apply Le.elim | with_reducible apply le_numC | intro _)

noncomputable def layout_Unpack_L3_c (m : api_Map) (l : Vector (List Int) 16) (y3 : (List api_Cell)) (out2 : List api_Reading) (i3 : Int) : Option (((List api_Reading) × Int) ⊕ ((List api_Reading))) :=
  if (decide (i3 < (y3.length : Int))) = true then
  (idx y3 i3).bind fun x4 =>
  (idx m.Params x4.Param).bind fun x5 =>
  (layout_rawOf_c x4 l).bind fun y4 =>
  (layout_decoded_c x5 y4).bind fun y5 =>
  (app out2 ([(api_Reading.mk x4.Param x4.Index y5.1 y5.2)] : List api_Reading)).bind fun l2 =>
  some (.inl (l2, (i64 (i3 + 1))))
  else
  some (.inr out2)
theorem le_layout_Unpack_L3 (m : api_Map) (l : Vector (List Int) 16) (y3 : (List api_Cell)) (out2 : List api_Reading) (i3 : Int) : Le (layout_Unpack_L3_c m l y3 out2 i3) (layout_Unpack_L3 m l y3 out2 i3) := by
  unfold layout_Unpack_L3_c layout_Unpack_L3
  repeat' (first | with_reducible exact Le.refl _ | with_reducible apply Le.bind | with_reducible apply Le.ite | with_reducible apply Le.gd | with_reducible apply Le.loop | with_reducible apply Le.t0 | with_reducible apply Le.t1 | with_reducible apply Le.t2 | with_reducible apply Le.t3 | with_reducible apply Le.t4 | with_reducible apply Le.t5 | with_reducible apply Le.t6 | with_reducible apply Le.t7 | with_reducible apply Le.t8 | with_reducible apply Le.elim | with_reducible apply le_layout_rawOf | with_reducible apply le_layout_decoded | intro _)

noncomputable def layout_Unpack_c (m : api_Map) (l : Vector (List Int) 16) : Option ((List api_Reading) × Int) :=
  (layout_check_c m).bind fun y =>
  if (!decide (y.2 = 0)) = true then
  some ([], y.2)
  else
  ((cloop (t1 (layout_Unpack_L1_c l)) 0) : Option (((List api_Reading) × Int) ⊕ (Unit))).bind (Sum.elim (fun v => some v) (t0 (((cloop (t1 (layout_Unpack_L2_c m l)) 0) : Option (((List api_Reading) × Int) ⊕ (Unit))).bind (Sum.elim (fun v => some v) (t0 ((((layout_cells_c m).bind fun y3 =>
  cloop (t2 (layout_Unpack_L3_c m l y3)) ([], 0)) : Option (((List api_Reading)))).bind (t1 fun (out : List api_Reading) =>
  some (out, 0))))))))
theorem le_layout_Unpack (m : api_Map) (l : Vector (List Int) 16) : Le (layout_Unpack_c m l) (layout_Unpack m l) := by
  unfold layout_Unpack_c layout_Unpack
  repeat' (first | with_reducible exact Le.refl _ | with_reducible apply Le.bind | with_reducible apply Le.ite | with_reducible apply Le.gd | with_reducible apply Le.loop | with_reducible apply Le.t0 | with_reducible apply Le.t1 | with_reducible apply Le.t2 | with_reducible apply Le.t3 | with_reducible apply Le.t4 | with_reducible apply Le.t5 | with_reducible apply Le.t6 | with_reducible apply Le.t7 | with_reducible apply Le.t8 | with_reducible apply Le.elim | with_reducible apply le_layout_check | with_reducible apply le_layout_Unpack_L1 | with_reducible apply le_layout_Unpack_L2 | with_reducible apply le_layout_cells | with_reducible apply le_layout_Unpack_L3 | intro _)

noncomputable def law2_mapped_c : Option Bool :=
  (layout_Pack_c (api_Map.mk 3 ([(api_Param.mk [97] 2 ([(api_Part.mk 0 9 2 3)] : List api_Part) 2 8 2 1 [])] : List api_Param)) ([(-1), 3, 0, (-4)] : List Int)).bind fun y =>
  (gd ((!decide (y.2 = 0)) == false) [] (vidx y.1 2)).bind fun x =>
  (gd (((!decide (y.2 = 0)) || (!decide ((x.length : Int) = 58))) == false) [] (vidx y.1 5)).bind fun x2 =>
  (gd ((((!decide (y.2 = 0)) || (!decide ((x.length : Int) = 58))) || (!decide ((x2.length : Int) = 58))) == false) [] (vidx y.1 10)).bind fun x3 =>
  (gd (((((!decide (y.2 = 0)) || (!decide ((x.length : Int) = 58))) || (!decide ((x2.length : Int) = 58))) || (!decide ((x3.length : Int) = 58))) == false) [] (vidx y.1 2)).bind fun x4 =>
  (gd (((((!decide (y.2 = 0)) || (!decide ((x.length : Int) = 58))) || (!decide ((x2.length : Int) = 58))) || (!decide ((x3.length : Int) = 58))) == false) 0 (idx x4 6)).bind fun x5 =>
  (gd ((((((!decide (y.2 = 0)) || (!decide ((x.length : Int) = 58))) || (!decide ((x2.length : Int) = 58))) || (!decide ((x3.length : Int) = 58))) || (!decide (x5 = 28))) == false) [] (vidx y.1 2)).bind fun x6 =>
  (gd ((((((!decide (y.2 = 0)) || (!decide ((x.length : Int) = 58))) || (!decide ((x2.length : Int) = 58))) || (!decide ((x3.length : Int) = 58))) || (!decide (x5 = 28))) == false) 0 (idx x6 7)).bind fun x7 =>
  (gd (((((((!decide (y.2 = 0)) || (!decide ((x.length : Int) = 58))) || (!decide ((x2.length : Int) = 58))) || (!decide ((x3.length : Int) = 58))) || (!decide (x5 = 28))) || (!decide (x7 = 12))) == false) [] (vidx y.1 10)).bind fun x8 =>
  (gd (((((((!decide (y.2 = 0)) || (!decide ((x.length : Int) = 58))) || (!decide ((x2.length : Int) = 58))) || (!decide ((x3.length : Int) = 58))) || (!decide (x5 = 28))) || (!decide (x7 = 12))) == false) 0 (idx x8 6)).bind fun x9 =>
  (gd ((((((((!decide (y.2 = 0)) || (!decide ((x.length : Int) = 58))) || (!decide ((x2.length : Int) = 58))) || (!decide ((x3.length : Int) = 58))) || (!decide (x5 = 28))) || (!decide (x7 = 12))) || (!decide (x9 = 0))) == false) [] (vidx y.1 10)).bind fun x10 =>
  (gd ((((((((!decide (y.2 = 0)) || (!decide ((x.length : Int) = 58))) || (!decide ((x2.length : Int) = 58))) || (!decide ((x3.length : Int) = 58))) || (!decide (x5 = 28))) || (!decide (x7 = 12))) || (!decide (x9 = 0))) == false) 0 (idx x10 7)).bind fun x11 =>
  (gd (((((((((!decide (y.2 = 0)) || (!decide ((x.length : Int) = 58))) || (!decide ((x2.length : Int) = 58))) || (!decide ((x3.length : Int) = 58))) || (!decide (x5 = 28))) || (!decide (x7 = 12))) || (!decide (x9 = 0))) || (!decide (x11 = 16))) == false) [] (vidx y.1 5)).bind fun x12 =>
  (gd (((((((((!decide (y.2 = 0)) || (!decide ((x.length : Int) = 58))) || (!decide ((x2.length : Int) = 58))) || (!decide ((x3.length : Int) = 58))) || (!decide (x5 = 28))) || (!decide (x7 = 12))) || (!decide (x9 = 0))) || (!decide (x11 = 16))) == false) 0 (idx x12 0)).bind fun x13 =>
  if (((((((((!decide (y.2 = 0)) || (!decide ((x.length : Int) = 58))) || (!decide ((x2.length : Int) = 58))) || (!decide ((x3.length : Int) = 58))) || (!decide (x5 = 28))) || (!decide (x7 = 12))) || (!decide (x9 = 0))) || (!decide (x11 = 16))) || (!decide (x13 = 3))) = true then
  some false
  else
  (layout_Unpack_c (api_Map.mk 3 ([(api_Param.mk [97] 2 ([(api_Part.mk 0 9 2 3)] : List api_Part) 2 8 2 1 [])] : List api_Param)) y.1).bind fun y2 =>
  (gd (((decide (y2.2 = 0)) && (decide ((y2.1.length : Int) = 4))) == true) (api_Reading.mk 0 0 0 false) (idx y2.1 3)).bind fun x14 =>
  some (((decide (y2.2 = 0)) && (decide ((y2.1.length : Int) = 4))) && (decide (x14.Param = 0) && (decide (x14.Index = 3) && (decide (x14.Value = (-4)) && ((x14.Good == true) && true)))))
theorem le_law2_mapped : Le (law2_mapped_c ) (law2_mapped ) := by
  unfold law2_mapped_c law2_mapped
  repeat' (first | with_reducible exact Le.refl _ | with_reducible apply Le.bind | with_reducible apply Le.ite | with_reducible apply Le.gd | with_reducible apply Le.loop | with_reducible apply Le.t0 | with_reducible apply Le.t1 | with_reducible apply Le.t2 | with_reducible apply Le.t3 | with_reducible apply Le.t4 | with_reducible apply Le.t5 | with_reducible apply Le.t6 | with_reducible apply Le.t7 | with_reducible apply Le.t8 | with_reducible apply Le.elim | with_reducible apply le_layout_Pack | with_reducible apply le_layout_Unpack | intro _)
end Go.Vx
