/- A text of the proof: a verified executor of the program form, or the contracts of the functions that the law reaches. -/
import Derived.Test.YtjjlfkjacmhcmaaPA
import Derived.Test.YtjjlfkjacmhcmaaVP
import Derived.Test.YtjjlfkjacmhcmaaShW2
set_option linter.all false
namespace Go.Vx
open Go Go.RowKit
set_option linter.unusedVariables false

noncomputable def ZW (n : Int) (low : Int) (high : Int) : Option Bool :=
  some ((decide (low ≤ n)) && (decide (n ≤ high)))
theorem Xi (n : Int) (low : Int) (high : Int) : Le (ZW n low high) (ZU n low high) := by
  unfold ZW ZU
  with_reducible repeat' (first | exact Le.refl _ | apply Le.bind | intro _)

noncomputable def Ja (p : api_Param) (i : Int) : Option ((Int) ⊕ (Int) ⊕ (Unit)) :=
  if (decide (i < (p.Parts.length : Int))) = true then
  (idx p.Parts i).bind fun x =>
  (ZW x.Frame 0 15).bind fun y =>
  (gd ((!y) == false) false (ZW x.Word 4 60)).bind fun y2 =>
  (gd (((!y) || (!y2)) == false) false (ZW x.Low 0 10)).bind fun y3 =>
  (gd ((((!y) || (!y2)) || (!y3)) == false) false (ZW x.Bits 1 (i64 (11 - x.Low)))).bind fun y4 =>
  if ((((!y) || (!y2)) || (!y3)) || (!y4)) = true then
  some (.inr (.inl 9))
  else
  some (.inl (i64 (i + 1)))
  else
  some (.inr (.inr ()))
theorem ZcB (p : api_Param) (i : Int) : Le (Ja p i) (ZS p i) := by
  unfold Ja ZS
  with_reducible repeat' (first | exact Le.refl _ | apply Le.bind | apply Le.ite | apply Le.gd | apply Xi | intro _)

noncomputable def Xx (s : List Int) (v : Int) (i : Int) : Option ((Int) ⊕ (Int) ⊕ (Unit)) :=
  if (decide (i < (s.length : Int))) = true then
  (idx s i).bind fun x =>
  if (decide (v = x)) = true then
  some (.inr (.inl i))
  else
  some (.inl (i64 (i + 1)))
  else
  some (.inr (.inr ()))
theorem ZbW (s : List Int) (v : Int) (i : Int) : Le (Xx s v i) (ZO s v i) := by
  unfold Xx ZO
  with_reducible repeat' (first | exact Le.refl _ | apply Le.bind | apply Le.ite | intro _)

noncomputable def X5 (s : List Int) (v : Int) : Option Int :=
  ((Xv (t1 (Xx s v)) 0) : Option ((Int) ⊕ (Unit))).bind (Sum.elim (fun q' => some q') (t0 (some (-1))))
theorem Zcn (s : List Int) (v : Int) : Le (X5 s v) (QC s v) := by
  unfold X5 QC
  with_reducible repeat' (first | exact Le.refl _ | apply Le.bind | apply Le.loop | apply Le.t0 | apply Le.t1 | apply Le.elim | apply ZbW | intro _)

noncomputable def Xw (s : List Int) (v : Int) : Option Bool :=
  (X5 s v).bind fun y =>
  some (decide (0 ≤ y))
theorem ZbX (s : List Int) (v : Int) : Le (Xw s v) (Z0 s v) := by
  unfold Xw Z0
  with_reducible repeat' (first | exact Le.refl _ | apply Le.bind | apply Zcn | intro _)

noncomputable def X3 (p : api_Param) (i2 : Int) : Option ((Int) ⊕ (Int) ⊕ (Unit)) :=
  if (decide (i2 < (p.Parts.length : Int))) = true then
  (idx p.Parts i2).bind fun x2 =>
  if ((decide (60 < p.Step)) || (decide (60 < (i64 (x2.Word + (i64 ((i64 (p.Times - 1)) * p.Step))))))) = true then
  some (.inr (.inl 9))
  else
  some (.inl (i64 (i2 + 1)))
  else
  some (.inr (.inr ()))
theorem Zco (p : api_Param) (i2 : Int) : Le (X3 p i2) (Qe p i2) := by
  unfold X3 Qe
  with_reducible repeat' (first | exact Le.refl _ | apply Le.bind | apply Le.ite | intro _)

noncomputable def JY (p : api_Param) : Option Int :=
  if (decide ((p.Parts.length : Int) = 0)) = true then
  some 13
  else
  if (decide (8 < (p.Parts.length : Int))) = true then
  some 3
  else
  ((Xv (t1 (Ja p)) 0) : Option ((Int) ⊕ (Unit))).bind (Sum.elim (fun q' => some q') (t0 ((XB p).bind fun y5 =>
  if (decide (40 < y5)) = true then
  some 3
  else
  (Xw ([1, 2, 4, 8, 16] : List Int) p.Every).bind fun y6 =>
  (gd ((!y6) == false) false (ZW p.First 0 (i64 (p.Every - 1)))).bind fun y7 =>
  (gd (((!y6) || (!y7)) == false) false (ZW p.Times 1 57)).bind fun y8 =>
  if (((((!y6) || (!y7)) || (!y8)) || (decide (p.Step < 0))) || (!((decide (p.Step = 0)) == (decide (p.Times = 1))))) = true then
  some 9
  else
  ((Xv (t1 (X3 p)) 0) : Option ((Int) ⊕ (Unit))).bind (Sum.elim (fun q' => some q') (t0 (some 0))))))
theorem Zdy (p : api_Param) : Le (JY p) (QF p) := by
  unfold JY QF
  with_reducible repeat' (first | exact Le.refl _ | apply Le.bind | apply Le.ite | apply Le.gd | apply Le.loop | apply Le.t0 | apply Le.t1 | apply Le.elim | apply ZcB | apply ZbX | apply Xi | apply Zco | apply JR | intro _)

noncomputable def QR (s : List Str) (v : Str) (i : Int) : Option ((Int) ⊕ (Int) ⊕ (Unit)) :=
  if (decide (i < (s.length : Int))) = true then
  (idx s i).bind fun x =>
  if (decide (v = x)) = true then
  some (.inr (.inl i))
  else
  some (.inl (i64 (i + 1)))
  else
  some (.inr (.inr ()))
theorem ZaB (s : List Str) (v : Str) (i : Int) : Le (QR s v i) (ZC s v i) := by
  unfold QR ZC
  with_reducible repeat' (first | exact Le.refl _ | apply Le.bind | apply Le.ite | intro _)

noncomputable def Xb (s : List Str) (v : Str) : Option Int :=
  ((Xv (t1 (QR s v)) 0) : Option ((Int) ⊕ (Unit))).bind (Sum.elim (fun q' => some q') (t0 (some (-1))))
theorem Zbs (s : List Str) (v : Str) : Le (Xb s v) (Z1 s v) := by
  unfold Xb Z1
  with_reducible repeat' (first | exact Le.refl _ | apply Le.bind | apply Le.loop | apply Le.t0 | apply Le.t1 | apply Le.elim | apply ZaB | intro _)

noncomputable def QQ (s : List Str) (v : Str) : Option Bool :=
  (Xb s v).bind fun y =>
  some (decide (0 ≤ y))
theorem ZaO (s : List Str) (v : Str) : Le (QQ s v) (ZJ s v) := by
  unfold QQ ZJ
  with_reducible repeat' (first | exact Le.refl _ | apply Le.bind | apply Zbs | intro _)

noncomputable def XZ (p : api_Param) (i : Int) : Option ((Int) ⊕ (Int) ⊕ (Unit)) :=
  if (decide (i < (p.Names.length : Int))) = true then
  (idx p.Names i).bind fun x =>
  (nmC x).bind fun y2 =>
  if (!y2) = true then
  some (.inr (.inl 8))
  else
  (slc p.Names 0 i).bind fun l =>
  (QQ l x).bind fun y3 =>
  if y3 = true then
  some (.inr (.inl 5))
  else
  some (.inl (i64 (i + 1)))
  else
  some (.inr (.inr ()))
theorem ZcF (p : api_Param) (i : Int) : Le (XZ p i) (Qg p i) := by
  unfold XZ Qg
  with_reducible repeat' (first | exact Le.refl _ | apply Le.bind | apply Le.ite | apply ZaO | apply Zj6 | intro _)

noncomputable def JU (p : api_Param) : Option Int :=
  (XB p).bind fun y =>
  (gd ((decide (p.Kind = 4)) == true) 0 (rem y 4)).bind fun q =>
  if ((((decide (p.Kind = 4)) && (!decide (q = 0))) || ((decide (p.Kind = 5)) && (!decide (y = 1)))) || (((decide (p.Kind = 2)) || (decide (p.Kind = 3))) && (decide (y = 1)))) = true then
  some 2
  else
  if (!decide (p.Kind = 6)) = true then
  if (decide (0 < (p.Names.length : Int))) = true then
  some 2
  else
  some 0
  else
  if (decide ((p.Names.length : Int) = 0)) = true then
  some 13
  else
  (gd ((decide (64 < (p.Names.length : Int))) == false) 0 (shl .i64 1 y)).bind fun q2 =>
  if ((decide (64 < (p.Names.length : Int))) || (decide (q2 < (p.Names.length : Int)))) = true then
  some 3
  else
  ((Xv (t1 (XZ p)) 0) : Option ((Int) ⊕ (Unit))).bind (Sum.elim (fun q' => some q') (t0 (some 0)))
theorem Zdr (p : api_Param) : Le (JU p) (QI p) := by
  unfold JU QI
  with_reducible repeat' (first | exact Le.refl _ | apply Le.bind | apply Le.ite | apply Le.gd | apply Le.loop | apply Le.t0 | apply Le.t1 | apply Le.elim | apply ZcF | apply JR | intro _)

noncomputable def Qc (s : List api_Part) (f : api_Part → Option Bool) (i : Int) : Option ((Int) ⊕ (Int) ⊕ (Unit)) :=
  if (decide (i < (s.length : Int))) = true then
  (idx s i).bind fun x =>
  (f x).bind fun y =>
  if y = true then
  some (.inr (.inl i))
  else
  some (.inl (i64 (i + 1)))
  else
  some (.inr (.inr ()))
theorem Jq (s : List api_Part) (f : api_Part → Option Bool) (i : Int) (f' : api_Part → Option Bool) (h_f : ∀ z0, Le (f z0) (f' z0)) : Le (Qc s f i) (Zx s f' i) := by
  unfold Qc Zx
  with_reducible repeat' (first | exact Le.refl _ | apply Le.bind | apply Le.ite | apply h_f | intro _)

noncomputable def Ql (s : List api_Part) (f : api_Part → Option Bool) : Option Int :=
  ((Xv (t1 (Qc s f)) 0) : Option ((Int) ⊕ (Unit))).bind (Sum.elim (fun q' => some q') (t0 (some (-1))))
theorem JL (s : List api_Part) (f : api_Part → Option Bool) (f' : api_Part → Option Bool) (h_f : ∀ z0, Le (f z0) (f' z0)) : Le (Ql s f) (ZI s f') := by
  unfold Ql ZI
  with_reducible repeat' (first | exact Le.refl _ | apply Le.bind | apply Le.loop | apply Le.t0 | apply Le.t1 | apply Le.elim | apply Jq | apply h_f | intro _)

noncomputable def Qb (s : List api_Part) (f : api_Part → Option Bool) : Option Bool :=
  (Ql s f).bind fun y =>
  some (decide (0 ≤ y))
theorem Jp (s : List api_Part) (f : api_Part → Option Bool) (f' : api_Part → Option Bool) (h_f : ∀ z0, Le (f z0) (f' z0)) : Le (Qb s f) (Zw s f') := by
  unfold Qb Zw
  with_reducible repeat' (first | exact Le.refl _ | apply Le.bind | apply JL | apply h_f | intro _)

noncomputable def ZaH (x : api_Part) (c0 : Int) : Option Bool :=
  some (decide (16 ≤ (i64 (c0 + x.Frame))))
theorem Zei (x : api_Part) (c0 : Int) : Le (ZaH x c0) (QO x c0) := by
  unfold ZaH QO
  with_reducible repeat' (first | exact Le.refl _ | apply Le.bind | intro _)

noncomputable def Zak (p : api_Param) (out2 : List Int) (f : Int) : Option (((List Int) × Int) ⊕ ((List Int))) :=
  if (decide (f < 16)) = true then
  (((Qb p.Parts (fun z0 => ZaH z0 f)).bind fun y =>
  if (!y) = true then
  (app out2 ([f] : List Int)).bind fun l =>
  some l
  else
  some out2) : Option (((List Int)))).bind (t1 fun (out3 : List Int) =>
  some (.inl (out3, (i64 (f + p.Every)))))
  else
  some (.inr out2)
theorem ZdV (p : api_Param) (out2 : List Int) (f : Int) : Le (Zak p out2 f) (Z7 p out2 f) := by
  unfold Zak Z7
  with_reducible repeat' (first | exact Le.refl _ | apply Le.bind | apply Le.ite | apply Le.t1 | apply Jp | apply Zei | intro _)

noncomputable def Zai (p : api_Param) : Option (List Int) :=
  ((Xv (t2 (Zak p)) ([], p.First)) : Option (((List Int)))).bind (t1 fun (out : List Int) =>
  some out)
theorem ZcD (p : api_Param) : Le (Zai p) (Xg p) := by
  unfold Zai Xg
  with_reducible repeat' (first | exact Le.refl _ | apply Le.bind | apply Le.loop | apply Le.t1 | apply Le.t2 | apply ZdV | intro _)

noncomputable def Zbc (p : api_Param) (x : api_Part) (f : Int) (j : Int) : Option api_Place :=
  some (api_Place.mk (i64 (f + x.Frame)) (i64 (x.Word + (i64 (j * p.Step)))) x.Low x.Bits)
theorem ZeZ (p : api_Param) (x : api_Part) (f : Int) (j : Int) : Le (Zbc p x f j) (Xn p x f j) := by
  unfold Zbc Xn
  with_reducible repeat' (first | exact Le.refl _ | apply Le.bind | intro _)

noncomputable def JV (p : api_Param) (x : Int) (i2 : Int) (Places2 : List api_Place) (i3 : Int) : Option (((List api_Place) × Int) ⊕ ((List api_Place))) :=
  if (decide (i3 < (p.Parts.length : Int))) = true then
  (idx p.Parts i3).bind fun x2 =>
  (Zbc p x2 x i2).bind fun y2 =>
  (app Places2 ([y2] : List api_Place)).bind fun l =>
  some (.inl (l, (i64 (i3 + 1))))
  else
  some (.inr Places2)
theorem Zdf (p : api_Param) (x : Int) (i2 : Int) (Places2 : List api_Place) (i3 : Int) : Le (JV p x i2 Places2 i3) (Z2 p x i2 Places2 i3) := by
  unfold JV Z2
  with_reducible repeat' (first | exact Le.refl _ | apply Le.bind | apply Le.ite | apply ZeZ | intro _)

noncomputable def J7 (number : Int) (p : api_Param) (x : Int) (out4 : List api_Cell) (i2 : Int) : Option (((List api_Cell) × Int) ⊕ ((List api_Cell))) :=
  if (decide (i2 < p.Times)) = true then
  ((Xv (t2 (JV p x i2)) ([], 0)) : Option (((List api_Place)))).bind (t1 fun (Places : List api_Place) =>
  (app out4 ([(api_Cell.mk number (out4.length : Int) x Places)] : List api_Cell)).bind fun l2 =>
  some (.inl (l2, (i64 (i2 + 1)))))
  else
  some (.inr out4)
theorem Zdn (number : Int) (p : api_Param) (x : Int) (out4 : List api_Cell) (i2 : Int) : Le (J7 number p x out4 i2) (XF number p x out4 i2) := by
  unfold J7 XF
  with_reducible repeat' (first | exact Le.refl _ | apply Le.bind | apply Le.ite | apply Le.loop | apply Le.t1 | apply Le.t2 | apply Zdf | intro _)

noncomputable def JW (number : Int) (p : api_Param) (y : (List Int)) (out2 : List api_Cell) (i : Int) : Option (((List api_Cell) × Int) ⊕ ((List api_Cell))) :=
  if (decide (i < (y.length : Int))) = true then
  (((idx y i).bind fun x =>
  Xv (t2 (J7 number p x)) (out2, 0)) : Option (((List api_Cell)))).bind (t1 fun (out3 : List api_Cell) =>
  some (.inl (out3, (i64 (i + 1)))))
  else
  some (.inr out2)
theorem Zdm (number : Int) (p : api_Param) (y : (List Int)) (out2 : List api_Cell) (i : Int) : Le (JW number p y out2 i) (Qo number p y out2 i) := by
  unfold JW Qo
  with_reducible repeat' (first | exact Le.refl _ | apply Le.bind | apply Le.ite | apply Le.loop | apply Le.t1 | apply Le.t2 | apply Zdn | intro _)

noncomputable def XU (number : Int) (p : api_Param) : Option (List api_Cell) :=
  (((Zai p).bind fun y =>
  Xv (t2 (JW number p y)) ([], 0)) : Option (((List api_Cell)))).bind (t1 fun (out : List api_Cell) =>
  some out)
theorem ZaK (number : Int) (p : api_Param) : Le (XU number p) (Qv number p) := by
  unfold XU Qv
  with_reducible repeat' (first | exact Le.refl _ | apply Le.bind | apply Le.loop | apply Le.t1 | apply Le.t2 | apply ZcD | apply Zdm | intro _)

noncomputable def Zal (x : api_Place) (out2 : List layout_bit) (i : Int) : Option (((List layout_bit) × Int) ⊕ ((List layout_bit))) :=
  if (decide (i < x.Bits)) = true then
  (app out2 ([(layout_bit.mk x.Frame x.Word (i64 (x.Low + i)))] : List layout_bit)).bind fun l =>
  some (.inl (l, (i64 (i + 1))))
  else
  some (.inr out2)
theorem ZdX (x : api_Place) (out2 : List layout_bit) (i : Int) : Le (Zal x out2 i) (QX x out2 i) := by
  unfold Zal QX
  with_reducible repeat' (first | exact Le.refl _ | apply Le.bind | apply Le.ite | intro _)

noncomputable def ZbC (x : api_Place) : Option (List layout_bit) :=
  ((Xv (t2 (Zal x)) ([], 0)) : Option (((List layout_bit)))).bind (t1 fun (out : List layout_bit) =>
  some out)
theorem Zfc (x : api_Place) : Le (ZbC x) (XM x) := by
  unfold ZbC XM
  with_reducible repeat' (first | exact Le.refl _ | apply Le.bind | apply Le.loop | apply Le.t1 | apply Le.t2 | apply ZdX | intro _)

noncomputable def Zbb (owner : Int) (y : (List layout_bit)) (o4 : List (layout_bit × Int)) (i2 : Int) : Option (((List (layout_bit × Int)) × Int) ⊕ (Bool × (List (layout_bit × Int))) ⊕ ((List (layout_bit × Int)))) :=
  if (decide (i2 < (y.length : Int))) = true then
  (idx y i2).bind fun x2 =>
  (some (ZbA kq_layout_bit o4 x2)).bind fun o5 =>
  if o5.isSome = true then
  some (.inr (.inl (false, o4)))
  else
  some (.inl ((ZdY kq_layout_bit o4 x2 owner), (i64 (i2 + 1))))
  else
  some (.inr (.inr o4))
theorem Ze0 (owner : Int) (y : (List layout_bit)) (o4 : List (layout_bit × Int)) (i2 : Int) : Le (Zbb owner y o4 i2) (QJ owner y o4 i2) := by
  unfold Zbb QJ
  with_reducible repeat' (first | exact Le.refl _ | apply Le.bind | apply Le.ite | intro _)

noncomputable def Zbg (owner : Int) (l : List api_Place) (o2 : List (layout_bit × Int)) (i : Int) : Option (((List (layout_bit × Int)) × Int) ⊕ (Bool × (List (layout_bit × Int))) ⊕ ((List (layout_bit × Int)))) :=
  if (decide (i < (l.length : Int))) = true then
  (((idx l i).bind fun x =>
  (ZbC x).bind fun y =>
  Xv (t2 (Zbb owner y)) (o2, 0)) : Option ((Bool × (List (layout_bit × Int))) ⊕ ((List (layout_bit × Int))))).bind (Sum.elim (fun q' => some (.inr (.inl q'))) (t1 fun (o3 : List (layout_bit × Int)) =>
  some (.inl (o3, (i64 (i + 1))))))
  else
  some (.inr (.inr o2))
theorem ZeG (owner : Int) (l : List api_Place) (o2 : List (layout_bit × Int)) (i : Int) : Le (Zbg owner l o2 i) (QM owner l o2 i) := by
  unfold Zbg QM
  with_reducible repeat' (first | exact Le.refl _ | apply Le.bind | apply Le.ite | apply Le.loop | apply Le.t1 | apply Le.t2 | apply Le.elim | apply Zfc | apply Ze0 | intro _)

noncomputable def Zbp (taken : List (layout_bit × Int)) (owner : Int) (l : List api_Place) : Option (Bool × (List (layout_bit × Int))) :=
  ((Xv (t2 (Zbg owner l)) (taken, 0)) : Option ((Bool × (List (layout_bit × Int))) ⊕ ((List (layout_bit × Int))))).bind (Sum.elim (fun q' => some q') (t1 fun (o : List (layout_bit × Int)) =>
  some (true, o)))
theorem Zdo (taken : List (layout_bit × Int)) (owner : Int) (l : List api_Place) : Le (Zbp taken owner l) (XC taken owner l) := by
  unfold Zbp XC
  with_reducible repeat' (first | exact Le.refl _ | apply Le.bind | apply Le.loop | apply Le.t1 | apply Le.t2 | apply Le.elim | apply ZeG | intro _)

noncomputable def X9 (y5 : (List api_Cell)) (taken : List (layout_bit × Int)) (i : Int) : Option (((List (layout_bit × Int)) × Int) ⊕ (Int) ⊕ (Unit)) :=
  if (decide (i < (y5.length : Int))) = true then
  (idx y5 i).bind fun x =>
  (Zbp taken 0 x.Places).bind fun y6 =>
  if (!y6.1) = true then
  some (.inr (.inl 5))
  else
  some (.inl (y6.2, (i64 (i + 1))))
  else
  some (.inr (.inr ()))
theorem Zcy (y5 : (List api_Cell)) (taken : List (layout_bit × Int)) (i : Int) : Le (X9 y5 taken i) (Z3 y5 taken i) := by
  unfold X9 Z3
  with_reducible repeat' (first | exact Le.refl _ | apply Le.bind | apply Le.ite | apply Zdo | intro _)

noncomputable def J6 (p : api_Param) : Option Int :=
  (nmC p.Name).bind fun y =>
  if (!y) = true then
  some 8
  else
  (ZW p.Kind 1 6).bind fun y2 =>
  if (!y2) = true then
  some 7
  else
  (JY p).bind fun y3 =>
  if (!decide (y3 = 0)) = true then
  some y3
  else
  (JU p).bind fun y4 =>
  if (!decide (y4 = 0)) = true then
  some y4
  else
  (XU 0 p).bind fun y5 =>
  ((Xv (t2 (X9 y5)) (([] : List (layout_bit × Int)), 0)) : Option ((Int) ⊕ (Unit))).bind (Sum.elim (fun q' => some q') (t0 (if (decide ((y5.length : Int) = 0)) = true then
  some 13
  else
  some 0)))
theorem Zdu (p : api_Param) : Le (J6 p) (QH p) := by
  unfold J6 QH
  with_reducible repeat' (first | exact Le.refl _ | apply Le.bind | apply Le.ite | apply Le.loop | apply Le.t0 | apply Le.t2 | apply Le.elim | apply Xi | apply Zdy | apply Zdr | apply ZaK | apply Zcy | apply Zj6 | intro _)

noncomputable def Z5 (s : List api_Param) (f : api_Param → Option Bool) (i : Int) : Option ((Int) ⊕ (Int) ⊕ (Unit)) :=
  if (decide (i < (s.length : Int))) = true then
  (idx s i).bind fun x =>
  (f x).bind fun y =>
  if y = true then
  some (.inr (.inl i))
  else
  some (.inl (i64 (i + 1)))
  else
  some (.inr (.inr ()))
theorem X1 (s : List api_Param) (f : api_Param → Option Bool) (i : Int) (f' : api_Param → Option Bool) (h_f : ∀ z0, Le (f z0) (f' z0)) : Le (Z5 s f i) (Zu s f' i) := by
  unfold Z5 Zu
  with_reducible repeat' (first | exact Le.refl _ | apply Le.bind | apply Le.ite | apply h_f | intro _)

noncomputable def Qi (s : List api_Param) (f : api_Param → Option Bool) : Option Int :=
  ((Xv (t1 (Z5 s f)) 0) : Option ((Int) ⊕ (Unit))).bind (Sum.elim (fun q' => some q') (t0 (some (-1))))
theorem Jy (s : List api_Param) (f : api_Param → Option Bool) (f' : api_Param → Option Bool) (h_f : ∀ z0, Le (f z0) (f' z0)) : Le (Qi s f) (ZD s f') := by
  unfold Qi ZD
  with_reducible repeat' (first | exact Le.refl _ | apply Le.bind | apply Le.loop | apply Le.t0 | apply Le.t1 | apply Le.elim | apply X1 | apply h_f | intro _)

noncomputable def Z4 (s : List api_Param) (f : api_Param → Option Bool) : Option Bool :=
  (Qi s f).bind fun y =>
  some (decide (0 ≤ y))
theorem X6 (s : List api_Param) (f : api_Param → Option Bool) (f' : api_Param → Option Bool) (h_f : ∀ z0, Le (f z0) (f' z0)) : Le (Z4 s f) (Zt s f') := by
  unfold Z4 Zt
  with_reducible repeat' (first | exact Le.refl _ | apply Le.bind | apply Jy | apply h_f | intro _)

noncomputable def Za8 (q : api_Param) (c0 : api_Param) : Option Bool :=
  some (decide (q.Name = c0.Name))
theorem ZeC (q : api_Param) (c0 : api_Param) : Le (Za8 q c0) (XP q c0) := by
  unfold Za8 XP
  with_reducible repeat' (first | exact Le.refl _ | apply Le.bind | intro _)

noncomputable def ZaA (m : api_Map) (i : Int) : Option ((Int) ⊕ (Int × Int) ⊕ (Unit)) :=
  if (decide (i < (m.Params.length : Int))) = true then
  (idx m.Params i).bind fun x =>
  (J6 x).bind fun y2 =>
  if (!decide (y2 = 0)) = true then
  some (.inr (.inl (i, y2)))
  else
  (slc m.Params 0 i).bind fun l =>
  (Z4 l (fun z0 => Za8 z0 x)).bind fun y3 =>
  if y3 = true then
  some (.inr (.inl (i, 5)))
  else
  some (.inl (i64 (i + 1)))
  else
  some (.inr (.inr ()))
theorem Zek (m : api_Map) (i : Int) : Le (ZaA m i) (Xc m i) := by
  unfold ZaA Xc
  with_reducible repeat' (first | exact Le.refl _ | apply Le.bind | apply Le.ite | apply Zdu | apply X6 | apply ZeC | intro _)

noncomputable def ZaY (m : api_Map) (cells : Int) (i2 : Int) : Option ((Int × Int) ⊕ (Int × Int) ⊕ (Unit)) :=
  if (decide (i2 < (m.Params.length : Int))) = true then
  (idx m.Params i2).bind fun x2 =>
  (Zai x2).bind fun y4 =>
  if (decide (4000 < (i64 (cells + (i64 ((y4.length : Int) * x2.Times)))))) = true then
  some (.inr (.inl (i2, 3)))
  else
  some (.inl ((i64 (cells + (i64 ((y4.length : Int) * x2.Times)))), (i64 (i2 + 1))))
  else
  some (.inr (.inr ()))
theorem Zen (m : api_Map) (cells : Int) (i2 : Int) : Le (ZaY m cells i2) (ZX m cells i2) := by
  unfold ZaY ZX
  with_reducible repeat' (first | exact Le.refl _ | apply Le.bind | apply Le.ite | apply ZcD | intro _)

noncomputable def ZaP (i3 : Int) (y5 : (List api_Cell)) (taken3 : List (layout_bit × Int)) (i4 : Int) : Option (((List (layout_bit × Int)) × Int) ⊕ (Int × Int) ⊕ ((List (layout_bit × Int)))) :=
  if (decide (i4 < (y5.length : Int))) = true then
  (idx y5 i4).bind fun x4 =>
  (Zbp taken3 i3 x4.Places).bind fun y6 =>
  if (!y6.1) = true then
  some (.inr (.inl (i3, 5)))
  else
  some (.inl (y6.2, (i64 (i4 + 1))))
  else
  some (.inr (.inr taken3))
theorem Zeh (i3 : Int) (y5 : (List api_Cell)) (taken3 : List (layout_bit × Int)) (i4 : Int) : Le (ZaP i3 y5 taken3 i4) (QN i3 y5 taken3 i4) := by
  unfold ZaP QN
  with_reducible repeat' (first | exact Le.refl _ | apply Le.bind | apply Le.ite | apply Zdo | intro _)

noncomputable def ZaZ (m : api_Map) (taken : List (layout_bit × Int)) (i3 : Int) : Option (((List (layout_bit × Int)) × Int) ⊕ (Int × Int) ⊕ (Unit)) :=
  if (decide (i3 < (m.Params.length : Int))) = true then
  (((idx m.Params i3).bind fun x3 =>
  (XU i3 x3).bind fun y5 =>
  Xv (t2 (ZaP i3 y5)) (taken, 0)) : Option ((Int × Int) ⊕ ((List (layout_bit × Int))))).bind (Sum.elim (fun q' => some (.inr (.inl q'))) (t1 fun (taken2 : List (layout_bit × Int)) =>
  some (.inl (taken2, (i64 (i3 + 1))))))
  else
  some (.inr (.inr ()))
theorem Zev (m : api_Map) (taken : List (layout_bit × Int)) (i3 : Int) : Le (ZaZ m taken i3) (ZY m taken i3) := by
  unfold ZaZ ZY
  with_reducible repeat' (first | exact Le.refl _ | apply Le.bind | apply Le.ite | apply Le.loop | apply Le.t1 | apply Le.t2 | apply Le.elim | apply ZaK | apply Zeh | intro _)

noncomputable def ZaU (m : api_Map) : Option (Int × Int) :=
  (ZW m.Version 0 2047).bind fun y =>
  if (!y) = true then
  some ((-1), 9)
  else
  if (decide (200 < (m.Params.length : Int))) = true then
  some ((-1), 3)
  else
  ((Xv (t1 (ZaA m)) 0) : Option ((Int × Int) ⊕ (Unit))).bind (Sum.elim (fun q' => some q') (t0 (((Xv (t2 (ZaY m)) (0, 0)) : Option ((Int × Int) ⊕ (Unit))).bind (Sum.elim (fun q' => some q') (t0 (((Xv (t2 (ZaZ m)) (([] : List (layout_bit × Int)), 0)) : Option ((Int × Int) ⊕ (Unit))).bind (Sum.elim (fun q' => some q') (t0 (some ((-1), 0))))))))))
theorem Zc4 (m : api_Map) : Le (ZaU m) (ZL m) := by
  unfold ZaU ZL
  with_reducible repeat' (first | exact Le.refl _ | apply Le.bind | apply Le.ite | apply Le.loop | apply Le.t0 | apply Le.t1 | apply Le.t2 | apply Le.elim | apply Xi | apply Zek | apply Zen | apply Zev | intro _)

noncomputable def Za0 (m : api_Map) (out2 : List api_Cell) (i : Int) : Option (((List api_Cell) × Int) ⊕ ((List api_Cell))) :=
  if (decide (i < (m.Params.length : Int))) = true then
  (idx m.Params i).bind fun x =>
  (XU i x).bind fun y =>
  (app out2 y).bind fun l =>
  some (.inl (l, (i64 (i + 1))))
  else
  some (.inr out2)
theorem Zec (m : api_Map) (out2 : List api_Cell) (i : Int) : Le (Za0 m out2 i) (Ji m out2 i) := by
  unfold Za0 Ji
  with_reducible repeat' (first | exact Le.refl _ | apply Le.bind | apply Le.ite | apply ZaK | intro _)

noncomputable def ZaR (m : api_Map) : Option (List api_Cell) :=
  ((Xv (t2 (Za0 m)) ([], 0)) : Option (((List api_Cell)))).bind (t1 fun (out : List api_Cell) =>
  some out)
theorem Zc3 (m : api_Map) : Le (ZaR m) (QZ m) := by
  unfold ZaR QZ
  with_reducible repeat' (first | exact Le.refl _ | apply Le.bind | apply Le.loop | apply Le.t1 | apply Le.t2 | apply Zec | intro _)

noncomputable def Za6 (m : api_Map) (out2 : Vector (List Int) 16) (i : Int) : Option (((Vector (List Int) 16) × Int) ⊕ ((Vector (List Int) 16))) :=
  if (decide (i < 16)) = true then
  (mks 58 0).bind fun l2 =>
  (Qj out2 i).bind fun x =>
  (Qj (JT out2 i l2) i).bind fun l3 =>
  (Qj (JT out2 i l2) i).bind fun x2 =>
  (idx l3 0).bind fun x3 =>
  some (.inl ((JT (JT out2 i l2) i (l3.set (Int.toNat 0) m.Version)), (i64 (i + 1))))
  else
  some (.inr out2)
theorem ZeS (m : api_Map) (out2 : Vector (List Int) 16) (i : Int) : Le (Za6 m out2 i) (ZaV m out2 i) := by
  unfold Za6 ZaV
  with_reducible repeat' (first | exact Le.refl _ | apply Le.bind | apply Le.ite | intro _)

noncomputable def Zbf (x4 : api_Cell) (y5 : Int) (out6 : Vector (List Int) 16) (left : Int) (i3 : Int) : Option (((Vector (List Int) 16) × Int × Int) ⊕ ((Vector (List Int) 16))) :=
  if (decide (i3 < (x4.Places.length : Int))) = true then
  (idx x4.Places i3).bind fun x9 =>
  (Qj out6 x9.Frame).bind fun l4 =>
  (Qj out6 x9.Frame).bind fun x10 =>
  (idx l4 (i64 (x9.Word - 3))).bind fun x11 =>
  (shr .i64 y5 (i64 (left - x9.Bits))).bind fun q =>
  (shl .i64 1 x9.Bits).bind fun q2 =>
  (shl .i64 (ZgI .i64 q (i64 (q2 - 1))) x9.Low).bind fun q3 =>
  (idx l4 (i64 (x9.Word - 3))).bind fun x12 =>
  some (.inl ((JT out6 x9.Frame (l4.set (i64 (x9.Word - 3)).toNat (bor .i64 x11 q3))), (i64 (left - x9.Bits)), (i64 (i3 + 1))))
  else
  some (.inr out6)
theorem ZeE (x4 : api_Cell) (y5 : Int) (out6 : Vector (List Int) 16) (left : Int) (i3 : Int) : Le (Zbf x4 y5 out6 left i3) (ZaJ x4 y5 out6 left i3) := by
  unfold Zbf ZaJ
  with_reducible repeat' (first | exact Le.refl _ | apply Le.bind | apply Le.ite | intro _)

noncomputable def Zbd (m : api_Map) (l : List Int) (y2 : (List api_Cell)) (out4 : Vector (List Int) 16) (i2 : Int) : Option (((Vector (List Int) 16) × Int) ⊕ ((Vector (List Int) 16) × Int) ⊕ ((Vector (List Int) 16))) :=
  if (decide (i2 < (y2.length : Int))) = true then
  (((idx y2 i2).bind fun x4 =>
  (idx m.Params x4.Param).bind fun x5 =>
  (ZkP x5).bind fun y3 =>
  (idx l i2).bind fun x6 =>
  (ZW x6 y3.low y3.high).bind fun y4 =>
  if (!y4) = true then
  some (.inl ((Vector.replicate 16 []), 9))
  else
  (idx l i2).bind fun x7 =>
  (y3.encode.fn x7).bind fun y5 =>
  (idx m.Params x4.Param).bind fun x8 =>
  (XB x8).bind fun y6 =>
  (Xv (t3 (Zbf x4 y5)) (out4, y6, 0)).bind (fun q' => some (.inr q'))) : Option (((Vector (List Int) 16) × Int) ⊕ ((Vector (List Int) 16)))).bind (Sum.elim (fun q' => some (.inr (.inl q'))) (t1 fun (out5 : Vector (List Int) 16) =>
  some (.inl (out5, (i64 (i2 + 1))))))
  else
  some (.inr (.inr out4))
theorem ZeQ (m : api_Map) (l : List Int) (y2 : (List api_Cell)) (out4 : Vector (List Int) 16) (i2 : Int) : Le (Zbd m l y2 out4 i2) (ZaD m l y2 out4 i2) := by
  unfold Zbd ZaD
  with_reducible repeat' (first | exact Le.refl _ | apply Le.bind | apply Le.ite | apply Le.loop | apply Le.t1 | apply Le.t3 | apply Le.elim | apply Xi | apply ZeE | apply ZiM | apply JR | intro _)

noncomputable def Zcf (m : api_Map) (l : List Int) : Option ((Vector (List Int) 16) × Int) :=
  (ZaU m).bind fun y =>
  if (!decide (y.2 = 0)) = true then
  some ((Vector.replicate 16 []), y.2)
  else
  (ZaR m).bind fun y2 =>
  if (!decide ((l.length : Int) = (y2.length : Int))) = true then
  some ((Vector.replicate 16 []), 3)
  else
  ((Xv (t2 (Za6 m)) ((Vector.replicate 16 []), 0)) : Option (((Vector (List Int) 16)))).bind (t1 fun (out : Vector (List Int) 16) =>
  ((Xv (t2 (Zbd m l y2)) (out, 0)) : Option (((Vector (List Int) 16) × Int) ⊕ ((Vector (List Int) 16)))).bind (Sum.elim (fun q' => some q') (t1 fun (out3 : Vector (List Int) 16) =>
  some (out3, 0))))
theorem Zgu (m : api_Map) (l : List Int) : Le (Zcf m l) (Zbw m l) := by
  unfold Zcf Zbw
  with_reducible repeat' (first | exact Le.refl _ | apply Le.bind | apply Le.ite | apply Le.loop | apply Le.t1 | apply Le.t2 | apply Le.elim | apply Zc4 | apply Zc3 | apply ZeS | apply ZeQ | intro _)

noncomputable def Q1 (s : List Int) (f : Int → Option Bool) (i : Int) : Option ((Int) ⊕ (Int) ⊕ (Unit)) :=
  if (decide (i < (s.length : Int))) = true then
  (idx s i).bind fun x =>
  (f x).bind fun y =>
  if y = true then
  some (.inr (.inl i))
  else
  some (.inl (i64 (i + 1)))
  else
  some (.inr (.inr ()))
theorem Zbj (s : List Int) (f : Int → Option Bool) (i : Int) (f' : Int → Option Bool) (h_f : ∀ z0, Le (f z0) (f' z0)) : Le (Q1 s f i) (QD s f' i) := by
  unfold Q1 QD
  with_reducible repeat' (first | exact Le.refl _ | apply Le.bind | apply Le.ite | apply h_f | intro _)

noncomputable def Xk (s : List Int) (f : Int → Option Bool) : Option Int :=
  ((Xv (t1 (Q1 s f)) 0) : Option ((Int) ⊕ (Unit))).bind (Sum.elim (fun q' => some q') (t0 (some (-1))))
theorem ZbL (s : List Int) (f : Int → Option Bool) (f' : Int → Option Bool) (h_f : ∀ z0, Le (f z0) (f' z0)) : Le (Xk s f) (Qr s f') := by
  unfold Xk Qr
  with_reducible repeat' (first | exact Le.refl _ | apply Le.bind | apply Le.loop | apply Le.t0 | apply Le.t1 | apply Le.elim | apply Zbj | apply h_f | intro _)

noncomputable def Q0 (s : List Int) (f : Int → Option Bool) : Option Bool :=
  (Xk s f).bind fun y =>
  some (decide (0 ≤ y))
theorem Za5 (s : List Int) (f : Int → Option Bool) (f' : Int → Option Bool) (h_f : ∀ z0, Le (f z0) (f' z0)) : Le (Q0 s f) (Qa s f') := by
  unfold Q0 Qa
  with_reducible repeat' (first | exact Le.refl _ | apply Le.bind | apply ZbL | apply h_f | intro _)

noncomputable def ZaS (d : Int) : Option Bool :=
  (ZW d 0 2047).bind fun y =>
  some (!y)
theorem Zer (d : Int) : Le (ZaS d) (Jd d) := by
  unfold ZaS Jd
  with_reducible repeat' (first | exact Le.refl _ | apply Le.bind | apply Xi | intro _)

noncomputable def Zao (l : Vector (List Int) 16) (i : Int) : Option ((Int) ⊕ ((List api_Reading) × Int) ⊕ (Unit)) :=
  if (decide (i < 16)) = true then
  (Qj l i).bind fun x =>
  if (!decide ((x.length : Int) = 58)) = true then
  some (.inr (.inl ([], 3)))
  else
  (Q0 x (fun z0 => ZaS z0)).bind fun y2 =>
  if y2 = true then
  some (.inr (.inl ([], 9)))
  else
  some (.inl (i64 (i + 1)))
  else
  some (.inr (.inr ()))
theorem Zd6 (l : Vector (List Int) 16) (i : Int) : Le (Zao l i) (JM l i) := by
  unfold Zao JM
  with_reducible repeat' (first | exact Le.refl _ | apply Le.bind | apply Le.ite | apply Za5 | apply Zer | intro _)

noncomputable def Zas (m : api_Map) (l : Vector (List Int) 16) (i2 : Int) : Option ((Int) ⊕ ((List api_Reading) × Int) ⊕ (Unit)) :=
  if (decide (i2 < 16)) = true then
  (Qj l i2).bind fun x2 =>
  (idx x2 0).bind fun x3 =>
  if (!decide (x3 = m.Version)) = true then
  some (.inr (.inl ([], 11)))
  else
  some (.inl (i64 (i2 + 1)))
  else
  some (.inr (.inr ()))
theorem ZdW (m : api_Map) (l : Vector (List Int) 16) (i2 : Int) : Le (Zas m l i2) (JQ m l i2) := by
  unfold Zas JQ
  with_reducible repeat' (first | exact Le.refl _ | apply Le.bind | apply Le.ite | intro _)

noncomputable def ZaM (c_ : api_Cell) (l : Vector (List Int) 16) (raw2 : Int) (i : Int) : Option ((Int × Int) ⊕ (Int)) :=
  if (decide (i < (c_.Places.length : Int))) = true then
  (idx c_.Places i).bind fun x =>
  (shl .i64 raw2 x.Bits).bind fun q =>
  (Qj l x.Frame).bind fun x2 =>
  (idx x2 (i64 (x.Word - 3))).bind fun x3 =>
  (shr .i64 x3 x.Low).bind fun q2 =>
  (shl .i64 1 x.Bits).bind fun q3 =>
  some (.inl ((bor .i64 q (ZgI .i64 q2 (i64 (q3 - 1)))), (i64 (i + 1))))
  else
  some (.inr raw2)
theorem Zeo (c_ : api_Cell) (l : Vector (List Int) 16) (raw2 : Int) (i : Int) : Le (ZaM c_ l raw2 i) (Zaf c_ l raw2 i) := by
  unfold ZaM Zaf
  with_reducible repeat' (first | exact Le.refl _ | apply Le.bind | apply Le.ite | intro _)

noncomputable def Zb2 (c_ : api_Cell) (l : Vector (List Int) 16) : Option Int :=
  ((Xv (t2 (ZaM c_ l)) (0, 0)) : Option ((Int))).bind (t1 fun (raw : Int) =>
  some raw)
theorem ZfN (c_ : api_Cell) (l : Vector (List Int) 16) : Le (Zb2 c_ l) (ZaG c_ l) := by
  unfold Zb2 ZaG
  with_reducible repeat' (first | exact Le.refl _ | apply Le.bind | apply Le.loop | apply Le.t1 | apply Le.t2 | apply Zeo | intro _)

noncomputable def Za7 (p : api_Param) (raw : Int) : Option (Int × Bool) :=
  (ZkP p).bind fun y =>
  (y.decode.fn raw).bind fun y2 =>
  if (!y2.2) = true then
  some (0, false)
  else
  some (y2.1, true)
theorem ZeU (p : api_Param) (raw : Int) : Le (Za7 p raw) (JB p raw) := by
  unfold Za7 JB
  with_reducible repeat' (first | exact Le.refl _ | apply Le.bind | apply Le.ite | apply ZiM | intro _)

noncomputable def Zan (m : api_Map) (l : Vector (List Int) 16) (y3 : (List api_Cell)) (out2 : List api_Reading) (i3 : Int) : Option (((List api_Reading) × Int) ⊕ ((List api_Reading))) :=
  if (decide (i3 < (y3.length : Int))) = true then
  (idx y3 i3).bind fun x4 =>
  (idx m.Params x4.Param).bind fun x5 =>
  (Zb2 x4 l).bind fun y4 =>
  (Za7 x5 y4).bind fun y5 =>
  (app out2 ([(api_Reading.mk x4.Param x4.Index y5.1 y5.2)] : List api_Reading)).bind fun l2 =>
  some (.inl (l2, (i64 (i3 + 1))))
  else
  some (.inr out2)
theorem Zd5 (m : api_Map) (l : Vector (List Int) 16) (y3 : (List api_Cell)) (out2 : List api_Reading) (i3 : Int) : Le (Zan m l y3 out2 i3) (JP m l y3 out2 i3) := by
  unfold Zan JP
  with_reducible repeat' (first | exact Le.refl _ | apply Le.bind | apply Le.ite | apply ZfN | apply ZeU | intro _)

noncomputable def ZbE (m : api_Map) (l : Vector (List Int) 16) : Option ((List api_Reading) × Int) :=
  (ZaU m).bind fun y =>
  if (!decide (y.2 = 0)) = true then
  some ([], y.2)
  else
  ((Xv (t1 (Zao l)) 0) : Option (((List api_Reading) × Int) ⊕ (Unit))).bind (Sum.elim (fun q' => some q') (t0 (((Xv (t1 (Zas m l)) 0) : Option (((List api_Reading) × Int) ⊕ (Unit))).bind (Sum.elim (fun q' => some q') (t0 ((((ZaR m).bind fun y3 =>
  Xv (t2 (Zan m l y3)) ([], 0)) : Option (((List api_Reading)))).bind (t1 fun (out : List api_Reading) =>
  some (out, 0))))))))
theorem Ze4 (m : api_Map) (l : Vector (List Int) 16) : Le (ZbE m l) (Zab m l) := by
  unfold ZbE Zab
  with_reducible repeat' (first | exact Le.refl _ | apply Le.bind | apply Le.ite | apply Le.loop | apply Le.t0 | apply Le.t1 | apply Le.t2 | apply Le.elim | apply Zc4 | apply Zd6 | apply ZdW | apply Zc3 | apply Zd5 | intro _)

noncomputable def Zcg : Option Bool :=
  (Zcf (api_Map.mk 3 ([(api_Param.mk [97] 2 ([(api_Part.mk 0 9 2 3)] : List api_Part) 2 8 2 1 [])] : List api_Param)) ([(-1), 3, 0, (-4)] : List Int)).bind fun y =>
  (gd ((!decide (y.2 = 0)) == false) [] (Qj y.1 2)).bind fun x =>
  (gd (((!decide (y.2 = 0)) || (!decide ((x.length : Int) = 58))) == false) [] (Qj y.1 5)).bind fun x2 =>
  (gd ((((!decide (y.2 = 0)) || (!decide ((x.length : Int) = 58))) || (!decide ((x2.length : Int) = 58))) == false) [] (Qj y.1 10)).bind fun x3 =>
  (gd (((((!decide (y.2 = 0)) || (!decide ((x.length : Int) = 58))) || (!decide ((x2.length : Int) = 58))) || (!decide ((x3.length : Int) = 58))) == false) [] (Qj y.1 2)).bind fun x4 =>
  (gd (((((!decide (y.2 = 0)) || (!decide ((x.length : Int) = 58))) || (!decide ((x2.length : Int) = 58))) || (!decide ((x3.length : Int) = 58))) == false) 0 (idx x4 6)).bind fun x5 =>
  (gd ((((((!decide (y.2 = 0)) || (!decide ((x.length : Int) = 58))) || (!decide ((x2.length : Int) = 58))) || (!decide ((x3.length : Int) = 58))) || (!decide (x5 = 28))) == false) [] (Qj y.1 2)).bind fun x6 =>
  (gd ((((((!decide (y.2 = 0)) || (!decide ((x.length : Int) = 58))) || (!decide ((x2.length : Int) = 58))) || (!decide ((x3.length : Int) = 58))) || (!decide (x5 = 28))) == false) 0 (idx x6 7)).bind fun x7 =>
  (gd (((((((!decide (y.2 = 0)) || (!decide ((x.length : Int) = 58))) || (!decide ((x2.length : Int) = 58))) || (!decide ((x3.length : Int) = 58))) || (!decide (x5 = 28))) || (!decide (x7 = 12))) == false) [] (Qj y.1 10)).bind fun x8 =>
  (gd (((((((!decide (y.2 = 0)) || (!decide ((x.length : Int) = 58))) || (!decide ((x2.length : Int) = 58))) || (!decide ((x3.length : Int) = 58))) || (!decide (x5 = 28))) || (!decide (x7 = 12))) == false) 0 (idx x8 6)).bind fun x9 =>
  (gd ((((((((!decide (y.2 = 0)) || (!decide ((x.length : Int) = 58))) || (!decide ((x2.length : Int) = 58))) || (!decide ((x3.length : Int) = 58))) || (!decide (x5 = 28))) || (!decide (x7 = 12))) || (!decide (x9 = 0))) == false) [] (Qj y.1 10)).bind fun x10 =>
  (gd ((((((((!decide (y.2 = 0)) || (!decide ((x.length : Int) = 58))) || (!decide ((x2.length : Int) = 58))) || (!decide ((x3.length : Int) = 58))) || (!decide (x5 = 28))) || (!decide (x7 = 12))) || (!decide (x9 = 0))) == false) 0 (idx x10 7)).bind fun x11 =>
  (gd (((((((((!decide (y.2 = 0)) || (!decide ((x.length : Int) = 58))) || (!decide ((x2.length : Int) = 58))) || (!decide ((x3.length : Int) = 58))) || (!decide (x5 = 28))) || (!decide (x7 = 12))) || (!decide (x9 = 0))) || (!decide (x11 = 16))) == false) [] (Qj y.1 5)).bind fun x12 =>
  (gd (((((((((!decide (y.2 = 0)) || (!decide ((x.length : Int) = 58))) || (!decide ((x2.length : Int) = 58))) || (!decide ((x3.length : Int) = 58))) || (!decide (x5 = 28))) || (!decide (x7 = 12))) || (!decide (x9 = 0))) || (!decide (x11 = 16))) == false) 0 (idx x12 0)).bind fun x13 =>
  if (((((((((!decide (y.2 = 0)) || (!decide ((x.length : Int) = 58))) || (!decide ((x2.length : Int) = 58))) || (!decide ((x3.length : Int) = 58))) || (!decide (x5 = 28))) || (!decide (x7 = 12))) || (!decide (x9 = 0))) || (!decide (x11 = 16))) || (!decide (x13 = 3))) = true then
  some false
  else
  (ZbE (api_Map.mk 3 ([(api_Param.mk [97] 2 ([(api_Part.mk 0 9 2 3)] : List api_Part) 2 8 2 1 [])] : List api_Param)) y.1).bind fun y2 =>
  (gd (((decide (y2.2 = 0)) && (decide ((y2.1.length : Int) = 4))) == true) (api_Reading.mk 0 0 0 false) (idx y2.1 3)).bind fun x14 =>
  some (((decide (y2.2 = 0)) && (decide ((y2.1.length : Int) = 4))) && (decide (x14.Param = 0) && (decide (x14.Index = 3) && (decide (x14.Value = (-4)) && ((x14.Good == true) && true)))))
theorem Zgd : Le (Zcg ) (Zaw ) := by
  unfold Zcg Zaw
  with_reducible repeat' (first | exact Le.refl _ | apply Le.bind | apply Le.ite | apply Le.gd | apply Zgu | apply Ze4 | intro _)
end Go.Vx

namespace Go.Vx
open Go Go.RowKit
theorem ZjJ : Zcg = some true := by decide +kernel
theorem Zj9 : Zaw = some true := Zgd true ZjJ
end Go.Vx

namespace Go.Vx
open Go Go.RowKit
end Go.Vx

namespace Go.Vx
open Go Go.RowKit
end Go.Vx

namespace Go.Vx
open Go Go.RowKit
def ZiY (b : layout_bit) (x : api_Place) : Bool := ((decide (x.Frame = b.frame) && decide (x.Word = b.word)) && decide (x.Low ≤ b.bit)) && decide (b.bit < x.Low + x.Bits)
def ZgD : Nat → List api_Cell → List (layout_bit × Int)
  | _, [] => []
  | k, c :: tl => (QB c.Places).map (fun b => (b, (k : Int))) ++ ZgD (k + 1) tl
theorem Zi4 {l : List api_Cell} (hl : ZdQ l) (hu : okB [] (bitsC l) = true) : JF l = some (ZgD 0 l) := by
  have hl0 := hl.1
  have key : ∀ (n k : Nat) (o : List (layout_bit × Int)), k + n = l.length → okB (mkeys o) (bitsC (l.drop k)) = true → loop (t2 (QG l)) (o, (k : Int)) = some (o ++ ZgD k (l.drop k)) := by
    intro n
    induction n with
    | zero =>
      intro k o hk _
      have : k = l.length := by omega
      subst this
      rw [ZH]
      simp [QG, ZgD]
    | succ n ih =>
      intro k o hk hu
      obtain ⟨c, hc⟩ := Xl (xs := l) (k := k) (by omega)
      have hlt := Q9 hc
      obtain ⟨hp1, hp2⟩ := hl.2 c (List.mem_of_getElem? hc)
      obtain ⟨q, h1, h2⟩ := Zik (k : Int) hp1 hp2 o
      have e : bitsC (l.drop k) = QB c.Places ++ bitsC (l.drop (k + 1)) := by rw [ZP hc]; simp [bitsC]
      rw [e, Zbq, Bool.and_eq_true] at hu
      have h3 := h2 hu.1
      have e2 : ((k : Nat) : Int) + 1 = ((k + 1 : Nat) : Int) := by push_cast; rfl
      have e3 : mkeys q = mkeys o ++ QB c.Places := by rw [h3]; simp [mkeys, Function.comp_def]
      rw [ZH]
      simp only [JS, QG, hlt, decide_true, if_true, Qd hc, Option.bind_some, h1]
      rw [Qy (by omega) (by omega), e2]
      show loop (t2 (QG l)) (q, ((k + 1 : Nat) : Int)) = _
      rw [ih (k + 1) q (by omega) (by rw [e3]; exact hu.2), ZP hc, h3]
      simp [ZgD]
  have := key l.length 0 [] (by omega) (by simpa [mkeys] using hu)
  unfold JF
  have this' : loop (t2 (QG l)) (([] : List (layout_bit × Int)), 0) = _ := this
  rw [this']
  rfl
theorem ZiZ {m : api_Map} (h : MapOK m) : ZdQ (allC 0 m.Params) := by
  refine ⟨by have := h.cnt; omega, fun c hc => ?_⟩
  obtain ⟨j, x, _, hx, _, f, t, h1, h2, _, h3⟩ := ZeK h hc
  have h8 := hx.len.1
  rw [h3]
  refine ⟨by simp; omega, fun q hq => ?_⟩
  have := ZdD hx h1 h2 hq
  unfold ZbK; omega
theorem Zh7 {m : api_Map} (h : MapOK m) {c : api_Cell} (hc : c ∈ allC 0 m.Params) : c.Places.length ≤ 8 ∧ ∀ q ∈ c.Places, (0 ≤ q.Frame ∧ q.Frame ≤ 15) ∧ (4 ≤ q.Word ∧ q.Word ≤ 60) ∧ (0 ≤ q.Low ∧ q.Low ≤ 10) ∧ 1 ≤ q.Bits ∧ q.Bits ≤ 11 - q.Low := by
  obtain ⟨j, x, _, hx, _, f, t, h1, h2, _, h3⟩ := ZeK h hc
  have h8 := hx.len.1
  rw [h3]
  exact ⟨by simpa using h8, fun q hq => ZdD hx h1 h2 hq⟩
theorem Zkz {l : List api_Place} (hl : l.length ≤ 8) : ZQ l l = some true := by
  have := ZdA (xs := l) (fun _ => true) (body := fun i => (ZG l l i).map (fun r => r.elim Sum.inl (fun r => .inr (r.elim (fun b => .inl (0 : Int)) .inr)))) 0 (by omega)
  unfold ZQ
  rw [if_neg (by simp)]
  have hL := ZdR (xs := l) (fun _ => (none : Option Unit)) (fun _ => (Sum.inl false : Bool ⊕ Unit)) (Sum.inr ()) (body := ZG l l) (fun k x hx => by
    have hlt := Q9 hx
    simp only [ZG, hlt, decide_true, if_true, Qd hx, Option.bind_some]
    rw [Qy (by omega) (by omega)]
    simp) (by simp [ZG])
  rw [hL]
  have fl : Zc5 (fun _ : api_Place => (none : Option Unit)) l = none := by
    clear hL this hl
    induction l with
    | nil => rfl
    | cons x l ih => exact ih
  rw [fl]; rfl
theorem Zkq {c : api_Cell} (hl : c.Places.length ≤ 8) : XK c c = some true := by
  unfold XK
  rw [Zkz hl]
  simp
end Go.Vx

namespace Go.Vx
open Go Go.RowKit
def placeR (q : api_Place) : Prop := (0 ≤ q.Frame ∧ q.Frame ≤ 15) ∧ (4 ≤ q.Word ∧ q.Word ≤ 60) ∧ (0 ≤ q.Low ∧ q.Low ≤ 10) ∧ 1 ≤ q.Bits ∧ q.Bits ≤ 11 - q.Low
end Go.Vx

namespace Go.Vx
open Go Go.RowKit
def ZcQ (l : Vector (List Int) 16) (q : api_Place) : Nat := ((l.toList.getD q.Frame.toNat []).getD (q.Word - 3).toNat 0).toNat
def DatOK (l : Vector (List Int) 16) : Prop := ∀ x ∈ l.toList, x.length = 58 ∧ ∀ d ∈ x, 0 ≤ d ∧ d ≤ 2047
theorem Zl0 {l : Vector (List Int) 16} (hl : DatOK l) {q : api_Place} (hq : placeR q) : ∃ x, Qj l q.Frame = some x ∧ idx x (i64 (q.Word - 3)) = some (ZcQ l q : Int) ∧ ZcQ l q ≤ 2047 := by
  obtain ⟨h1, h2, _⟩ := hq
  have h16 : l.toList.length = 16 := by simp
  obtain ⟨x, hx⟩ := Xl (xs := l.toList) (k := q.Frame.toNat) (by omega)
  obtain ⟨hx1, hx2⟩ := hl x (List.mem_of_getElem? hx)
  obtain ⟨d, hd⟩ := Xl (xs := x) (k := (q.Word - 3).toNat) (by omega)
  have hd2 := hx2 d (List.mem_of_getElem? hd)
  have e1 : l.toList.getD q.Frame.toNat [] = x := by rw [List.getD_eq_getElem?_getD, hx]; rfl
  have e2 : x.getD (q.Word - 3).toNat 0 = d := by rw [List.getD_eq_getElem?_getD, hd]; rfl
  have e3 : ((ZcQ l q : Nat) : Int) = d := by unfold ZcQ; rw [e1, e2]; omega
  refine ⟨x, ?_, ?_, by omega⟩
  · unfold Qj; rw [if_pos h1.1, hx]
  · rw [Qy (by omega) (by omega), e3]; unfold idx; rw [if_pos (by omega), hd]
end Go.Vx

namespace Go.Vx
open Go Go.RowKit
def chunk (l : Vector (List Int) 16) (q : api_Place) : Nat := ZcQ l q / 2 ^ q.Low.toNat % 2 ^ q.Bits.toNat
end Go.Vx

namespace Go.Vx
open Go Go.RowKit
end Go.Vx

namespace Go.Vx
open Go Go.RowKit
theorem Zfk {d lo n : Nat} (h : d / 2 ^ lo % 2 ^ n = 0) : d = 2 ^ (lo + n) * (d / 2 ^ (lo + n)) + d % 2 ^ lo := by
  have h1 := Nat.mod_mul (a := 2 ^ lo) (b := 2 ^ n) (x := d)
  rw [h, Nat.mul_zero, Nat.add_zero, ← Nat.pow_add] at h1
  have h2 := Nat.div_add_mod d (2 ^ (lo + n))
  omega
theorem Zjs {d lo n v : Nat} (h : d / 2 ^ lo % 2 ^ n = 0) (hv : v < 2 ^ n) : d ||| 2 ^ lo * v = d + 2 ^ lo * v ∧ 2 ^ lo * v + d % 2 ^ lo < 2 ^ (lo + n) := by
  have hs := Zfk h
  have hl : d % 2 ^ lo < 2 ^ lo := Nat.mod_lt _ (Nat.two_pow_pos _)
  have hx : 2 ^ lo * v + d % 2 ^ lo < 2 ^ (lo + n) := by
    have h1 : 2 ^ lo * (v + 1) ≤ 2 ^ lo * 2 ^ n := Nat.mul_le_mul_left _ hv
    rw [← Nat.pow_add, Nat.mul_add, Nat.mul_one] at h1
    omega
  refine ⟨?_, hx⟩
  have e1 := Nat.two_pow_add_eq_or_of_lt (i := lo + n) (b := d % 2 ^ lo) (by omega) (d / 2 ^ (lo + n))
  have e2 := Nat.two_pow_add_eq_or_of_lt (i := lo) (b := d % 2 ^ lo) hl v
  have e3 := Nat.two_pow_add_eq_or_of_lt (i := lo + n) (b := 2 ^ lo * v + d % 2 ^ lo) hx (d / 2 ^ (lo + n))
  have : d ||| 2 ^ lo * v = 2 ^ (lo + n) * (d / 2 ^ (lo + n)) ||| (2 ^ lo * v + d % 2 ^ lo) := by
    rw [e2, Nat.or_comm (2 ^ lo * v), ← Nat.or_assoc, ← e1, ← hs]
  rw [this, ← e3]
  omega
theorem Zlw {d lo n v : Nat} (h : d / 2 ^ lo % 2 ^ n = 0) (hv : v < 2 ^ n) (hd : d ≤ 2047) (hln : lo + n ≤ 11) : d + 2 ^ lo * v ≤ 2047 := by
  have hs := Zfk h
  have hx := (Zjs h hv).2
  have e : 2 ^ 11 = 2 ^ (lo + n) * 2 ^ (11 - (lo + n)) := by rw [← Nat.pow_add]; congr 1; omega
  have h1 : d / 2 ^ (lo + n) < 2 ^ (11 - (lo + n)) := by
    rw [Nat.div_lt_iff_lt_mul (Nat.two_pow_pos _), Nat.mul_comm, ← e]; omega
  have h2 : 2 ^ (lo + n) * (d / 2 ^ (lo + n) + 1) ≤ 2 ^ (lo + n) * 2 ^ (11 - (lo + n)) := Nat.mul_le_mul_left _ h1
  rw [← e, Nat.mul_add, Nat.mul_one] at h2
  omega
theorem ZjD {d lo n v : Nat} (h : d / 2 ^ lo % 2 ^ n = 0) (hv : v < 2 ^ n) : (d + 2 ^ lo * v) / 2 ^ lo % 2 ^ n = v := by
  rw [Nat.add_mul_div_left _ _ (Nat.two_pow_pos _), Nat.add_mod, h, Nat.zero_add, Nat.mod_mod, Nat.mod_eq_of_lt hv]
theorem Zja {d lo n v lo' n' : Nat} (h : d / 2 ^ lo % 2 ^ n = 0) (hv : v < 2 ^ n) (hd : lo + n ≤ lo' ∨ lo' + n' ≤ lo) : (d + 2 ^ lo * v) / 2 ^ lo' % 2 ^ n' = d / 2 ^ lo' % 2 ^ n' := by
  rcases hd with hd | hd
  · have hs := Zfk h
    have hx := (Zjs h hv).2
    have hl : d % 2 ^ lo < 2 ^ (lo + n) := by omega
    have e : 2 ^ lo' = 2 ^ (lo + n) * 2 ^ (lo' - (lo + n)) := by rw [← Nat.pow_add]; congr 1; omega
    have e1 : (d + 2 ^ lo * v) / 2 ^ (lo + n) = d / 2 ^ (lo + n) := by
      have : d + 2 ^ lo * v = (2 ^ lo * v + d % 2 ^ lo) + 2 ^ (lo + n) * (d / 2 ^ (lo + n)) := by omega
      rw [this, Nat.add_mul_div_left _ _ (Nat.two_pow_pos _), Nat.div_eq_of_lt hx, Nat.zero_add]
    rw [e, ← Nat.div_div_eq_div_mul, e1, Nat.div_div_eq_div_mul]
  · have e : 2 ^ lo * v = 2 ^ lo' * (2 ^ n' * (2 ^ (lo - lo' - n') * v)) := by
      rw [← Nat.mul_assoc, ← Nat.mul_assoc, ← Nat.pow_add, ← Nat.pow_add]; congr 2; omega
    rw [e, Nat.add_mul_div_left _ _ (Nat.two_pow_pos _), Nat.add_mul_mod_self_left]
def ZgX (l : Vector (List Int) 16) (q : api_Place) : List Int := l.toList.getD q.Frame.toNat []
def wr (l : Vector (List Int) 16) (w : api_Place × Nat) : Vector (List Int) 16 := JT l w.1.Frame ((ZgX l w.1).set (w.1.Word - 3).toNat ((ZcQ l w.1 + 2 ^ w.1.Low.toNat * w.2 : Nat) : Int))
theorem Zh4 {l : Vector (List Int) 16} {q : api_Place} {v : Nat} (hq : placeR q) (k : Nat) : (wr l (q, v)).toList[k]? = if k = q.Frame.toNat then some ((ZgX l q).set (q.Word - 3).toNat ((ZcQ l q + 2 ^ q.Low.toNat * v : Nat) : Int)) else l.toList[k]? := by
  obtain ⟨hf, _⟩ := hq
  have h16 : l.toList.length = 16 := by simp
  have e : (wr l (q, v)).toList = l.toList.set q.Frame.toNat ((ZgX l q).set (q.Word - 3).toNat ((ZcQ l q + 2 ^ q.Low.toNat * v : Nat) : Int)) := by simp [wr, JT]
  rw [e, List.getElem?_set]
  by_cases h : k = q.Frame.toNat
  · subst h; rw [if_pos rfl, if_pos (by omega), if_pos rfl]
  · rw [if_neg (fun hh => h hh.symm), if_neg h]
theorem Zhn {l : Vector (List Int) 16} {q : api_Place} (hq : placeR q) : l.toList[q.Frame.toNat]? = some (ZgX l q) := by
  obtain ⟨hf, _⟩ := hq
  have h16 : l.toList.length = 16 := by simp
  obtain ⟨x, hx⟩ := Xl (xs := l.toList) (k := q.Frame.toNat) (by omega)
  unfold ZgX
  rw [List.getD_eq_getElem?_getD, hx]; rfl
theorem Zka {l : Vector (List Int) 16} (hl : DatOK l) {q q' : api_Place} {v : Nat} (hq : placeR q) (hq' : placeR q') :
    ZcQ (wr l (q, v)) q' = if q'.Frame = q.Frame ∧ q'.Word = q.Word then ZcQ l q + 2 ^ q.Low.toNat * v else ZcQ l q' := by
  obtain ⟨h58, _⟩ := hl _ (List.mem_of_getElem? (Zhn (l := l) hq))
  have e0 : ZcQ (wr l (q, v)) q' = ((((wr l (q, v)).toList[q'.Frame.toNat]?).getD []).getD (q'.Word - 3).toNat 0).toNat := by unfold ZcQ; rw [List.getD_eq_getElem?_getD (l := (wr l (q, v)).toList)]
  have e00 : ZcQ l q' = (((l.toList[q'.Frame.toNat]?).getD []).getD (q'.Word - 3).toNat 0).toNat := by unfold ZcQ; rw [List.getD_eq_getElem?_getD (l := l.toList)]
  rw [e0, e00, Zh4 hq]
  obtain ⟨a1, a2, _⟩ := hq
  obtain ⟨b1, b2, _⟩ := hq'
  by_cases hf : q'.Frame = q.Frame
  · have hf' : q'.Frame.toNat = q.Frame.toNat := by omega
    rw [if_pos hf']
    simp only [Option.getD_some]
    by_cases hw2 : q'.Word = q.Word
    · rw [if_pos ⟨hf, hw2⟩, hw2, List.getD_eq_getElem?_getD, List.getElem?_set_self (by omega)]
      simp
      exact Int.toNat_natCast _
    · have hw3 : (q'.Word - 3).toNat ≠ (q.Word - 3).toNat := by omega
      rw [if_neg (fun h => hw2 h.2), List.getD_eq_getElem?_getD, List.getElem?_set_ne (fun h => hw3 h.symm), ← List.getD_eq_getElem?_getD, hf']
      unfold ZgX
      rw [List.getD_eq_getElem?_getD (l := l.toList)]
  · have hf' : ¬ q'.Frame.toNat = q.Frame.toNat := by omega
    rw [if_neg hf', if_neg (fun h => hf h.1)]
def disj (a b : api_Place) : Prop := ∀ x, ZiY x a = true → ZiY x b = false
theorem ZlG {l : Vector (List Int) 16} (hl : DatOK l) {q : api_Place} {v : Nat} (hq : placeR q) (h0 : chunk l q = 0) (hv : v < 2 ^ q.Bits.toNat) : DatOK (wr l (q, v)) ∧ chunk (wr l (q, v)) q = v ∧ ∀ q', placeR q' → disj q q' → chunk (wr l (q, v)) q' = chunk l q' := by
  have hm := Zhn (l := l) hq
  obtain ⟨h58, hd⟩ := hl _ (List.mem_of_getElem? hm)
  have hdat : ZcQ l q ≤ 2047 := by obtain ⟨_, _, _, h⟩ := Zl0 hl hq; exact h
  refine ⟨?_, ?_, ?_⟩
  · intro y hy
    obtain ⟨k, hk⟩ := List.getElem?_of_mem hy
    rw [Zh4 hq] at hk
    split at hk
    · cases hk
      refine ⟨by simpa using h58, fun d hdm => ?_⟩
      rcases List.mem_or_eq_of_mem_set hdm with h | rfl
      · exact hd d h
      · have := Zlw h0 hv hdat (by obtain ⟨_, _, h3, h4, h5⟩ := hq; omega)
        omega
    · exact hl y (List.mem_of_getElem? hk)
  · unfold chunk
    rw [Zka hl hq hq, if_pos ⟨rfl, rfl⟩]
    exact ZjD h0 hv
  · intro q' hq' hdis
    unfold chunk
    rw [Zka hl hq hq']
    split
    · rename_i h
      have e : ZcQ l q' = ZcQ l q := by unfold ZcQ; rw [h.1, h.2]
      rw [e]
      refine Zja h0 hv ?_
      obtain ⟨_, _, h3, h4, h5⟩ := hq
      obtain ⟨_, _, g3, g4, g5⟩ := hq'
      rcases Nat.lt_or_ge q'.Low.toNat (q.Low.toNat + q.Bits.toNat) with c1 | c1
      · rcases Nat.lt_or_ge q.Low.toNat (q'.Low.toNat + q'.Bits.toNat) with c2 | c2
        · exfalso
          by_cases hle : q.Low ≤ q'.Low
          · have := hdis ⟨q.Frame, q.Word, q'.Low⟩ (by simp [ZiY]; omega)
            simp [ZiY, h.1, h.2] at this
            omega
          · have := hdis ⟨q.Frame, q.Word, q.Low⟩ (by simp [ZiY]; omega)
            simp [ZiY, h.1, h.2] at this
            omega
        · exact .inr c2
      · exact .inl c1
    · rfl
end Go.Vx

namespace Go.Vx
open Go Go.RowKit
abbrev WL := List (api_Place × Nat)
structure Pre (out : Vector (List Int) 16) (W : WL) (ver : Int) : Prop where
  dat : DatOK out
  pl : ∀ w ∈ W, placeR w.1 ∧ w.2 < 2 ^ w.1.Bits.toNat ∧ chunk out w.1 = 0
  dis : W.Pairwise fun a b => disj a.1 b.1
  ver : ∀ x ∈ out.toList, x.getD 0 0 = ver
theorem ZlA {l : Vector (List Int) 16} {ver : Int} (h : ∀ x ∈ l.toList, x.getD 0 0 = ver) {q : api_Place} {v : Nat} (hq : placeR q) : ∀ x ∈ (wr l (q, v)).toList, x.getD 0 0 = ver := by
  intro x hx
  obtain ⟨k, hk⟩ := List.getElem?_of_mem hx
  rw [Zh4 hq] at hk
  split at hk
  · cases hk
    have := h _ (List.mem_of_getElem? (Zhn (l := l) hq))
    obtain ⟨_, a, _⟩ := hq
    rw [List.getD_eq_getElem?_getD, List.getElem?_set_ne (by omega), ← List.getD_eq_getElem?_getD]
    exact this
  · exact h x (List.mem_of_getElem? hk)
theorem Pre.step {out : Vector (List Int) 16} {w : api_Place × Nat} {W : WL} {ver : Int} (h : Pre out (w :: W) ver) : Pre (wr out w) W ver := by
  obtain ⟨q, v⟩ := w
  obtain ⟨h1, h2, h3⟩ := h.pl _ List.mem_cons_self
  obtain ⟨g1, g2, g3⟩ := ZlG h.dat h1 h3 h2
  have hd := List.pairwise_cons.1 h.dis
  refine ⟨g1, fun w hw => ?_, hd.2, ZlA h.ver h1⟩
  obtain ⟨a1, a2, a3⟩ := h.pl w (List.mem_cons_of_mem _ hw)
  exact ⟨a1, a2, by rw [g3 _ a1 (hd.1 w hw)]; exact a3⟩
def wrF : Vector (List Int) 16 → WL → Vector (List Int) 16
  | out, [] => out
  | out, w :: W => wrF (wr out w) W
theorem Pre.app {ver : Int} : ∀ {W1 W2 : WL} {out : Vector (List Int) 16}, Pre out (W1 ++ W2) ver → Pre (wrF out W1) W2 ver
  | [], _, _, h => h
  | w :: W1, W2, out, h => Pre.app (W1 := W1) (Pre.step (by simpa using h))
theorem Pre.left {ver : Int} {W1 W2 : WL} {out : Vector (List Int) 16} (h : Pre out (W1 ++ W2) ver) : Pre out W1 ver :=
  ⟨h.dat, fun w hw => h.pl w (List.mem_append_left _ hw), (List.pairwise_append.1 h.dis).1, h.ver⟩
end Go.Vx

namespace Go.Vx
open Go Go.RowKit
end Go.Vx

namespace Go.Vx
open Go Go.RowKit
end Go.Vx

namespace Go.Vx
open Go Go.RowKit
theorem Zjg {α : Type} {l : List α} {body : Int → Option (Int ⊕ Bool ⊕ Unit)} (h : ∀ (k : Nat) x, l[k]? = some x → body k = some (.inl ((k : Int) + 1))) (he : body l.length = some (.inr (.inr ()))) : loop (t1 body) 0 = some (.inr ()) := by
  have hL := ZdR (xs := l) (fun _ => (none : Option Unit)) (fun _ => (Sum.inl false : Bool ⊕ Unit)) (Sum.inr ()) (body := body) (fun k x hx => h k x hx) he
  have fl : ∀ l : List α, Zc5 (fun _ : α => (none : Option Unit)) l = none := by
    intro l
    induction l with
    | nil => rfl
    | cons x l ih => exact ih
  rw [hL, fl]; rfl
end Go.Vx

namespace Go.Vx
open Go Go.RowKit
theorem Zmy {m : api_Map} (hl : m.Params.length ≤ 200) (hP : ∀ x ∈ m.Params, ParOK x) : ∃ j : Nat, loop (t2 (ZX m)) (0, 0) = some (cond (decide ((allC 0 m.Params).length ≤ 4000)) (.inr ()) (.inl ((j : Int), 3))) ∧
    loop (t2 (Qt m)) (0, 0) = some (cond (decide ((allC 0 m.Params).length ≤ 4000)) (.inr ()) (.inl ((j : Int), 3))) := by
  have key : ∀ (n k : Nat) (c : Nat), k + n = m.Params.length → c ≤ 4000 → ∃ j : Nat, loop (t2 (ZX m)) ((c : Int), (k : Int)) = some (cond (decide (c + (allC k (m.Params.drop k)).length ≤ 4000)) (.inr ()) (.inl ((j : Int), 3))) ∧
      loop (t2 (Qt m)) ((c : Int), (k : Int)) = some (cond (decide (c + (allC k (m.Params.drop k)).length ≤ 4000)) (.inr ()) (.inl ((j : Int), 3))) := by
    intro n
    induction n with
    | zero =>
      intro k c hk hc
      have : k = m.Params.length := by omega
      subst this
      refine ⟨0, ?_, ?_⟩
      · rw [ZH]
        simp [ZX, allC, hc]
      · rw [ZH]
        simp [Qt, allC, hc]
    | succ n ih =>
      intro k c hk hc
      obtain ⟨x, hx⟩ := Xl (xs := m.Params) (k := k) (by omega)
      have hlt := Q9 hx
      have hp := hP x (List.mem_of_getElem? hx)
      have hlen := ZcN (number := (k : Int)) hp.toPartsOK
      have hE := ZfJ (k : Int) x
      obtain ⟨_, _, hT, _⟩ := XT hp.tim
      have hT' : (x.Times.toNat : Int) = x.Times := by omega
      have e1 : ((XY x).length : Int) * x.Times = ((cellsN (k : Int) x).length : Int) := by rw [hE]; push_cast; rw [hT']
      rw [ZP hx, ZH, ZH (body := t2 (Qt m))]
      simp only [JS, ZX, Qt, hlt, decide_true, if_true, Qd hx, Option.bind_some, Zgq hp.toPartsOK, ZcE hp.toPartsOK, e1, allC, List.length_append]
      rw [Qy (z := ((cellsN (k : Int) x).length : Int)) (by omega) (by omega), Qy (z := (c : Int) + ((cellsN (k : Int) x).length : Int)) (by omega) (by omega), Qy (z := (k : Int) + 1) (by omega) (by omega)]
      by_cases h4 : (4000 : Int) < (c : Int) + ((cellsN (k : Int) x).length : Int)
      · refine ⟨k, ?_⟩
        have : decide (c + ((cellsN (k : Int) x).length + (allC (k + 1) (m.Params.drop (k + 1))).length) ≤ 4000) = false := by rw [decide_eq_false_iff_not]; omega
        rw [this, if_pos (by simpa using h4)]; exact ⟨rfl, rfl⟩
      · obtain ⟨j, hj, hj2⟩ := ih (k + 1) (c + (cellsN (k : Int) x).length) (by omega) (by omega)
        refine ⟨j, ?_⟩
        rw [if_neg (by simpa using h4)]
        rw [Nat.add_assoc] at hj hj2
        rw [← hj]
        exact ⟨rfl, by rw [hj, ← hj2]; rfl⟩
  have := key m.Params.length 0 0 (by omega) (by omega)
  simpa using this
theorem tk2 {m : api_Map} (hl : m.Params.length ≤ 200) (hP : ∀ x ∈ m.Params, ParOK x) : ∃ j : Nat, loop (t2 (ZY m)) (([] : List (layout_bit × Int)), 0) = some (cond (okB [] (bitsC (allC 0 m.Params))) (.inr ()) (.inl ((j : Int), 5))) ∧
    loop (t2 (Qs m)) (([] : RT), 0) = some (cond (okB [] (bitsC (allC 0 m.Params))) (.inr ()) (.inl ((j : Int), 5))) := by
  have key : ∀ (n k : Nat) (o : List (layout_bit × Int)) (o2 : RT), RK o2 (mkeys o) → k + n = m.Params.length → ∃ j : Nat, loop (t2 (ZY m)) (o, (k : Int)) = some (cond (okB (mkeys o) (bitsC (allC k (m.Params.drop k)))) (.inr ()) (.inl ((j : Int), 5))) ∧
      loop (t2 (Qs m)) (o2, (k : Int)) = some (cond (okB (mkeys o) (bitsC (allC k (m.Params.drop k)))) (.inr ()) (.inl ((j : Int), 5))) := by
    intro n
    induction n with
    | zero =>
      intro k o o2 hK hk
      have : k = m.Params.length := by omega
      subst this
      refine ⟨0, ?_, ?_⟩
      · rw [ZH]
        simp [ZY, allC, okB, bitsC]
      · rw [ZH]
        simp [Qs, allC, okB, bitsC]
    | succ n ih =>
      intro k o o2 hK hk
      obtain ⟨x, hx⟩ := Xl (xs := m.Params) (k := k) (by omega)
      have hlt := Q9 hx
      have hp := hP x (List.mem_of_getElem? hx)
      obtain ⟨q, h1, h2⟩ := ZlI (k : Int) (ZbR (number := (k : Int)) hp.toPartsOK) o
      obtain ⟨o', ok', g1, g2⟩ := Zew (ZbR (number := (k : Int)) hp.toPartsOK) o2
      obtain ⟨g3, g4⟩ := g2 (mkeys o) hK
      have e : bitsC (allC k (m.Params.drop k)) = bitsC (cellsN (k : Int) x) ++ bitsC (allC (k + 1) (m.Params.drop (k + 1))) := by rw [ZP hx]; simp [bitsC, allC]
      rw [e, Zbq, ZH, ZH (body := t2 (Qs m))]
      simp only [JS, ZY, Qs, hlt, decide_true, if_true, Qd hx, Option.bind_some, ZfT hp.toPartsOK, ZcE hp.toPartsOK, h1, g1]
      rw [Qy (z := (k : Int) + 1) (by omega) (by omega), g3]
      cases hok : okB (mkeys o) (bitsC (cellsN (k : Int) x)) with
      | false => exact ⟨k, rfl, rfl⟩
      | true =>
        have hq := h2 hok
        obtain ⟨j, hj, hj2⟩ := ih (k + 1) q o' (by rw [hq]; exact g4 (g3.trans hok)) (by omega)
        rw [hq] at hj hj2
        exact ⟨j, hj, hj2⟩
  exact key m.Params.length 0 [] [] ⟨rfl, fun p hp => by cases hp⟩ (by omega)
theorem Zkh : ∀ (l : List api_Param) (k : Nat) (tl : List api_Param) (e : Int × Int), ZN (g1M l) k tl = some e → 0 ≤ e.1
  | _, _, [], _, h => by cases h
  | l, k, x :: tl, e, h => by
    simp only [ZN] at h
    cases hg : g1M l k x with
    | some e' =>
      rw [hg] at h
      cases h
      unfold g1M at hg
      split at hg
      · split at hg
        · cases hg; show (0 : Int) ≤ (k : Int); omega
        · cases hg
      · cases hg; show (0 : Int) ≤ (k : Int); omega
    | none => rw [hg] at h; exact Zkh l (k + 1) tl e h
theorem Zlp (m : api_Map) (hs : Zam m) : ∃ a a', ZL m = some (a, XE m) ∧ QL m = some (a', XE m) ∧ max a 0 = a' := by
  cases hw : wiL m.Version 0 2047
  · refine ⟨-1, 0, ?_, ?_, by decide⟩
    · unfold ZL XE; rw [XV, Option.bind_some, hw]; rfl
    · unfold QL XE; rw [XJ, Option.bind_some, hw]; rfl
  by_cases h2 : m.Params.length ≤ 200
  · have h2' : ¬ (200 : Int) < (m.Params.length : Int) := by omega
    cases hf : ZN (g1M m.Params) 0 m.Params with
    | some e =>
      refine ⟨e.1, e.1, ?_, ?_, by have := Zkh _ _ _ _ hf; omega⟩
      · unfold ZL XE
        rw [XV, Option.bind_some, hw, if_neg (by simp), if_neg (by simpa using h2'), if_pos rfl, if_pos h2, ZhL h2, hf]; rfl
      · unfold QL XE
        rw [XJ, Option.bind_some, hw, if_neg (by simp), if_neg (by simpa using h2'), if_pos rfl, if_pos h2, Zgg h2 hs, hf]; rfl
    | none =>
      have hP := ZiB hf
      obtain ⟨j, hj, hj2⟩ := Zmy h2 hP
      obtain ⟨i, hi, hi2⟩ := tk2 h2 hP
      by_cases h4 : (allC 0 m.Params).length ≤ 4000
      · rw [decide_eq_true h4] at hj hj2
        cases hu : okB [] (bitsC (allC 0 m.Params)) with
        | false =>
          rw [hu] at hi hi2
          refine ⟨(i : Int), (i : Int), ?_, ?_, by omega⟩
          · unfold ZL XE
            rw [XV, Option.bind_some, hw, if_neg (by simp), if_neg (by simpa using h2'), if_pos rfl, if_pos h2, ZhL h2, hf]
            simp only [X0, Option.bind_some, Sum.elim_inr, t0]
            rw [hj, if_pos h4, hu]
            simp only [cond_true, Option.bind_some, Sum.elim_inr]
            rw [hi]; rfl
          · unfold QL XE
            rw [XJ, Option.bind_some, hw, if_neg (by simp), if_neg (by simpa using h2'), if_pos rfl, if_pos h2, Zgg h2 hs, hf]
            simp only [X0, Option.bind_some, Sum.elim_inr, t0]
            rw [hj2, if_pos h4, hu]
            simp only [cond_true, Option.bind_some, Sum.elim_inr]
            rw [hi2]; rfl
        | true =>
          rw [hu] at hi hi2
          refine ⟨-1, 0, ?_, ?_, by decide⟩
          · unfold ZL XE
            rw [XV, Option.bind_some, hw, if_neg (by simp), if_neg (by simpa using h2'), if_pos rfl, if_pos h2, ZhL h2, hf]
            simp only [X0, Option.bind_some, Sum.elim_inr, t0]
            rw [hj, if_pos h4, hu]
            simp only [cond_true, Option.bind_some, Sum.elim_inr]
            rw [hi]; rfl
          · unfold QL XE
            rw [XJ, Option.bind_some, hw, if_neg (by simp), if_neg (by simpa using h2'), if_pos rfl, if_pos h2, Zgg h2 hs, hf]
            simp only [X0, Option.bind_some, Sum.elim_inr, t0]
            rw [hj2, if_pos h4, hu]
            simp only [cond_true, Option.bind_some, Sum.elim_inr]
            rw [hi2]; rfl
      · rw [decide_eq_false h4] at hj hj2
        refine ⟨(j : Int), (j : Int), ?_, ?_, by omega⟩
        · unfold ZL XE
          rw [XV, Option.bind_some, hw, if_neg (by simp), if_neg (by simpa using h2'), if_pos rfl, if_pos h2, ZhL h2, hf]
          simp only [X0, Option.bind_some, Sum.elim_inr, t0]
          rw [hj, if_neg h4]; rfl
        · unfold QL XE
          rw [XJ, Option.bind_some, hw, if_neg (by simp), if_neg (by simpa using h2'), if_pos rfl, if_pos h2, Zgg h2 hs, hf]
          simp only [X0, Option.bind_some, Sum.elim_inr, t0]
          rw [hj2, if_neg h4]; rfl
  · have h2' : (200 : Int) < (m.Params.length : Int) := by omega
    refine ⟨-1, 0, ?_, ?_, by decide⟩
    · unfold ZL XE
      rw [XV, Option.bind_some, hw, if_neg (by simp), if_pos (by simpa using h2'), if_pos rfl, if_neg h2]
    · unfold QL XE
      rw [XJ, Option.bind_some, hw, if_neg (by simp), if_pos (by simpa using h2'), if_pos rfl, if_neg h2]
theorem ZjW (m : api_Map) (hs : Zam m) : Zb4 m = some (if XE m = 0 then (allC 0 m.Params, 0) else ([], XE m)) := by
  obtain ⟨a, hc⟩ := ZhP m hs
  unfold Zb4
  rw [hc, Option.bind_some]
  by_cases h : XE m = 0
  · rw [if_neg (by simp [h]), if_pos h, ZgS (Zgb h)]; rfl
  · rw [if_pos (Zg5 h), if_neg h]
def fcR (l : List layout_bit) (i : Nat) : Int := ((l.countP fun b => decide (b.frame = (i : Int)) : Nat) : Int)
def RoomR (o : Vector Int 16) (L : List layout_bit) : Prop := ∀ i : Nat, i < 16 → o.toList[i]? = some (627 - fcR L i)
theorem ZkF (a b : List layout_bit) (i : Nat) : fcR (a ++ b) i = fcR a i + fcR b i := by simp [fcR]
theorem Zkg (l : List layout_bit) (i : Nat) : 0 ≤ fcR l i ∧ fcR l i ≤ l.length := by
  unfold fcR
  have := List.countP_le_length (p := fun b : layout_bit => decide (b.frame = (i : Int))) (l := l)
  omega
theorem RoomR.eq {o o' : Vector Int 16} {L : List layout_bit} (h : RoomR o L) (h' : RoomR o' L) : o = o' := by
  apply Vector.toList_inj.1
  apply List.ext_getElem?
  intro i
  by_cases hi : i < 16
  · rw [h i hi, h' i hi]
  · rw [List.getElem?_eq_none (by simp; omega), List.getElem?_eq_none (by simp; omega)]
theorem RoomR.get {o : Vector Int 16} {L : List layout_bit} (h : RoomR o L) {f : Int} (hf : 0 ≤ f ∧ f < 16) : Qj o f = some (627 - fcR L f.toNat) := by
  unfold Qj
  rw [if_pos hf.1, h _ (by omega)]
theorem RoomR.put {o : Vector Int 16} {L l : List layout_bit} (h : RoomR o L) {f : Int} (hf : 0 ≤ f ∧ f < 16) (hl : ∀ b ∈ l, b.frame = f) : RoomR (JT o f (627 - fcR L f.toNat - l.length)) (L ++ l) := by
  intro i hi
  rw [JK, ZkF]
  by_cases e : i = f.toNat
  · subst e
    rw [List.getElem?_set_self (by simp; omega)]
    have : fcR l f.toNat = l.length := by
      unfold fcR
      rw [List.countP_eq_length.2]
      intro b hb
      have := hl b hb
      simp only [decide_eq_true_eq]; omega
    rw [this]; congr 1; omega
  · rw [List.getElem?_set_ne (fun h => e h.symm), h i hi]
    have : fcR l i = 0 := by
      unfold fcR
      rw [List.countP_eq_zero.2]
      · rfl
      intro b hb
      have := hl b hb
      simp only [decide_eq_true_eq]; omega
    rw [this, Int.add_zero]
theorem ZkT {body : Vector Int 16 → Int → Option ((Vector Int 16 × Int) ⊕ Vector Int 16)} (hb : ∀ o i, body o i = if (decide (i < 16)) = true then (Qj o i).bind fun x => some (.inl ((JT o i 627), (i64 (i + 1)))) else some (.inr o)) :
    ∃ o', loop (t2 body) ((Vector.replicate 16 0), 0) = some o' ∧ RoomR o' [] := by
  have key : ∀ (n k : Nat) (o : Vector Int 16), k + n = 16 → (∀ i, i < k → o.toList[i]? = some 627) → ∃ o', loop (t2 body) (o, (k : Int)) = some o' ∧ RoomR o' [] := by
    intro n
    induction n with
    | zero =>
      intro k o hk ho
      obtain rfl : k = 16 := by omega
      refine ⟨o, ?_, fun i hi => by rw [ho i hi]; simp [fcR]⟩
      rw [ZH]
      simp only [JS, hb]
      rfl
    | succ n ih =>
      intro k o hk ho
      have hk16 : k < 16 := by omega
      obtain ⟨x, hx⟩ : ∃ x, Qj o (k : Int) = some x := by
        unfold Qj
        rw [if_pos (by omega)]
        exact Xl (by simp; omega)
      obtain ⟨o', h1, h2⟩ := ih (k + 1) (JT o (k : Int) 627) (by omega) fun i hi => by
        rw [JK]
        by_cases e : i = k
        · subst e; simp [hk16]
        · rw [List.getElem?_set_ne (by simp; omega)]
          exact ho i (by omega)
      refine ⟨o', ?_, h2⟩
      rw [ZH]
      simp only [JS, hb]
      rw [if_pos (by simp; omega), hx, Option.bind_some, Qy (by omega) (by omega)]
      have e2 : ((k : Nat) : Int) + 1 = ((k + 1 : Nat) : Int) := by push_cast; rfl
      rw [e2]; exact h1
  exact key 16 0 _ (by omega) (fun i hi => by omega)
theorem ZkR : ∀ (es : List (layout_bit × Int)) (o : Vector Int 16) (L : List layout_bit), RoomR o L → (∀ b ∈ mkeys es, 0 ≤ b.frame ∧ b.frame < 16) → L.length + es.length ≤ 1000000 → ∃ o', ZbH ZZ es o = some o' ∧ RoomR o' (L ++ mkeys es)
  | [], o, L, h, _, _ => ⟨o, rfl, by simpa [mkeys] using h⟩
  | e :: es, o, L, h, hb, hl => by
    have hf := hb e.1 (by simp [mkeys])
    simp only [List.length_cons] at hl
    obtain ⟨b1, b2⟩ := Zkg L e.1.frame.toNat
    have h1 := h.put (l := [e.1]) hf (fun b hb => by rw [List.mem_singleton.1 hb])
    obtain ⟨o', g1, g2⟩ := ZkR es _ _ h1 (fun b hb' => hb b (by simp only [mkeys, List.map_cons] at hb' ⊢; exact List.mem_cons_of_mem _ hb')) (by simp; omega)
    refine ⟨o', ?_, by simpa [mkeys] using g2⟩
    simp only [ZbH, ZZ]
    rw [h.get hf, Option.bind_some, Option.bind_some, Qy (by omega) (by omega)]
    exact g1
theorem Zke {m : api_Map} (hm : MapOK m) : ∀ b ∈ bitsC (allC 0 m.Params), 0 ≤ b.frame ∧ b.frame < 16 := by
  intro b hb
  obtain ⟨c, hc, hb⟩ := List.mem_flatMap.1 hb
  obtain ⟨q, hq, hb⟩ := List.mem_flatMap.1 hb
  obtain ⟨j, x, h1, h2, _, f, t, h3, h4, _, h5⟩ := ZeK hm hc
  rw [h5] at hq
  have := ZdD h2 h3 h4 hq
  obtain ⟨i, _, rfl⟩ := List.mem_map.1 hb
  simp only
  omega
theorem Zjo {m : api_Map} (hm : MapOK m) : (bitsC (allC 0 m.Params)).length ≤ 352000 := by
  have key : ∀ l : List api_Cell, (∀ c ∈ l, (QB c.Places).length ≤ 88) → (bitsC l).length ≤ 88 * l.length := by
    intro l
    induction l with
    | nil => intro _; simp [bitsC]
    | cons c l ih =>
      intro h
      have h1 := h c List.mem_cons_self
      have h2 := ih fun c hc => h c (List.mem_cons_of_mem _ hc)
      simp only [bitsC, List.flatMap_cons, List.length_append, List.length_cons] at h2 ⊢
      omega
  have hc := hm.cnt
  have := key (allC 0 m.Params) fun c hc => by
    obtain ⟨j, x, h1, h2, _, f, t, h3, h4, _, h5⟩ := ZeK hm hc
    have h8 := h2.len.1
    have k2 : ∀ l : List api_Place, (∀ q ∈ l, (XD q).length ≤ 11) → (QB l).length ≤ 11 * l.length := by
      intro l
      induction l with
      | nil => intro _; simp [QB]
      | cons q l ih =>
        intro h
        have h1 := h q List.mem_cons_self
        have h2 := ih fun c hc => h c (List.mem_cons_of_mem _ hc)
        simp only [QB, List.flatMap_cons, List.length_append, List.length_cons] at h2 ⊢
        omega
    have := k2 c.Places fun q hq => by
      rw [h5] at hq
      have := ZdD h2 h3 h4 hq
      simp [XD]; omega
    rw [h5] at this ⊢
    simp only [List.length_map] at this
    omega
  omega
theorem ZcK : ∀ (l : List api_Cell) (k : Nat), mkeys (ZgD k l) = bitsC l
  | [], _ => rfl
  | c :: l, k => by
    have := ZcK l (k + 1)
    simp only [ZgD, bitsC, List.flatMap_cons] at this ⊢
    rw [← this]
    simp [mkeys, Function.comp_def]
theorem Zla (m : api_Map) : ∃ o, Zbv m = some (if XE m = 0 then (o, 0) else ((Vector.replicate 16 0), XE m)) ∧ (XE m = 0 → RoomR o (bitsC (allC 0 m.Params))) := by
  obtain ⟨a, hc⟩ := Zhs m
  unfold Zbv
  rw [hc, Option.bind_some]
  by_cases h : XE m = 0
  · have hm := Zgb h
    obtain ⟨o, h1, h2⟩ := ZkT (body := Zb0) (fun o i => rfl)
    have hbl := Zjo hm
    obtain ⟨o', h3, h4⟩ := ZkR (ZgD 0 (allC 0 m.Params)) o [] h2 (by rw [ZcK]; exact Zke hm) (by
      have : (ZgD 0 (allC 0 m.Params)).length = (mkeys (ZgD 0 (allC 0 m.Params))).length := by simp [mkeys]
      rw [this, ZcK]; simp; omega)
    refine ⟨o', ?_, fun _ => by rw [ZcK] at h4; simpa using h4⟩
    rw [if_neg (by simp [h]), if_pos h, h1, Option.bind_some]
    simp only [t1]
    rw [Zhr hm, Option.bind_some, Zi4 (ZiZ hm) hm.uniq, Option.bind_some, h3]; rfl
  · refine ⟨Vector.replicate 16 0, ?_, fun h' => absurd h' h⟩
    rw [if_pos (Zg5 h), if_neg h]
end Go.Vx

namespace Go.Vx
open Go Go.RowKit
theorem ZlQ {c : api_Cell} (h8 : c.Places.length ≤ 8) (hp : ∀ q ∈ c.Places, (0 ≤ q.Frame ∧ q.Frame ≤ 15) ∧ 1 ≤ q.Bits ∧ q.Bits ≤ 11) (o : Vector Int 16) (L : List layout_bit) (h : RoomR o L) (hL : L.length ≤ 1000000) :
    ∃ o', loop (t2 (JH c)) (o, 0) = some o' ∧ RoomR o' (L ++ QB c.Places) := by
  have key : ∀ (n k : Nat) (o : Vector Int 16) (L : List layout_bit), k + n = c.Places.length → RoomR o L → L.length + 11 * n ≤ 2000000 → ∃ o', loop (t2 (JH c)) (o, (k : Int)) = some o' ∧ RoomR o' (L ++ QB (c.Places.drop k)) := by
    intro n
    induction n with
    | zero =>
      intro k o L hk h _
      obtain rfl : k = c.Places.length := by omega
      refine ⟨o, ?_, by simpa [QB] using h⟩
      rw [ZH]
      simp [JH]
    | succ n ih =>
      intro k o L hk h hL
      obtain ⟨q, hq⟩ := Xl (xs := c.Places) (k := k) (by omega)
      have hlt := Q9 hq
      obtain ⟨⟨p1, p2⟩, p3, p4⟩ := hp q (List.mem_of_getElem? hq)
      obtain ⟨b1, b2⟩ := Zkg L q.Frame.toNat
      have hbl : ((XD q).length : Int) = q.Bits := by simp [XD]; omega
      have hf : 0 ≤ q.Frame ∧ q.Frame < 16 := by omega
      have h1 := h.put (l := XD q) hf (fun b hb => by obtain ⟨i, _, rfl⟩ := List.mem_map.1 hb; rfl)
      rw [hbl] at h1
      have hll : (XD q).length ≤ 11 := by omega
      obtain ⟨o', g1, g2⟩ := ih (k + 1) _ _ (by omega) h1 (by rw [List.length_append]; omega)
      have e2 : ((k : Nat) : Int) + 1 = ((k + 1 : Nat) : Int) := by push_cast; rfl
      refine ⟨o', ?_, ?_⟩
      · rw [ZH]
        simp only [JS, JH, hlt, decide_true, if_true, Qd hq, Option.bind_some, h.get hf]
        rw [Qy (z := 627 - fcR L q.Frame.toNat - q.Bits) (by omega) (by omega), Qy (z := (k : Int) + 1) (by omega) (by omega), e2]
        exact g1
      · rw [ZP hq]
        simpa [QB] using g2
  exact key c.Places.length 0 o L (by omega) h (by omega)
theorem ZlX {m : api_Map} (hm : MapOK m) (o : Vector Int 16) (h : RoomR o []) : ∃ o', loop (t2 (JJ (allC 0 m.Params))) (o, 0) = some o' ∧ RoomR o' (bitsC (allC 0 m.Params)) := by
  have hcnt := hm.cnt
  have key : ∀ (n k : Nat) (o : Vector Int 16) (L : List layout_bit), k + n = (allC 0 m.Params).length → RoomR o L → L.length ≤ 88 * k → ∃ o', loop (t2 (JJ (allC 0 m.Params))) (o, (k : Int)) = some o' ∧ RoomR o' (L ++ bitsC ((allC 0 m.Params).drop k)) := by
    intro n
    induction n with
    | zero =>
      intro k o L hk h _
      obtain rfl : k = (allC 0 m.Params).length := by omega
      refine ⟨o, ?_, by simpa [bitsC] using h⟩
      rw [ZH]
      simp [JJ]
    | succ n ih =>
      intro k o L hk h hL
      obtain ⟨c, hc⟩ := Xl (xs := allC 0 m.Params) (k := k) (by omega)
      have hlt := Q9 hc
      obtain ⟨j, x, h1, h2, _, f, t, h3, h4, _, h5⟩ := ZeK hm (List.mem_of_getElem? hc)
      have h8 : c.Places.length ≤ 8 := by rw [h5]; have := h2.len.1; simpa using this
      have hpl : ∀ q ∈ c.Places, (0 ≤ q.Frame ∧ q.Frame ≤ 15) ∧ 1 ≤ q.Bits ∧ q.Bits ≤ 11 := fun q hq => by
        rw [h5] at hq
        have := ZdD h2 h3 h4 hq
        omega
      obtain ⟨o1, g1, g2⟩ := ZlQ h8 hpl o L h (by omega)
      have hbl : ∀ l : List api_Place, (∀ q ∈ l, q.Bits ≤ 11) → (QB l).length ≤ 11 * l.length := by
        intro l
        induction l with
        | nil => intro _; simp [QB]
        | cons q l ih =>
          intro h
          have h1 := h q List.mem_cons_self
          have h2 := ih fun c hc => h c (List.mem_cons_of_mem _ hc)
          have h3 : (XD q).length ≤ 11 := by simp [XD]; omega
          simp only [QB, List.flatMap_cons, List.length_append, List.length_cons] at h2 ⊢
          omega
      have hb := hbl c.Places fun q hq => (hpl q hq).2.2
      obtain ⟨o', g3, g4⟩ := ih (k + 1) o1 _ (by omega) g2 (by rw [List.length_append]; omega)
      have e2 : ((k : Nat) : Int) + 1 = ((k + 1 : Nat) : Int) := by push_cast; rfl
      refine ⟨o', ?_, ?_⟩
      · rw [ZH]
        simp only [JS, JJ, hlt, decide_true, if_true, Qd hc, Option.bind_some, g1]
        rw [Qy (z := (k : Int) + 1) (by omega) (by omega), e2]
        exact g3
      · rw [ZP hc]
        simpa [bitsC] using g4
  have := key (allC 0 m.Params).length 0 o [] (by omega) h (by simp)
  simpa using this
theorem Zkt (m : api_Map) (hs : Zam m) : ∃ o, Zcp m = some (if XE m = 0 then (o, 0) else ((Vector.replicate 16 0), XE m)) ∧ (XE m = 0 → RoomR o (bitsC (allC 0 m.Params))) := by
  obtain ⟨a, hc⟩ := ZhP m hs
  unfold Zcp
  rw [hc, Option.bind_some]
  by_cases h : XE m = 0
  · have hm := Zgb h
    obtain ⟨o, h1, h2⟩ := ZkT (body := ZcT) (fun o i => rfl)
    obtain ⟨o', h3, h4⟩ := ZlX hm o h2
    refine ⟨o', ?_, fun _ => h4⟩
    rw [if_neg (by simp [h]), if_pos h, h1, Option.bind_some]
    simp only [t1]
    rw [ZgS hm, Option.bind_some, h3]; rfl
  · refine ⟨Vector.replicate 16 0, ?_, fun h' => absurd h' h⟩
    rw [if_pos (Zg5 h), if_neg h]
theorem ZgP {l : List api_Cell} (hl : l.length ≤ 1000000) (h : ∀ c ∈ l, c.Places.length ≤ 8) : Zn l l (fun z0 z1 => XK z0 z1) = some true := by
  unfold Zn
  rw [if_neg (by simp), Zjg (l := l) (fun k x hx => by
    have hlt := Q9 hx
    simp only [Zz, hlt, decide_true, if_true, Qd hx, Option.bind_some, Zkq (h x (List.mem_of_getElem? hx))]
    rw [Qy (by omega) (by omega)]
    simp) (by simp [Zz])]
  rfl
theorem Zin (m : api_Map) (hs : Zam m) : QE m = some true := by
  obtain ⟨a, a', h1, h2, h3⟩ := Zlp m hs
  obtain ⟨o, r1, r2⟩ := Zla m
  obtain ⟨o', q1, q2⟩ := Zkt m hs
  have hso : (if XE m = 0 then (o, (0 : Int)) else ((Vector.replicate 16 0), XE m)) = (if XE m = 0 then (o', 0) else ((Vector.replicate 16 0), XE m)) := by
    by_cases h : XE m = 0
    · rw [if_pos h, if_pos h, (r2 h).eq (q2 h)]
    · rw [if_neg h, if_neg h]
  have hsc : Zn (if XE m = 0 then (allC 0 m.Params, (0 : Int)) else ([], XE m)).1 (if XE m = 0 then (allC 0 m.Params, (0 : Int)) else ([], XE m)).1 (fun z0 z1 => XK z0 z1) = some true := by
    by_cases h : XE m = 0
    · rw [if_pos h]
      have hm := Zgb h
      refine ZgP (by have := hm.cnt; simp only; omega) fun c hc => (Zh7 hm hc).1
    · rw [if_neg h]; exact ZgP (by simp) (fun c hc => by cases hc)
  unfold QE ZbJ
  rw [h1, Option.bind_some, h2, Option.bind_some, Option.bind_some, h3, Zkw, ZjW m hs, r1, q1, hso]
  simp only [decide_true, Bool.not_true, Bool.or_self, Bool.false_eq_true, if_false, Option.bind_some, beq_self_eq_true, ZjZ, hsc, Bool.and_self, Zj9]
end Go.Vx
