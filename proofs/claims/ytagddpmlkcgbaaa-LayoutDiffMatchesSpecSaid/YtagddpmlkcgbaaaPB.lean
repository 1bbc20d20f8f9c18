/- A text of the proof: a verified executor of the program form, or the contracts of the functions that the law reaches. -/
import Derived.Test.YtagddpmlkcgbaaaPA
import Derived.Test.YtagddpmlkcgbaaaVP
import Derived.Test.YtagddpmlkcgbaaaShW2
set_option linter.all false
namespace Go.Vx
open Go Go.RowKit
set_option linter.unusedVariables false

noncomputable def ZT (n : Int) (low : Int) (high : Int) : Option Bool :=
  some ((decide (low ≤ n)) && (decide (n ≤ high)))
theorem Xh (n : Int) (low : Int) (high : Int) : Le (ZT n low high) (ZQ n low high) := by
  unfold ZT ZQ
  with_reducible repeat' (first | exact Le.refl _ | apply Le.bind | intro _)

noncomputable def X5 (p : api_Param) (i : Int) : Option ((Int) ⊕ (Int) ⊕ (Unit)) :=
  if (decide (i < (p.Parts.length : Int))) = true then
  (idx p.Parts i).bind fun x =>
  (ZT x.Frame 0 15).bind fun y =>
  (gd ((!y) == false) false (ZT x.Word 4 60)).bind fun y2 =>
  (gd (((!y) || (!y2)) == false) false (ZT x.Low 0 10)).bind fun y3 =>
  (gd ((((!y) || (!y2)) || (!y3)) == false) false (ZT x.Bits 1 (i64 (11 - x.Low)))).bind fun y4 =>
  if ((((!y) || (!y2)) || (!y3)) || (!y4)) = true then
  some (.inr (.inl 9))
  else
  some (.inl (i64 (i + 1)))
  else
  some (.inr (.inr ()))
theorem ZcB (p : api_Param) (i : Int) : Le (X5 p i) (ZP p i) := by
  unfold X5 ZP
  with_reducible repeat' (first | exact Le.refl _ | apply Le.bind | apply Le.ite | apply Le.gd | apply Xh | intro _)

noncomputable def Xz (s : List Int) (v : Int) (i : Int) : Option ((Int) ⊕ (Int) ⊕ (Unit)) :=
  if (decide (i < (s.length : Int))) = true then
  (idx s i).bind fun x =>
  if (decide (v = x)) = true then
  some (.inr (.inl i))
  else
  some (.inl (i64 (i + 1)))
  else
  some (.inr (.inr ()))
theorem Zb4 (s : List Int) (v : Int) (i : Int) : Le (Xz s v i) (ZL s v i) := by
  unfold Xz ZL
  with_reducible repeat' (first | exact Le.refl _ | apply Le.bind | apply Le.ite | intro _)

noncomputable def X6 (s : List Int) (v : Int) : Option Int :=
  ((Xu (t1 (Xz s v)) 0) : Option ((Int) ⊕ (Unit))).bind (Sum.elim (fun q' => some q') (t0 (some (-1))))
theorem ZcO (s : List Int) (v : Int) : Le (X6 s v) (Qx s v) := by
  unfold X6 Qx
  with_reducible repeat' (first | exact Le.refl _ | apply Le.bind | apply Le.loop | apply Le.t0 | apply Le.t1 | apply Le.elim | apply Zb4 | intro _)

noncomputable def XB (s : List Int) (v : Int) : Option Bool :=
  (X6 s v).bind fun y =>
  some (decide (0 ≤ y))
theorem ZbX (s : List Int) (v : Int) : Le (XB s v) (ZU s v) := by
  unfold XB ZU
  with_reducible repeat' (first | exact Le.refl _ | apply Le.bind | apply ZcO | intro _)

noncomputable def X0 (p : api_Param) (i2 : Int) : Option ((Int) ⊕ (Int) ⊕ (Unit)) :=
  if (decide (i2 < (p.Parts.length : Int))) = true then
  (idx p.Parts i2).bind fun x2 =>
  if ((decide (60 < p.Step)) || (decide (60 < (i64 (x2.Word + (i64 ((i64 (p.Times - 1)) * p.Step))))))) = true then
  some (.inr (.inl 9))
  else
  some (.inl (i64 (i2 + 1)))
  else
  some (.inr (.inr ()))
theorem ZcD (p : api_Param) (i2 : Int) : Le (X0 p i2) (Qe p i2) := by
  unfold X0 Qe
  with_reducible repeat' (first | exact Le.refl _ | apply Le.bind | apply Le.ite | intro _)

noncomputable def J6 (p : api_Param) : Option Int :=
  if (decide ((p.Parts.length : Int) = 0)) = true then
  some 13
  else
  if (decide (8 < (p.Parts.length : Int))) = true then
  some 3
  else
  ((Xu (t1 (X5 p)) 0) : Option ((Int) ⊕ (Unit))).bind (Sum.elim (fun q' => some q') (t0 ((XC p).bind fun y5 =>
  if (decide (40 < y5)) = true then
  some 3
  else
  (XB ([1, 2, 4, 8, 16] : List Int) p.Every).bind fun y6 =>
  (gd ((!y6) == false) false (ZT p.First 0 (i64 (p.Every - 1)))).bind fun y7 =>
  (gd (((!y6) || (!y7)) == false) false (ZT p.Times 1 57)).bind fun y8 =>
  if (((((!y6) || (!y7)) || (!y8)) || (decide (p.Step < 0))) || (!((decide (p.Step = 0)) == (decide (p.Times = 1))))) = true then
  some 9
  else
  ((Xu (t1 (X0 p)) 0) : Option ((Int) ⊕ (Unit))).bind (Sum.elim (fun q' => some q') (t0 (some 0))))))
theorem Zdx (p : api_Param) : Le (J6 p) (QC p) := by
  unfold J6 QC
  with_reducible repeat' (first | exact Le.refl _ | apply Le.bind | apply Le.ite | apply Le.gd | apply Le.loop | apply Le.t0 | apply Le.t1 | apply Le.elim | apply ZcB | apply ZbX | apply Xh | apply ZcD | apply JO | intro _)

noncomputable def QN (s : List Str) (v : Str) (i : Int) : Option ((Int) ⊕ (Int) ⊕ (Unit)) :=
  if (decide (i < (s.length : Int))) = true then
  (idx s i).bind fun x =>
  if (decide (v = x)) = true then
  some (.inr (.inl i))
  else
  some (.inl (i64 (i + 1)))
  else
  some (.inr (.inr ()))
theorem ZaQ (s : List Str) (v : Str) (i : Int) : Le (QN s v i) (ZB s v i) := by
  unfold QN ZB
  with_reducible repeat' (first | exact Le.refl _ | apply Le.bind | apply Le.ite | intro _)

noncomputable def Xa (s : List Str) (v : Str) : Option Int :=
  ((Xu (t1 (QN s v)) 0) : Option ((Int) ⊕ (Unit))).bind (Sum.elim (fun q' => some q') (t0 (some (-1))))
theorem Zbs (s : List Str) (v : Str) : Le (Xa s v) (ZV s v) := by
  unfold Xa ZV
  with_reducible repeat' (first | exact Le.refl _ | apply Le.bind | apply Le.loop | apply Le.t0 | apply Le.t1 | apply Le.elim | apply ZaQ | intro _)

noncomputable def QO (s : List Str) (v : Str) : Option Bool :=
  (Xa s v).bind fun y =>
  some (decide (0 ≤ y))
theorem ZaR (s : List Str) (v : Str) : Le (QO s v) (ZG s v) := by
  unfold QO ZG
  with_reducible repeat' (first | exact Le.refl _ | apply Le.bind | apply Zbs | intro _)

noncomputable def X9 (p : api_Param) (i : Int) : Option ((Int) ⊕ (Int) ⊕ (Unit)) :=
  if (decide (i < (p.Names.length : Int))) = true then
  (idx p.Names i).bind fun x =>
  (nmC x).bind fun y2 =>
  if (!y2) = true then
  some (.inr (.inl 8))
  else
  (slc p.Names 0 i).bind fun l =>
  (QO l x).bind fun y3 =>
  if y3 = true then
  some (.inr (.inl 5))
  else
  some (.inl (i64 (i + 1)))
  else
  some (.inr (.inr ()))
theorem Zcr (p : api_Param) (i : Int) : Le (X9 p i) (Qg p i) := by
  unfold X9 Qg
  with_reducible repeat' (first | exact Le.refl _ | apply Le.bind | apply Le.ite | apply ZaR | apply Zju | intro _)

noncomputable def JX (p : api_Param) : Option Int :=
  (XC p).bind fun y =>
  (gd ((decide (p.Kind = 4)) == true) 0 (rem y 4)).bind fun q =>
  if ((((decide (p.Kind = 4)) && (!decide (q = 0))) || ((decide (p.Kind = 5)) && (!decide (y = 1)))) || (((decide (p.Kind = 2)) || (decide (p.Kind = 3))) && (decide (y = 1)))) = true then
  some 2
  else
  if (!decide (p.Kind = 6)) = true then
  if (decide (0 < (p.Names.length : Int))) = true then
  some 2
  else
  some 0
  else
  if (decide ((p.Names.length : Int) = 0)) = true then
  some 13
  else
  (gd ((decide (64 < (p.Names.length : Int))) == false) 0 (shl .i64 1 y)).bind fun q2 =>
  if ((decide (64 < (p.Names.length : Int))) || (decide (q2 < (p.Names.length : Int)))) = true then
  some 3
  else
  ((Xu (t1 (X9 p)) 0) : Option ((Int) ⊕ (Unit))).bind (Sum.elim (fun q' => some q') (t0 (some 0)))
theorem Zdh (p : api_Param) : Le (JX p) (QE p) := by
  unfold JX QE
  with_reducible repeat' (first | exact Le.refl _ | apply Le.bind | apply Le.ite | apply Le.gd | apply Le.loop | apply Le.t0 | apply Le.t1 | apply Le.elim | apply Zcr | apply JO | intro _)

noncomputable def Qb (s : List api_Part) (f : api_Part → Option Bool) (i : Int) : Option ((Int) ⊕ (Int) ⊕ (Unit)) :=
  if (decide (i < (s.length : Int))) = true then
  (idx s i).bind fun x =>
  (f x).bind fun y =>
  if y = true then
  some (.inr (.inl i))
  else
  some (.inl (i64 (i + 1)))
  else
  some (.inr (.inr ()))
theorem Jr (s : List api_Part) (f : api_Part → Option Bool) (i : Int) (f' : api_Part → Option Bool) (h_f : ∀ z0, Le (f z0) (f' z0)) : Le (Qb s f i) (Zx s f' i) := by
  unfold Qb Zx
  with_reducible repeat' (first | exact Le.refl _ | apply Le.bind | apply Le.ite | apply h_f | intro _)

noncomputable def Qj (s : List api_Part) (f : api_Part → Option Bool) : Option Int :=
  ((Xu (t1 (Qb s f)) 0) : Option ((Int) ⊕ (Unit))).bind (Sum.elim (fun q' => some q') (t0 (some (-1))))
theorem JU (s : List api_Part) (f : api_Part → Option Bool) (f' : api_Part → Option Bool) (h_f : ∀ z0, Le (f z0) (f' z0)) : Le (Qj s f) (ZF s f') := by
  unfold Qj ZF
  with_reducible repeat' (first | exact Le.refl _ | apply Le.bind | apply Le.loop | apply Le.t0 | apply Le.t1 | apply Le.elim | apply Jr | apply h_f | intro _)

noncomputable def Qc (s : List api_Part) (f : api_Part → Option Bool) : Option Bool :=
  (Qj s f).bind fun y =>
  some (decide (0 ≤ y))
theorem Ju (s : List api_Part) (f : api_Part → Option Bool) (f' : api_Part → Option Bool) (h_f : ∀ z0, Le (f z0) (f' z0)) : Le (Qc s f) (Zy s f') := by
  unfold Qc Zy
  with_reducible repeat' (first | exact Le.refl _ | apply Le.bind | apply JU | apply h_f | intro _)

noncomputable def Za1 (x : api_Part) (c0 : Int) : Option Bool :=
  some (decide (16 ≤ (i64 (c0 + x.Frame))))
theorem ZeB (x : api_Part) (c0 : Int) : Le (Za1 x c0) (QM x c0) := by
  unfold Za1 QM
  with_reducible repeat' (first | exact Le.refl _ | apply Le.bind | intro _)

noncomputable def Zas (p : api_Param) (out2 : List Int) (f : Int) : Option (((List Int) × Int) ⊕ ((List Int))) :=
  if (decide (f < 16)) = true then
  (((Qc p.Parts (fun z0 => Za1 z0 f)).bind fun y =>
  if (!y) = true then
  (app out2 ([f] : List Int)).bind fun l =>
  some l
  else
  some out2) : Option (((List Int)))).bind (t1 fun (out3 : List Int) =>
  some (.inl (out3, (i64 (f + p.Every)))))
  else
  some (.inr out2)
theorem Zd2 (p : api_Param) (out2 : List Int) (f : Int) : Le (Zas p out2 f) (Z7 p out2 f) := by
  unfold Zas Z7
  with_reducible repeat' (first | exact Le.refl _ | apply Le.bind | apply Le.ite | apply Le.t1 | apply Ju | apply ZeB | intro _)

noncomputable def Zam (p : api_Param) : Option (List Int) :=
  ((Xu (t2 (Zas p)) ([], p.First)) : Option (((List Int)))).bind (t1 fun (out : List Int) =>
  some out)
theorem ZcI (p : api_Param) : Le (Zam p) (Xc p) := by
  unfold Zam Xc
  with_reducible repeat' (first | exact Le.refl _ | apply Le.bind | apply Le.loop | apply Le.t1 | apply Le.t2 | apply Zd2 | intro _)

noncomputable def Zba (p : api_Param) (x : api_Part) (f : Int) (j : Int) : Option api_Place :=
  some (api_Place.mk (i64 (f + x.Frame)) (i64 (x.Word + (i64 (j * p.Step)))) x.Low x.Bits)
theorem Ze1 (p : api_Param) (x : api_Part) (f : Int) (j : Int) : Le (Zba p x f j) (Xl p x f j) := by
  unfold Zba Xl
  with_reducible repeat' (first | exact Le.refl _ | apply Le.bind | intro _)

noncomputable def J2 (p : api_Param) (x : Int) (i2 : Int) (Places2 : List api_Place) (i3 : Int) : Option (((List api_Place) × Int) ⊕ ((List api_Place))) :=
  if (decide (i3 < (p.Parts.length : Int))) = true then
  (idx p.Parts i3).bind fun x2 =>
  (Zba p x2 x i2).bind fun y2 =>
  (app Places2 ([y2] : List api_Place)).bind fun l =>
  some (.inl (l, (i64 (i3 + 1))))
  else
  some (.inr Places2)
theorem Zdj (p : api_Param) (x : Int) (i2 : Int) (Places2 : List api_Place) (i3 : Int) : Le (J2 p x i2 Places2 i3) (ZZ p x i2 Places2 i3) := by
  unfold J2 ZZ
  with_reducible repeat' (first | exact Le.refl _ | apply Le.bind | apply Le.ite | apply Ze1 | intro _)

noncomputable def J7 (number : Int) (p : api_Param) (x : Int) (out4 : List api_Cell) (i2 : Int) : Option (((List api_Cell) × Int) ⊕ ((List api_Cell))) :=
  if (decide (i2 < p.Times)) = true then
  ((Xu (t2 (J2 p x i2)) ([], 0)) : Option (((List api_Place)))).bind (t1 fun (Places : List api_Place) =>
  (app out4 ([(api_Cell.mk number (out4.length : Int) x Places)] : List api_Cell)).bind fun l2 =>
  some (.inl (l2, (i64 (i2 + 1)))))
  else
  some (.inr out4)
theorem Zdl (number : Int) (p : api_Param) (x : Int) (out4 : List api_Cell) (i2 : Int) : Le (J7 number p x out4 i2) (XE number p x out4 i2) := by
  unfold J7 XE
  with_reducible repeat' (first | exact Le.refl _ | apply Le.bind | apply Le.ite | apply Le.loop | apply Le.t1 | apply Le.t2 | apply Zdj | intro _)

noncomputable def Zab (number : Int) (p : api_Param) (y : (List Int)) (out2 : List api_Cell) (i : Int) : Option (((List api_Cell) × Int) ⊕ ((List api_Cell))) :=
  if (decide (i < (y.length : Int))) = true then
  (((idx y i).bind fun x =>
  Xu (t2 (J7 number p x)) (out2, 0)) : Option (((List api_Cell)))).bind (t1 fun (out3 : List api_Cell) =>
  some (.inl (out3, (i64 (i + 1)))))
  else
  some (.inr out2)
theorem Zds (number : Int) (p : api_Param) (y : (List Int)) (out2 : List api_Cell) (i : Int) : Le (Zab number p y out2 i) (Ql number p y out2 i) := by
  unfold Zab Ql
  with_reducible repeat' (first | exact Le.refl _ | apply Le.bind | apply Le.ite | apply Le.loop | apply Le.t1 | apply Le.t2 | apply Zdl | intro _)

noncomputable def XN (number : Int) (p : api_Param) : Option (List api_Cell) :=
  (((Zam p).bind fun y =>
  Xu (t2 (Zab number p y)) ([], 0)) : Option (((List api_Cell)))).bind (t1 fun (out : List api_Cell) =>
  some out)
theorem ZaO (number : Int) (p : api_Param) : Le (XN number p) (Qz number p) := by
  unfold XN Qz
  with_reducible repeat' (first | exact Le.refl _ | apply Le.bind | apply Le.loop | apply Le.t1 | apply Le.t2 | apply ZcI | apply Zds | intro _)

noncomputable def Zaw (x : api_Place) (out2 : List layout_bit) (i : Int) : Option (((List layout_bit) × Int) ⊕ ((List layout_bit))) :=
  if (decide (i < x.Bits)) = true then
  (app out2 ([(layout_bit.mk x.Frame x.Word (i64 (x.Low + i)))] : List layout_bit)).bind fun l =>
  some (.inl (l, (i64 (i + 1))))
  else
  some (.inr out2)
theorem Zd7 (x : api_Place) (out2 : List layout_bit) (i : Int) : Le (Zaw x out2 i) (QW x out2 i) := by
  unfold Zaw QW
  with_reducible repeat' (first | exact Le.refl _ | apply Le.bind | apply Le.ite | intro _)

noncomputable def ZbG (x : api_Place) : Option (List layout_bit) :=
  ((Xu (t2 (Zaw x)) ([], 0)) : Option (((List layout_bit)))).bind (t1 fun (out : List layout_bit) =>
  some out)
theorem Zfs (x : api_Place) : Le (ZbG x) (XJ x) := by
  unfold ZbG XJ
  with_reducible repeat' (first | exact Le.refl _ | apply Le.bind | apply Le.loop | apply Le.t1 | apply Le.t2 | apply Zd7 | intro _)

noncomputable def Zbb (owner : Int) (y : (List layout_bit)) (o4 : List (layout_bit × Int)) (i2 : Int) : Option (((List (layout_bit × Int)) × Int) ⊕ (Bool × (List (layout_bit × Int))) ⊕ ((List (layout_bit × Int)))) :=
  if (decide (i2 < (y.length : Int))) = true then
  (idx y i2).bind fun x2 =>
  (some (Zbu kq_layout_bit o4 x2)).bind fun o5 =>
  if o5.isSome = true then
  some (.inr (.inl (false, o4)))
  else
  some (.inl ((Zd1 kq_layout_bit o4 x2 owner), (i64 (i2 + 1))))
  else
  some (.inr (.inr o4))
theorem ZeC (owner : Int) (y : (List layout_bit)) (o4 : List (layout_bit × Int)) (i2 : Int) : Le (Zbb owner y o4 i2) (QG owner y o4 i2) := by
  unfold Zbb QG
  with_reducible repeat' (first | exact Le.refl _ | apply Le.bind | apply Le.ite | intro _)

noncomputable def Zbn (owner : Int) (l : List api_Place) (o2 : List (layout_bit × Int)) (i : Int) : Option (((List (layout_bit × Int)) × Int) ⊕ (Bool × (List (layout_bit × Int))) ⊕ ((List (layout_bit × Int)))) :=
  if (decide (i < (l.length : Int))) = true then
  (((idx l i).bind fun x =>
  (ZbG x).bind fun y =>
  Xu (t2 (Zbb owner y)) (o2, 0)) : Option ((Bool × (List (layout_bit × Int))) ⊕ ((List (layout_bit × Int))))).bind (Sum.elim (fun q' => some (.inr (.inl q'))) (t1 fun (o3 : List (layout_bit × Int)) =>
  some (.inl (o3, (i64 (i + 1))))))
  else
  some (.inr (.inr o2))
theorem ZeP (owner : Int) (l : List api_Place) (o2 : List (layout_bit × Int)) (i : Int) : Le (Zbn owner l o2 i) (QF owner l o2 i) := by
  unfold Zbn QF
  with_reducible repeat' (first | exact Le.refl _ | apply Le.bind | apply Le.ite | apply Le.loop | apply Le.t1 | apply Le.t2 | apply Le.elim | apply Zfs | apply ZeC | intro _)

noncomputable def Zbq (taken : List (layout_bit × Int)) (owner : Int) (l : List api_Place) : Option (Bool × (List (layout_bit × Int))) :=
  ((Xu (t2 (Zbn owner l)) (taken, 0)) : Option ((Bool × (List (layout_bit × Int))) ⊕ ((List (layout_bit × Int))))).bind (Sum.elim (fun q' => some q') (t1 fun (o : List (layout_bit × Int)) =>
  some (true, o)))
theorem ZdH (taken : List (layout_bit × Int)) (owner : Int) (l : List api_Place) : Le (Zbq taken owner l) (XW taken owner l) := by
  unfold Zbq XW
  with_reducible repeat' (first | exact Le.refl _ | apply Le.bind | apply Le.loop | apply Le.t1 | apply Le.t2 | apply Le.elim | apply ZeP | intro _)

noncomputable def Jb (y5 : (List api_Cell)) (taken : List (layout_bit × Int)) (i : Int) : Option (((List (layout_bit × Int)) × Int) ⊕ (Int) ⊕ (Unit)) :=
  if (decide (i < (y5.length : Int))) = true then
  (idx y5 i).bind fun x =>
  (Zbq taken 0 x.Places).bind fun y6 =>
  if (!y6.1) = true then
  some (.inr (.inl 5))
  else
  some (.inl (y6.2, (i64 (i + 1))))
  else
  some (.inr (.inr ()))
theorem Zcw (y5 : (List api_Cell)) (taken : List (layout_bit × Int)) (i : Int) : Le (Jb y5 taken i) (Z1 y5 taken i) := by
  unfold Jb Z1
  with_reducible repeat' (first | exact Le.refl _ | apply Le.bind | apply Le.ite | apply ZdH | intro _)

noncomputable def J5 (p : api_Param) : Option Int :=
  (nmC p.Name).bind fun y =>
  if (!y) = true then
  some 8
  else
  (ZT p.Kind 1 6).bind fun y2 =>
  if (!y2) = true then
  some 7
  else
  (J6 p).bind fun y3 =>
  if (!decide (y3 = 0)) = true then
  some y3
  else
  (JX p).bind fun y4 =>
  if (!decide (y4 = 0)) = true then
  some y4
  else
  (XN 0 p).bind fun y5 =>
  ((Xu (t2 (Jb y5)) (([] : List (layout_bit × Int)), 0)) : Option ((Int) ⊕ (Unit))).bind (Sum.elim (fun q' => some q') (t0 (if (decide ((y5.length : Int) = 0)) = true then
  some 13
  else
  some 0)))
theorem Zdi (p : api_Param) : Le (J5 p) (QA p) := by
  unfold J5 QA
  with_reducible repeat' (first | exact Le.refl _ | apply Le.bind | apply Le.ite | apply Le.loop | apply Le.t0 | apply Le.t2 | apply Le.elim | apply Xh | apply Zdx | apply Zdh | apply ZaO | apply Zcw | apply Zju | intro _)

noncomputable def Z4 (s : List api_Param) (f : api_Param → Option Bool) (i : Int) : Option ((Int) ⊕ (Int) ⊕ (Unit)) :=
  if (decide (i < (s.length : Int))) = true then
  (idx s i).bind fun x =>
  (f x).bind fun y =>
  if y = true then
  some (.inr (.inl i))
  else
  some (.inl (i64 (i + 1)))
  else
  some (.inr (.inr ()))
theorem X4 (s : List api_Param) (f : api_Param → Option Bool) (i : Int) (f' : api_Param → Option Bool) (h_f : ∀ z0, Le (f z0) (f' z0)) : Le (Z4 s f i) (Zu s f' i) := by
  unfold Z4 Zu
  with_reducible repeat' (first | exact Le.refl _ | apply Le.bind | apply Le.ite | apply h_f | intro _)

noncomputable def Qf (s : List api_Param) (f : api_Param → Option Bool) : Option Int :=
  ((Xu (t1 (Z4 s f)) 0) : Option ((Int) ⊕ (Unit))).bind (Sum.elim (fun q' => some q') (t0 (some (-1))))
theorem Jz (s : List api_Param) (f : api_Param → Option Bool) (f' : api_Param → Option Bool) (h_f : ∀ z0, Le (f z0) (f' z0)) : Le (Qf s f) (ZC s f') := by
  unfold Qf ZC
  with_reducible repeat' (first | exact Le.refl _ | apply Le.bind | apply Le.loop | apply Le.t0 | apply Le.t1 | apply Le.elim | apply X4 | apply h_f | intro _)

noncomputable def Z2 (s : List api_Param) (f : api_Param → Option Bool) : Option Bool :=
  (Qf s f).bind fun y =>
  some (decide (0 ≤ y))
theorem X8 (s : List api_Param) (f : api_Param → Option Bool) (f' : api_Param → Option Bool) (h_f : ∀ z0, Le (f z0) (f' z0)) : Le (Z2 s f) (Zt s f') := by
  unfold Z2 Zt
  with_reducible repeat' (first | exact Le.refl _ | apply Le.bind | apply Jz | apply h_f | intro _)

noncomputable def Zbh (q : api_Param) (c0 : api_Param) : Option Bool :=
  some (decide (q.Name = c0.Name))
theorem Zfa (q : api_Param) (c0 : api_Param) : Le (Zbh q c0) (XU q c0) := by
  unfold Zbh XU
  with_reducible repeat' (first | exact Le.refl _ | apply Le.bind | intro _)

noncomputable def ZaK (m : api_Map) (i : Int) : Option ((Int) ⊕ (Int × Int) ⊕ (Unit)) :=
  if (decide (i < (m.Params.length : Int))) = true then
  (idx m.Params i).bind fun x =>
  (J5 x).bind fun y2 =>
  if (!decide (y2 = 0)) = true then
  some (.inr (.inl (i, y2)))
  else
  (slc m.Params 0 i).bind fun l =>
  (Z2 l (fun z0 => Zbh z0 x)).bind fun y3 =>
  if y3 = true then
  some (.inr (.inl (i, 5)))
  else
  some (.inl (i64 (i + 1)))
  else
  some (.inr (.inr ()))
theorem Zeo (m : api_Map) (i : Int) : Le (ZaK m i) (Q9 m i) := by
  unfold ZaK Q9
  with_reducible repeat' (first | exact Le.refl _ | apply Le.bind | apply Le.ite | apply Zdi | apply X8 | apply Zfa | intro _)

noncomputable def ZaM (m : api_Map) (cells : Int) (i2 : Int) : Option ((Int × Int) ⊕ (Int × Int) ⊕ (Unit)) :=
  if (decide (i2 < (m.Params.length : Int))) = true then
  (idx m.Params i2).bind fun x2 =>
  (Zam x2).bind fun y4 =>
  if (decide (4000 < (i64 (cells + (i64 ((y4.length : Int) * x2.Times)))))) = true then
  some (.inr (.inl (i2, 3)))
  else
  some (.inl ((i64 (cells + (i64 ((y4.length : Int) * x2.Times)))), (i64 (i2 + 1))))
  else
  some (.inr (.inr ()))
theorem Zed (m : api_Map) (cells : Int) (i2 : Int) : Le (ZaM m cells i2) (QL m cells i2) := by
  unfold ZaM QL
  with_reducible repeat' (first | exact Le.refl _ | apply Le.bind | apply Le.ite | apply ZcI | intro _)

noncomputable def ZaG (i3 : Int) (y5 : (List api_Cell)) (taken3 : List (layout_bit × Int)) (i4 : Int) : Option (((List (layout_bit × Int)) × Int) ⊕ (Int × Int) ⊕ ((List (layout_bit × Int)))) :=
  if (decide (i4 < (y5.length : Int))) = true then
  (idx y5 i4).bind fun x4 =>
  (Zbq taken3 i3 x4.Places).bind fun y6 =>
  if (!y6.1) = true then
  some (.inr (.inl (i3, 5)))
  else
  some (.inl (y6.2, (i64 (i4 + 1))))
  else
  some (.inr (.inr taken3))
theorem Zey (i3 : Int) (y5 : (List api_Cell)) (taken3 : List (layout_bit × Int)) (i4 : Int) : Le (ZaG i3 y5 taken3 i4) (QK i3 y5 taken3 i4) := by
  unfold ZaG QK
  with_reducible repeat' (first | exact Le.refl _ | apply Le.bind | apply Le.ite | apply ZdH | intro _)

noncomputable def ZaT (m : api_Map) (taken : List (layout_bit × Int)) (i3 : Int) : Option (((List (layout_bit × Int)) × Int) ⊕ (Int × Int) ⊕ (Unit)) :=
  if (decide (i3 < (m.Params.length : Int))) = true then
  (((idx m.Params i3).bind fun x3 =>
  (XN i3 x3).bind fun y5 =>
  Xu (t2 (ZaG i3 y5)) (taken, 0)) : Option ((Int × Int) ⊕ ((List (layout_bit × Int))))).bind (Sum.elim (fun q' => some (.inr (.inl q'))) (t1 fun (taken2 : List (layout_bit × Int)) =>
  some (.inl (taken2, (i64 (i3 + 1))))))
  else
  some (.inr (.inr ()))
theorem Zek (m : api_Map) (taken : List (layout_bit × Int)) (i3 : Int) : Le (ZaT m taken i3) (QJ m taken i3) := by
  unfold ZaT QJ
  with_reducible repeat' (first | exact Le.refl _ | apply Le.bind | apply Le.ite | apply Le.loop | apply Le.t1 | apply Le.t2 | apply Le.elim | apply ZaO | apply Zey | intro _)

noncomputable def ZaU (m : api_Map) : Option (Int × Int) :=
  (ZT m.Version 0 2047).bind fun y =>
  if (!y) = true then
  some ((-1), 9)
  else
  if (decide (200 < (m.Params.length : Int))) = true then
  some ((-1), 3)
  else
  ((Xu (t1 (ZaK m)) 0) : Option ((Int × Int) ⊕ (Unit))).bind (Sum.elim (fun q' => some q') (t0 (((Xu (t2 (ZaM m)) (0, 0)) : Option ((Int × Int) ⊕ (Unit))).bind (Sum.elim (fun q' => some q') (t0 (((Xu (t2 (ZaT m)) (([] : List (layout_bit × Int)), 0)) : Option ((Int × Int) ⊕ (Unit))).bind (Sum.elim (fun q' => some q') (t0 (some ((-1), 0))))))))))
theorem Zdc (m : api_Map) : Le (ZaU m) (QX m) := by
  unfold ZaU QX
  with_reducible repeat' (first | exact Le.refl _ | apply Le.bind | apply Le.ite | apply Le.loop | apply Le.t0 | apply Le.t1 | apply Le.t2 | apply Le.elim | apply Xh | apply Zeo | apply Zed | apply Zek | intro _)

noncomputable def Za4 (m : api_Map) (out2 : List api_Cell) (i : Int) : Option (((List api_Cell) × Int) ⊕ ((List api_Cell))) :=
  if (decide (i < (m.Params.length : Int))) = true then
  (idx m.Params i).bind fun x =>
  (XN i x).bind fun y =>
  (app out2 y).bind fun l =>
  some (.inl (l, (i64 (i + 1))))
  else
  some (.inr out2)
theorem Zef (m : api_Map) (out2 : List api_Cell) (i : Int) : Le (Za4 m out2 i) (Zao m out2 i) := by
  unfold Za4 Zao
  with_reducible repeat' (first | exact Le.refl _ | apply Le.bind | apply Le.ite | apply ZaO | intro _)

noncomputable def Za3 (m : api_Map) : Option (List api_Cell) :=
  ((Xu (t2 (Za4 m)) ([], 0)) : Option (((List api_Cell)))).bind (t1 fun (out : List api_Cell) =>
  some out)
theorem Zc9 (m : api_Map) : Le (Za3 m) (JV m) := by
  unfold Za3 JV
  with_reducible repeat' (first | exact Le.refl _ | apply Le.bind | apply Le.loop | apply Le.t1 | apply Le.t2 | apply Zef | intro _)

noncomputable def Zbc (m : api_Map) (out2 : Vector (List Int) 16) (i : Int) : Option (((Vector (List Int) 16) × Int) ⊕ ((Vector (List Int) 16))) :=
  if (decide (i < 16)) = true then
  (mks 58 0).bind fun l2 =>
  (XA out2 i).bind fun x =>
  (XA (Zd5 out2 i l2) i).bind fun l3 =>
  (XA (Zd5 out2 i l2) i).bind fun x2 =>
  (idx l3 0).bind fun x3 =>
  some (.inl ((Zd5 (Zd5 out2 i l2) i (l3.set (Int.toNat 0) m.Version)), (i64 (i + 1))))
  else
  some (.inr out2)
theorem Ze6 (m : api_Map) (out2 : Vector (List Int) 16) (i : Int) : Le (Zbc m out2 i) (ZaW m out2 i) := by
  unfold Zbc ZaW
  with_reducible repeat' (first | exact Le.refl _ | apply Le.bind | apply Le.ite | intro _)

noncomputable def Zbd (x4 : api_Cell) (y5 : Int) (out6 : Vector (List Int) 16) (left : Int) (i3 : Int) : Option (((Vector (List Int) 16) × Int × Int) ⊕ ((Vector (List Int) 16))) :=
  if (decide (i3 < (x4.Places.length : Int))) = true then
  (idx x4.Places i3).bind fun x9 =>
  (XA out6 x9.Frame).bind fun l4 =>
  (XA out6 x9.Frame).bind fun x10 =>
  (idx l4 (i64 (x9.Word - 3))).bind fun x11 =>
  (shr .i64 y5 (i64 (left - x9.Bits))).bind fun q =>
  (shl .i64 1 x9.Bits).bind fun q2 =>
  (shl .i64 (ZgC .i64 q (i64 (q2 - 1))) x9.Low).bind fun q3 =>
  (idx l4 (i64 (x9.Word - 3))).bind fun x12 =>
  some (.inl ((Zd5 out6 x9.Frame (l4.set (i64 (x9.Word - 3)).toNat (bor .i64 x11 q3))), (i64 (left - x9.Bits)), (i64 (i3 + 1))))
  else
  some (.inr out6)
theorem Ze8 (x4 : api_Cell) (y5 : Int) (out6 : Vector (List Int) 16) (left : Int) (i3 : Int) : Le (Zbd x4 y5 out6 left i3) (ZaN x4 y5 out6 left i3) := by
  unfold Zbd ZaN
  with_reducible repeat' (first | exact Le.refl _ | apply Le.bind | apply Le.ite | intro _)

noncomputable def Zbe (m : api_Map) (l : List Int) (y2 : (List api_Cell)) (out4 : Vector (List Int) 16) (i2 : Int) : Option (((Vector (List Int) 16) × Int) ⊕ ((Vector (List Int) 16) × Int) ⊕ ((Vector (List Int) 16))) :=
  if (decide (i2 < (y2.length : Int))) = true then
  (((idx y2 i2).bind fun x4 =>
  (idx m.Params x4.Param).bind fun x5 =>
  (ZkI x5).bind fun y3 =>
  (idx l i2).bind fun x6 =>
  (ZT x6 y3.low y3.high).bind fun y4 =>
  if (!y4) = true then
  some (.inl ((Vector.replicate 16 []), 9))
  else
  (idx l i2).bind fun x7 =>
  (y3.encode.fn x7).bind fun y5 =>
  (idx m.Params x4.Param).bind fun x8 =>
  (XC x8).bind fun y6 =>
  (Xu (t3 (Zbd x4 y5)) (out4, y6, 0)).bind (fun q' => some (.inr q'))) : Option (((Vector (List Int) 16) × Int) ⊕ ((Vector (List Int) 16)))).bind (Sum.elim (fun q' => some (.inr (.inl q'))) (t1 fun (out5 : Vector (List Int) 16) =>
  some (.inl (out5, (i64 (i2 + 1))))))
  else
  some (.inr (.inr out4))
theorem ZeU (m : api_Map) (l : List Int) (y2 : (List api_Cell)) (out4 : Vector (List Int) 16) (i2 : Int) : Le (Zbe m l y2 out4 i2) (ZaI m l y2 out4 i2) := by
  unfold Zbe ZaI
  with_reducible repeat' (first | exact Le.refl _ | apply Le.bind | apply Le.ite | apply Le.loop | apply Le.t1 | apply Le.t3 | apply Le.elim | apply Xh | apply Ze8 | apply ZiS | apply JO | intro _)

noncomputable def Zco (m : api_Map) (l : List Int) : Option ((Vector (List Int) 16) × Int) :=
  (ZaU m).bind fun y =>
  if (!decide (y.2 = 0)) = true then
  some ((Vector.replicate 16 []), y.2)
  else
  (Za3 m).bind fun y2 =>
  if (!decide ((l.length : Int) = (y2.length : Int))) = true then
  some ((Vector.replicate 16 []), 3)
  else
  ((Xu (t2 (Zbc m)) ((Vector.replicate 16 []), 0)) : Option (((Vector (List Int) 16)))).bind (t1 fun (out : Vector (List Int) 16) =>
  ((Xu (t2 (Zbe m l y2)) (out, 0)) : Option (((Vector (List Int) 16) × Int) ⊕ ((Vector (List Int) 16)))).bind (Sum.elim (fun q' => some q') (t1 fun (out3 : Vector (List Int) 16) =>
  some (out3, 0))))
theorem Zgi (m : api_Map) (l : List Int) : Le (Zco m l) (Zbt m l) := by
  unfold Zco Zbt
  with_reducible repeat' (first | exact Le.refl _ | apply Le.bind | apply Le.ite | apply Le.loop | apply Le.t1 | apply Le.t2 | apply Le.elim | apply Zdc | apply Zc9 | apply Ze6 | apply ZeU | intro _)

noncomputable def QY (s : List Int) (f : Int → Option Bool) (i : Int) : Option ((Int) ⊕ (Int) ⊕ (Unit)) :=
  if (decide (i < (s.length : Int))) = true then
  (idx s i).bind fun x =>
  (f x).bind fun y =>
  if y = true then
  some (.inr (.inl i))
  else
  some (.inl (i64 (i + 1)))
  else
  some (.inr (.inr ()))
theorem Zbj (s : List Int) (f : Int → Option Bool) (i : Int) (f' : Int → Option Bool) (h_f : ∀ z0, Le (f z0) (f' z0)) : Le (QY s f i) (Qy s f' i) := by
  unfold QY Qy
  with_reducible repeat' (first | exact Le.refl _ | apply Le.bind | apply Le.ite | apply h_f | intro _)

noncomputable def Xi (s : List Int) (f : Int → Option Bool) : Option Int :=
  ((Xu (t1 (QY s f)) 0) : Option ((Int) ⊕ (Unit))).bind (Sum.elim (fun q' => some q') (t0 (some (-1))))
theorem ZbM (s : List Int) (f : Int → Option Bool) (f' : Int → Option Bool) (h_f : ∀ z0, Le (f z0) (f' z0)) : Le (Xi s f) (Qq s f') := by
  unfold Xi Qq
  with_reducible repeat' (first | exact Le.refl _ | apply Le.bind | apply Le.loop | apply Le.t0 | apply Le.t1 | apply Le.elim | apply Zbj | apply h_f | intro _)

noncomputable def Q0 (s : List Int) (f : Int → Option Bool) : Option Bool :=
  (Xi s f).bind fun y =>
  some (decide (0 ≤ y))
theorem Zbk (s : List Int) (f : Int → Option Bool) (f' : Int → Option Bool) (h_f : ∀ z0, Le (f z0) (f' z0)) : Le (Q0 s f) (Z9 s f') := by
  unfold Q0 Z9
  with_reducible repeat' (first | exact Le.refl _ | apply Le.bind | apply ZbM | apply h_f | intro _)

noncomputable def Za5 (d : Int) : Option Bool :=
  (ZT d 0 2047).bind fun y =>
  some (!y)
theorem Zen (d : Int) : Le (Za5 d) (Jl d) := by
  unfold Za5 Jl
  with_reducible repeat' (first | exact Le.refl _ | apply Le.bind | apply Xh | intro _)

noncomputable def Zat (l : Vector (List Int) 16) (i : Int) : Option ((Int) ⊕ ((List api_Reading) × Int) ⊕ (Unit)) :=
  if (decide (i < 16)) = true then
  (XA l i).bind fun x =>
  if (!decide ((x.length : Int) = 58)) = true then
  some (.inr (.inl ([], 3)))
  else
  (Q0 x (fun z0 => Za5 z0)).bind fun y2 =>
  if y2 = true then
  some (.inr (.inl ([], 9)))
  else
  some (.inl (i64 (i + 1)))
  else
  some (.inr (.inr ()))
theorem Zd4 (l : Vector (List Int) 16) (i : Int) : Le (Zat l i) (JT l i) := by
  unfold Zat JT
  with_reducible repeat' (first | exact Le.refl _ | apply Le.bind | apply Le.ite | apply Zbk | apply Zen | intro _)

noncomputable def Zaq (m : api_Map) (l : Vector (List Int) 16) (i2 : Int) : Option ((Int) ⊕ ((List api_Reading) × Int) ⊕ (Unit)) :=
  if (decide (i2 < 16)) = true then
  (XA l i2).bind fun x2 =>
  (idx x2 0).bind fun x3 =>
  if (!decide (x3 = m.Version)) = true then
  some (.inr (.inl ([], 11)))
  else
  some (.inl (i64 (i2 + 1)))
  else
  some (.inr (.inr ()))
theorem Zd0 (m : api_Map) (l : Vector (List Int) 16) (i2 : Int) : Le (Zaq m l i2) (JM m l i2) := by
  unfold Zaq JM
  with_reducible repeat' (first | exact Le.refl _ | apply Le.bind | apply Le.ite | intro _)

noncomputable def ZaL (c_ : api_Cell) (l : Vector (List Int) 16) (raw2 : Int) (i : Int) : Option ((Int × Int) ⊕ (Int)) :=
  if (decide (i < (c_.Places.length : Int))) = true then
  (idx c_.Places i).bind fun x =>
  (shl .i64 raw2 x.Bits).bind fun q =>
  (XA l x.Frame).bind fun x2 =>
  (idx x2 (i64 (x.Word - 3))).bind fun x3 =>
  (shr .i64 x3 x.Low).bind fun q2 =>
  (shl .i64 1 x.Bits).bind fun q3 =>
  some (.inl ((bor .i64 q (ZgC .i64 q2 (i64 (q3 - 1)))), (i64 (i + 1))))
  else
  some (.inr raw2)
theorem Zeq (c_ : api_Cell) (l : Vector (List Int) 16) (raw2 : Int) (i : Int) : Le (ZaL c_ l raw2 i) (Zan c_ l raw2 i) := by
  unfold ZaL Zan
  with_reducible repeat' (first | exact Le.refl _ | apply Le.bind | apply Le.ite | intro _)

noncomputable def Zb2 (c_ : api_Cell) (l : Vector (List Int) 16) : Option Int :=
  ((Xu (t2 (ZaL c_ l)) (0, 0)) : Option ((Int))).bind (t1 fun (raw : Int) =>
  some raw)
theorem ZfP (c_ : api_Cell) (l : Vector (List Int) 16) : Le (Zb2 c_ l) (ZaV c_ l) := by
  unfold Zb2 ZaV
  with_reducible repeat' (first | exact Le.refl _ | apply Le.bind | apply Le.loop | apply Le.t1 | apply Le.t2 | apply Zeq | intro _)

noncomputable def Zbl (p : api_Param) (raw : Int) : Option (Int × Bool) :=
  (ZkI p).bind fun y =>
  (y.decode.fn raw).bind fun y2 =>
  if (!y2.2) = true then
  some (0, false)
  else
  some (y2.1, true)
theorem ZeS (p : api_Param) (raw : Int) : Le (Zbl p raw) (JJ p raw) := by
  unfold Zbl JJ
  with_reducible repeat' (first | exact Le.refl _ | apply Le.bind | apply Le.ite | apply ZiS | intro _)

noncomputable def Zax (m : api_Map) (l : Vector (List Int) 16) (y3 : (List api_Cell)) (out2 : List api_Reading) (i3 : Int) : Option (((List api_Reading) × Int) ⊕ ((List api_Reading))) :=
  if (decide (i3 < (y3.length : Int))) = true then
  (idx y3 i3).bind fun x4 =>
  (idx m.Params x4.Param).bind fun x5 =>
  (Zb2 x4 l).bind fun y4 =>
  (Zbl x5 y4).bind fun y5 =>
  (app out2 ([(api_Reading.mk x4.Param x4.Index y5.1 y5.2)] : List api_Reading)).bind fun l2 =>
  some (.inl (l2, (i64 (i3 + 1))))
  else
  some (.inr out2)
theorem ZdZ (m : api_Map) (l : Vector (List Int) 16) (y3 : (List api_Cell)) (out2 : List api_Reading) (i3 : Int) : Le (Zax m l y3 out2 i3) (JL m l y3 out2 i3) := by
  unfold Zax JL
  with_reducible repeat' (first | exact Le.refl _ | apply Le.bind | apply Le.ite | apply ZfP | apply ZeS | intro _)

noncomputable def ZbF (m : api_Map) (l : Vector (List Int) 16) : Option ((List api_Reading) × Int) :=
  (ZaU m).bind fun y =>
  if (!decide (y.2 = 0)) = true then
  some ([], y.2)
  else
  ((Xu (t1 (Zat l)) 0) : Option (((List api_Reading) × Int) ⊕ (Unit))).bind (Sum.elim (fun q' => some q') (t0 (((Xu (t1 (Zaq m l)) 0) : Option (((List api_Reading) × Int) ⊕ (Unit))).bind (Sum.elim (fun q' => some q') (t0 ((((Za3 m).bind fun y3 =>
  Xu (t2 (Zax m l y3)) ([], 0)) : Option (((List api_Reading)))).bind (t1 fun (out : List api_Reading) =>
  some (out, 0))))))))
theorem Zfl (m : api_Map) (l : Vector (List Int) 16) : Le (ZbF m l) (Zad m l) := by
  unfold ZbF Zad
  with_reducible repeat' (first | exact Le.refl _ | apply Le.bind | apply Le.ite | apply Le.loop | apply Le.t0 | apply Le.t1 | apply Le.t2 | apply Le.elim | apply Zdc | apply Zd4 | apply Zd0 | apply Zc9 | apply ZdZ | intro _)

noncomputable def Zck : Option Bool :=
  (Zco (api_Map.mk 3 ([(api_Param.mk [97] 2 ([(api_Part.mk 0 9 2 3)] : List api_Part) 2 8 2 1 [])] : List api_Param)) ([(-1), 3, 0, (-4)] : List Int)).bind fun y =>
  (gd ((!decide (y.2 = 0)) == false) [] (XA y.1 2)).bind fun x =>
  (gd (((!decide (y.2 = 0)) || (!decide ((x.length : Int) = 58))) == false) [] (XA y.1 5)).bind fun x2 =>
  (gd ((((!decide (y.2 = 0)) || (!decide ((x.length : Int) = 58))) || (!decide ((x2.length : Int) = 58))) == false) [] (XA y.1 10)).bind fun x3 =>
  (gd (((((!decide (y.2 = 0)) || (!decide ((x.length : Int) = 58))) || (!decide ((x2.length : Int) = 58))) || (!decide ((x3.length : Int) = 58))) == false) [] (XA y.1 2)).bind fun x4 =>
  (gd (((((!decide (y.2 = 0)) || (!decide ((x.length : Int) = 58))) || (!decide ((x2.length : Int) = 58))) || (!decide ((x3.length : Int) = 58))) == false) 0 (idx x4 6)).bind fun x5 =>
  (gd ((((((!decide (y.2 = 0)) || (!decide ((x.length : Int) = 58))) || (!decide ((x2.length : Int) = 58))) || (!decide ((x3.length : Int) = 58))) || (!decide (x5 = 28))) == false) [] (XA y.1 2)).bind fun x6 =>
  (gd ((((((!decide (y.2 = 0)) || (!decide ((x.length : Int) = 58))) || (!decide ((x2.length : Int) = 58))) || (!decide ((x3.length : Int) = 58))) || (!decide (x5 = 28))) == false) 0 (idx x6 7)).bind fun x7 =>
  (gd (((((((!decide (y.2 = 0)) || (!decide ((x.length : Int) = 58))) || (!decide ((x2.length : Int) = 58))) || (!decide ((x3.length : Int) = 58))) || (!decide (x5 = 28))) || (!decide (x7 = 12))) == false) [] (XA y.1 10)).bind fun x8 =>
  (gd (((((((!decide (y.2 = 0)) || (!decide ((x.length : Int) = 58))) || (!decide ((x2.length : Int) = 58))) || (!decide ((x3.length : Int) = 58))) || (!decide (x5 = 28))) || (!decide (x7 = 12))) == false) 0 (idx x8 6)).bind fun x9 =>
  (gd ((((((((!decide (y.2 = 0)) || (!decide ((x.length : Int) = 58))) || (!decide ((x2.length : Int) = 58))) || (!decide ((x3.length : Int) = 58))) || (!decide (x5 = 28))) || (!decide (x7 = 12))) || (!decide (x9 = 0))) == false) [] (XA y.1 10)).bind fun x10 =>
  (gd ((((((((!decide (y.2 = 0)) || (!decide ((x.length : Int) = 58))) || (!decide ((x2.length : Int) = 58))) || (!decide ((x3.length : Int) = 58))) || (!decide (x5 = 28))) || (!decide (x7 = 12))) || (!decide (x9 = 0))) == false) 0 (idx x10 7)).bind fun x11 =>
  (gd (((((((((!decide (y.2 = 0)) || (!decide ((x.length : Int) = 58))) || (!decide ((x2.length : Int) = 58))) || (!decide ((x3.length : Int) = 58))) || (!decide (x5 = 28))) || (!decide (x7 = 12))) || (!decide (x9 = 0))) || (!decide (x11 = 16))) == false) [] (XA y.1 5)).bind fun x12 =>
  (gd (((((((((!decide (y.2 = 0)) || (!decide ((x.length : Int) = 58))) || (!decide ((x2.length : Int) = 58))) || (!decide ((x3.length : Int) = 58))) || (!decide (x5 = 28))) || (!decide (x7 = 12))) || (!decide (x9 = 0))) || (!decide (x11 = 16))) == false) 0 (idx x12 0)).bind fun x13 =>
  if (((((((((!decide (y.2 = 0)) || (!decide ((x.length : Int) = 58))) || (!decide ((x2.length : Int) = 58))) || (!decide ((x3.length : Int) = 58))) || (!decide (x5 = 28))) || (!decide (x7 = 12))) || (!decide (x9 = 0))) || (!decide (x11 = 16))) || (!decide (x13 = 3))) = true then
  some false
  else
  (ZbF (api_Map.mk 3 ([(api_Param.mk [97] 2 ([(api_Part.mk 0 9 2 3)] : List api_Part) 2 8 2 1 [])] : List api_Param)) y.1).bind fun y2 =>
  (gd (((decide (y2.2 = 0)) && (decide ((y2.1.length : Int) = 4))) == true) (api_Reading.mk 0 0 0 false) (idx y2.1 3)).bind fun x14 =>
  some (((decide (y2.2 = 0)) && (decide ((y2.1.length : Int) = 4))) && (decide (x14.Param = 0) && (decide (x14.Index = 3) && (decide (x14.Value = (-4)) && ((x14.Good == true) && true)))))
theorem Zgc : Le (Zck ) (JH ) := by
  unfold Zck JH
  with_reducible repeat' (first | exact Le.refl _ | apply Le.bind | apply Le.ite | apply Le.gd | apply Zgi | apply Zfl | intro _)
end Go.Vx

namespace Go.Vx
open Go Go.RowKit
theorem ZjY : Zck = some true := by decide +kernel
theorem Zgo : JH = some true := Zgc true ZjY
end Go.Vx

namespace Go.Vx
open Go Go.RowKit
end Go.Vx

namespace Go.Vx
open Go Go.RowKit
end Go.Vx

namespace Go.Vx
open Go Go.RowKit
def Zjd (b : layout_bit) (x : api_Place) : Bool := ((decide (x.Frame = b.frame) && decide (x.Word = b.word)) && decide (x.Low ≤ b.bit)) && decide (b.bit < x.Low + x.Bits)
end Go.Vx

namespace Go.Vx
open Go Go.RowKit
def placeR (q : api_Place) : Prop := (0 ≤ q.Frame ∧ q.Frame ≤ 15) ∧ (4 ≤ q.Word ∧ q.Word ≤ 60) ∧ (0 ≤ q.Low ∧ q.Low ≤ 10) ∧ 1 ≤ q.Bits ∧ q.Bits ≤ 11 - q.Low
end Go.Vx

namespace Go.Vx
open Go Go.RowKit
def ZcQ (l : Vector (List Int) 16) (q : api_Place) : Nat := ((l.toList.getD q.Frame.toNat []).getD (q.Word - 3).toNat 0).toNat
def DatOK (l : Vector (List Int) 16) : Prop := ∀ x ∈ l.toList, x.length = 58 ∧ ∀ d ∈ x, 0 ≤ d ∧ d ≤ 2047
theorem ZlJ {l : Vector (List Int) 16} (hl : DatOK l) {q : api_Place} (hq : placeR q) : ∃ x, XA l q.Frame = some x ∧ idx x (i64 (q.Word - 3)) = some (ZcQ l q : Int) ∧ ZcQ l q ≤ 2047 := by
  obtain ⟨h1, h2, _⟩ := hq
  have h16 : l.toList.length = 16 := by simp
  obtain ⟨x, hx⟩ := Jt (xs := l.toList) (k := q.Frame.toNat) (by omega)
  obtain ⟨hx1, hx2⟩ := hl x (List.mem_of_getElem? hx)
  obtain ⟨d, hd⟩ := Jt (xs := x) (k := (q.Word - 3).toNat) (by omega)
  have hd2 := hx2 d (List.mem_of_getElem? hd)
  have e1 : l.toList.getD q.Frame.toNat [] = x := by rw [List.getD_eq_getElem?_getD, hx]; rfl
  have e2 : x.getD (q.Word - 3).toNat 0 = d := by rw [List.getD_eq_getElem?_getD, hd]; rfl
  have e3 : ((ZcQ l q : Nat) : Int) = d := by unfold ZcQ; rw [e1, e2]; omega
  refine ⟨x, ?_, ?_, by omega⟩
  · unfold XA; rw [if_pos h1.1, hx]
  · rw [Qv (by omega) (by omega), e3]; unfold idx; rw [if_pos (by omega), hd]
end Go.Vx

namespace Go.Vx
open Go Go.RowKit
def chunk (l : Vector (List Int) 16) (q : api_Place) : Nat := ZcQ l q / 2 ^ q.Low.toNat % 2 ^ q.Bits.toNat
end Go.Vx

namespace Go.Vx
open Go Go.RowKit
end Go.Vx

namespace Go.Vx
open Go Go.RowKit
theorem Zfy {d lo n : Nat} (h : d / 2 ^ lo % 2 ^ n = 0) : d = 2 ^ (lo + n) * (d / 2 ^ (lo + n)) + d % 2 ^ lo := by
  have h1 := Nat.mod_mul (a := 2 ^ lo) (b := 2 ^ n) (x := d)
  rw [h, Nat.mul_zero, Nat.add_zero, ← Nat.pow_add] at h1
  have h2 := Nat.div_add_mod d (2 ^ (lo + n))
  omega
theorem Zjz {d lo n v : Nat} (h : d / 2 ^ lo % 2 ^ n = 0) (hv : v < 2 ^ n) : d ||| 2 ^ lo * v = d + 2 ^ lo * v ∧ 2 ^ lo * v + d % 2 ^ lo < 2 ^ (lo + n) := by
  have hs := Zfy h
  have hl : d % 2 ^ lo < 2 ^ lo := Nat.mod_lt _ (Nat.two_pow_pos _)
  have hx : 2 ^ lo * v + d % 2 ^ lo < 2 ^ (lo + n) := by
    have h1 : 2 ^ lo * (v + 1) ≤ 2 ^ lo * 2 ^ n := Nat.mul_le_mul_left _ hv
    rw [← Nat.pow_add, Nat.mul_add, Nat.mul_one] at h1
    omega
  refine ⟨?_, hx⟩
  have e1 := Nat.two_pow_add_eq_or_of_lt (i := lo + n) (b := d % 2 ^ lo) (by omega) (d / 2 ^ (lo + n))
  have e2 := Nat.two_pow_add_eq_or_of_lt (i := lo) (b := d % 2 ^ lo) hl v
  have e3 := Nat.two_pow_add_eq_or_of_lt (i := lo + n) (b := 2 ^ lo * v + d % 2 ^ lo) hx (d / 2 ^ (lo + n))
  have : d ||| 2 ^ lo * v = 2 ^ (lo + n) * (d / 2 ^ (lo + n)) ||| (2 ^ lo * v + d % 2 ^ lo) := by
    rw [e2, Nat.or_comm (2 ^ lo * v), ← Nat.or_assoc, ← e1, ← hs]
  rw [this, ← e3]
  omega
theorem Zlm {d lo n v : Nat} (h : d / 2 ^ lo % 2 ^ n = 0) (hv : v < 2 ^ n) (hd : d ≤ 2047) (hln : lo + n ≤ 11) : d + 2 ^ lo * v ≤ 2047 := by
  have hs := Zfy h
  have hx := (Zjz h hv).2
  have e : 2 ^ 11 = 2 ^ (lo + n) * 2 ^ (11 - (lo + n)) := by rw [← Nat.pow_add]; congr 1; omega
  have h1 : d / 2 ^ (lo + n) < 2 ^ (11 - (lo + n)) := by
    rw [Nat.div_lt_iff_lt_mul (Nat.two_pow_pos _), Nat.mul_comm, ← e]; omega
  have h2 : 2 ^ (lo + n) * (d / 2 ^ (lo + n) + 1) ≤ 2 ^ (lo + n) * 2 ^ (11 - (lo + n)) := Nat.mul_le_mul_left _ h1
  rw [← e, Nat.mul_add, Nat.mul_one] at h2
  omega
theorem ZjO {d lo n v : Nat} (h : d / 2 ^ lo % 2 ^ n = 0) (hv : v < 2 ^ n) : (d + 2 ^ lo * v) / 2 ^ lo % 2 ^ n = v := by
  rw [Nat.add_mul_div_left _ _ (Nat.two_pow_pos _), Nat.add_mod, h, Nat.zero_add, Nat.mod_mod, Nat.mod_eq_of_lt hv]
theorem ZiX {d lo n v lo' n' : Nat} (h : d / 2 ^ lo % 2 ^ n = 0) (hv : v < 2 ^ n) (hd : lo + n ≤ lo' ∨ lo' + n' ≤ lo) : (d + 2 ^ lo * v) / 2 ^ lo' % 2 ^ n' = d / 2 ^ lo' % 2 ^ n' := by
  rcases hd with hd | hd
  · have hs := Zfy h
    have hx := (Zjz h hv).2
    have hl : d % 2 ^ lo < 2 ^ (lo + n) := by omega
    have e : 2 ^ lo' = 2 ^ (lo + n) * 2 ^ (lo' - (lo + n)) := by rw [← Nat.pow_add]; congr 1; omega
    have e1 : (d + 2 ^ lo * v) / 2 ^ (lo + n) = d / 2 ^ (lo + n) := by
      have : d + 2 ^ lo * v = (2 ^ lo * v + d % 2 ^ lo) + 2 ^ (lo + n) * (d / 2 ^ (lo + n)) := by omega
      rw [this, Nat.add_mul_div_left _ _ (Nat.two_pow_pos _), Nat.div_eq_of_lt hx, Nat.zero_add]
    rw [e, ← Nat.div_div_eq_div_mul, e1, Nat.div_div_eq_div_mul]
  · have e : 2 ^ lo * v = 2 ^ lo' * (2 ^ n' * (2 ^ (lo - lo' - n') * v)) := by
      rw [← Nat.mul_assoc, ← Nat.mul_assoc, ← Nat.pow_add, ← Nat.pow_add]; congr 2; omega
    rw [e, Nat.add_mul_div_left _ _ (Nat.two_pow_pos _), Nat.add_mul_mod_self_left]
def ZgN (l : Vector (List Int) 16) (q : api_Place) : List Int := l.toList.getD q.Frame.toNat []
def wr (l : Vector (List Int) 16) (w : api_Place × Nat) : Vector (List Int) 16 := Zd5 l w.1.Frame ((ZgN l w.1).set (w.1.Word - 3).toNat ((ZcQ l w.1 + 2 ^ w.1.Low.toNat * w.2 : Nat) : Int))
theorem Zir {l : Vector (List Int) 16} {q : api_Place} {v : Nat} (hq : placeR q) (k : Nat) : (wr l (q, v)).toList[k]? = if k = q.Frame.toNat then some ((ZgN l q).set (q.Word - 3).toNat ((ZcQ l q + 2 ^ q.Low.toNat * v : Nat) : Int)) else l.toList[k]? := by
  obtain ⟨hf, _⟩ := hq
  have h16 : l.toList.length = 16 := by simp
  have e : (wr l (q, v)).toList = l.toList.set q.Frame.toNat ((ZgN l q).set (q.Word - 3).toNat ((ZcQ l q + 2 ^ q.Low.toNat * v : Nat) : Int)) := by simp [wr, Zd5]
  rw [e, List.getElem?_set]
  by_cases h : k = q.Frame.toNat
  · subst h; rw [if_pos rfl, if_pos (by omega), if_pos rfl]
  · rw [if_neg (fun hh => h hh.symm), if_neg h]
theorem Zhm {l : Vector (List Int) 16} {q : api_Place} (hq : placeR q) : l.toList[q.Frame.toNat]? = some (ZgN l q) := by
  obtain ⟨hf, _⟩ := hq
  have h16 : l.toList.length = 16 := by simp
  obtain ⟨x, hx⟩ := Jt (xs := l.toList) (k := q.Frame.toNat) (by omega)
  unfold ZgN
  rw [List.getD_eq_getElem?_getD, hx]; rfl
theorem ZjN {l : Vector (List Int) 16} (hl : DatOK l) {q q' : api_Place} {v : Nat} (hq : placeR q) (hq' : placeR q') :
    ZcQ (wr l (q, v)) q' = if q'.Frame = q.Frame ∧ q'.Word = q.Word then ZcQ l q + 2 ^ q.Low.toNat * v else ZcQ l q' := by
  obtain ⟨h58, _⟩ := hl _ (List.mem_of_getElem? (Zhm (l := l) hq))
  have e0 : ZcQ (wr l (q, v)) q' = ((((wr l (q, v)).toList[q'.Frame.toNat]?).getD []).getD (q'.Word - 3).toNat 0).toNat := by unfold ZcQ; rw [List.getD_eq_getElem?_getD (l := (wr l (q, v)).toList)]
  have e00 : ZcQ l q' = (((l.toList[q'.Frame.toNat]?).getD []).getD (q'.Word - 3).toNat 0).toNat := by unfold ZcQ; rw [List.getD_eq_getElem?_getD (l := l.toList)]
  rw [e0, e00, Zir hq]
  obtain ⟨a1, a2, _⟩ := hq
  obtain ⟨b1, b2, _⟩ := hq'
  by_cases hf : q'.Frame = q.Frame
  · have hf' : q'.Frame.toNat = q.Frame.toNat := by omega
    rw [if_pos hf']
    simp only [Option.getD_some]
    by_cases hw2 : q'.Word = q.Word
    · rw [if_pos ⟨hf, hw2⟩, hw2, List.getD_eq_getElem?_getD, List.getElem?_set_self (by omega)]
      simp
      exact Int.toNat_natCast _
    · have hw3 : (q'.Word - 3).toNat ≠ (q.Word - 3).toNat := by omega
      rw [if_neg (fun h => hw2 h.2), List.getD_eq_getElem?_getD, List.getElem?_set_ne (fun h => hw3 h.symm), ← List.getD_eq_getElem?_getD, hf']
      unfold ZgN
      rw [List.getD_eq_getElem?_getD (l := l.toList)]
  · have hf' : ¬ q'.Frame.toNat = q.Frame.toNat := by omega
    rw [if_neg hf', if_neg (fun h => hf h.1)]
def disj (a b : api_Place) : Prop := ∀ x, Zjd x a = true → Zjd x b = false
theorem ZlC {l : Vector (List Int) 16} (hl : DatOK l) {q : api_Place} {v : Nat} (hq : placeR q) (h0 : chunk l q = 0) (hv : v < 2 ^ q.Bits.toNat) : DatOK (wr l (q, v)) ∧ chunk (wr l (q, v)) q = v ∧ ∀ q', placeR q' → disj q q' → chunk (wr l (q, v)) q' = chunk l q' := by
  have hm := Zhm (l := l) hq
  obtain ⟨h58, hd⟩ := hl _ (List.mem_of_getElem? hm)
  have hdat : ZcQ l q ≤ 2047 := by obtain ⟨_, _, _, h⟩ := ZlJ hl hq; exact h
  refine ⟨?_, ?_, ?_⟩
  · intro y hy
    obtain ⟨k, hk⟩ := List.getElem?_of_mem hy
    rw [Zir hq] at hk
    split at hk
    · cases hk
      refine ⟨by simpa using h58, fun d hdm => ?_⟩
      rcases List.mem_or_eq_of_mem_set hdm with h | rfl
      · exact hd d h
      · have := Zlm h0 hv hdat (by obtain ⟨_, _, h3, h4, h5⟩ := hq; omega)
        omega
    · exact hl y (List.mem_of_getElem? hk)
  · unfold chunk
    rw [ZjN hl hq hq, if_pos ⟨rfl, rfl⟩]
    exact ZjO h0 hv
  · intro q' hq' hdis
    unfold chunk
    rw [ZjN hl hq hq']
    split
    · rename_i h
      have e : ZcQ l q' = ZcQ l q := by unfold ZcQ; rw [h.1, h.2]
      rw [e]
      refine ZiX h0 hv ?_
      obtain ⟨_, _, h3, h4, h5⟩ := hq
      obtain ⟨_, _, g3, g4, g5⟩ := hq'
      rcases Nat.lt_or_ge q'.Low.toNat (q.Low.toNat + q.Bits.toNat) with c1 | c1
      · rcases Nat.lt_or_ge q.Low.toNat (q'.Low.toNat + q'.Bits.toNat) with c2 | c2
        · exfalso
          by_cases hle : q.Low ≤ q'.Low
          · have := hdis ⟨q.Frame, q.Word, q'.Low⟩ (by simp [Zjd]; omega)
            simp [Zjd, h.1, h.2] at this
            omega
          · have := hdis ⟨q.Frame, q.Word, q.Low⟩ (by simp [Zjd]; omega)
            simp [Zjd, h.1, h.2] at this
            omega
        · exact .inr c2
      · exact .inl c1
    · rfl
end Go.Vx

namespace Go.Vx
open Go Go.RowKit
abbrev WL := List (api_Place × Nat)
structure Pre (out : Vector (List Int) 16) (W : WL) (ver : Int) : Prop where
  dat : DatOK out
  pl : ∀ w ∈ W, placeR w.1 ∧ w.2 < 2 ^ w.1.Bits.toNat ∧ chunk out w.1 = 0
  dis : W.Pairwise fun a b => disj a.1 b.1
  ver : ∀ x ∈ out.toList, x.getD 0 0 = ver
theorem ZlA {l : Vector (List Int) 16} {ver : Int} (h : ∀ x ∈ l.toList, x.getD 0 0 = ver) {q : api_Place} {v : Nat} (hq : placeR q) : ∀ x ∈ (wr l (q, v)).toList, x.getD 0 0 = ver := by
  intro x hx
  obtain ⟨k, hk⟩ := List.getElem?_of_mem hx
  rw [Zir hq] at hk
  split at hk
  · cases hk
    have := h _ (List.mem_of_getElem? (Zhm (l := l) hq))
    obtain ⟨_, a, _⟩ := hq
    rw [List.getD_eq_getElem?_getD, List.getElem?_set_ne (by omega), ← List.getD_eq_getElem?_getD]
    exact this
  · exact h x (List.mem_of_getElem? hk)
theorem Pre.step {out : Vector (List Int) 16} {w : api_Place × Nat} {W : WL} {ver : Int} (h : Pre out (w :: W) ver) : Pre (wr out w) W ver := by
  obtain ⟨q, v⟩ := w
  obtain ⟨h1, h2, h3⟩ := h.pl _ List.mem_cons_self
  obtain ⟨g1, g2, g3⟩ := ZlC h.dat h1 h3 h2
  have hd := List.pairwise_cons.1 h.dis
  refine ⟨g1, fun w hw => ?_, hd.2, ZlA h.ver h1⟩
  obtain ⟨a1, a2, a3⟩ := h.pl w (List.mem_cons_of_mem _ hw)
  exact ⟨a1, a2, by rw [g3 _ a1 (hd.1 w hw)]; exact a3⟩
def wrF : Vector (List Int) 16 → WL → Vector (List Int) 16
  | out, [] => out
  | out, w :: W => wrF (wr out w) W
theorem Pre.app {ver : Int} : ∀ {W1 W2 : WL} {out : Vector (List Int) 16}, Pre out (W1 ++ W2) ver → Pre (wrF out W1) W2 ver
  | [], _, _, h => h
  | w :: W1, W2, out, h => Pre.app (W1 := W1) (Pre.step (by simpa using h))
theorem Pre.left {ver : Int} {W1 W2 : WL} {out : Vector (List Int) 16} (h : Pre out (W1 ++ W2) ver) : Pre out W1 ver :=
  ⟨h.dat, fun w hw => h.pl w (List.mem_append_left _ hw), (List.pairwise_append.1 h.dis).1, h.ver⟩
end Go.Vx

namespace Go.Vx
open Go Go.RowKit
end Go.Vx

namespace Go.Vx
open Go Go.RowKit
end Go.Vx

namespace Go.Vx
open Go Go.RowKit
theorem Zfp {p : api_Param} (h : Zez p = 0) : p.Names.length ≤ 64 := by
  unfold Zez at h
  by_cases h1 : nmL p.Name = true
  case neg => rw [if_neg h1] at h; cases h
  rw [if_pos h1] at h
  by_cases h2 : wiL p.Kind 1 6 = true
  case neg => rw [if_neg h2] at h; cases h
  rw [if_pos h2] at h
  by_cases h3 : Zdm p = 0
  case neg => rw [if_neg h3] at h; exact absurd h h3
  rw [if_pos h3] at h
  by_cases h4 : Zd8 p = 0
  case neg => rw [if_neg h4] at h; exact absurd h h4
  rw [if_pos h4] at h
  by_cases h5 : ZgA p = 0
  case neg => rw [if_neg h5] at h; exact absurd h h5
  unfold ZgA at h5
  split at h5
  · cases h5
  · split at h5
    · split at h5
      · cases h5
      · split at h5
        · cases h5
        · rename_i b
          simp only [Bool.or_eq_true, decide_eq_true_eq, not_or] at b
          omega
    · split at h5
      · cases h5
      · omega
theorem ZfV {m : api_Map} (h : Xw m = 0) : ∀ x ∈ m.Params, Zez x = 0 := by
  have hm := Xn h
  unfold Xw at h
  by_cases h1 : wiL m.Version 0 2047 = true
  case neg => rw [if_neg h1] at h; cases h
  rw [if_pos h1, if_pos hm.len] at h
  intro x hx
  obtain ⟨k, hk⟩ := List.getElem?_of_mem hx
  cases hf : ZJ (g1M m.Params) 0 m.Params with
  | some e =>
    exfalso
    rw [hf] at h
    have key : ∀ (l : List api_Param) (k : Nat) (tl : List api_Param) (e : Int × Int), ZJ (g1M l) k tl = some e → e.2 ≠ 0 := by
      intro l k tl
      induction tl generalizing k with
      | nil => intro e h; cases h
      | cons x tl ih =>
        intro e h
        simp only [ZJ] at h
        cases hg : g1M l k x with
        | some e' =>
          rw [hg] at h
          cases h
          unfold g1M at hg
          split at hg
          · split at hg
            · cases hg; exact (by decide : (5 : Int) ≠ 0)
            · cases hg
          · rename_i hne; cases hg; exact hne
        | none => rw [hg] at h; exact ih _ _ h
    exact key _ _ _ _ hf h
  | none =>
    have := Zc0 0 m.Params hf k x hk
    unfold g1M at this
    by_cases hc : Zez x = 0
    · exact hc
    · rw [if_neg hc] at this; cases this
theorem Zi3 {α : Type} {l : List α} {body : Int → Option (Int ⊕ Bool ⊕ Unit)} (h : ∀ (k : Nat) x, l[k]? = some x → body k = some (.inl ((k : Int) + 1))) (he : body l.length = some (.inr (.inr ()))) : loop (t1 body) 0 = some (.inr ()) := by
  have hL := ZbT (xs := l) (fun _ => (none : Option Unit)) (fun _ => (Sum.inl false : Bool ⊕ Unit)) (Sum.inr ()) (body := body) (fun k x hx => h k x hx) he
  have fl : ∀ l : List α, ZbK (fun _ : α => (none : Option Unit)) l = none := by
    intro l
    induction l with
    | nil => rfl
    | cons x l ih => exact ih
  rw [hL, fl]; rfl
end Go.Vx

namespace Go.Vx
open Go Go.RowKit
noncomputable def eqb {α : Type} (a b : α) : Bool := @decide (a = b) (Classical.propDecidable _)
theorem Zc5 {α : Type} {a b : α} : eqb a b = true ↔ a = b := by simp [eqb]
theorem Zjx {α : Type} (a : α) : eqb a a = true := Zc5.2 rfl
theorem Zih {α : Type} {a b : α} (h : a ≠ b) : eqb a b = false := by simp [eqb, h]
theorem Zhu {α : Type} {e : α → α → Bool} (he : ∀ x y, e x y = true ↔ x = y) {a b : List α} (hl : a.length = b.length) {body : Int → Option (Int ⊕ Bool ⊕ Unit)}
    (hb : ∀ (k : Nat) x y, a[k]? = some x → b[k]? = some y → body k = if (!e x y) = true then some (.inr (.inl false)) else some (.inl ((k : Int) + 1))) (hend : body a.length = some (.inr (.inr ()))) :
    (loop (t1 body) 0).bind (Sum.elim (fun q' => some q') (t0 (some true))) = some (eqb a b) := by
  have := Zge (xs := a) (body := body) (F := fun k => if eqb (a.drop k) (b.drop k) = true then (Sum.inr () : Bool ⊕ Unit) else .inl false) (fun k x hx => by
    have hk := (List.getElem?_eq_some_iff.1 hx).1
    obtain ⟨y, hy⟩ := Jt (xs := b) (k := k) (by omega)
    rw [hb k x y hx hy, ZW hx, ZW hy]
    by_cases h : e x y = true
    · left
      have := (he x y).1 h
      subst this
      refine ⟨by simp [h], ?_⟩
      have : eqb (x :: a.drop (k + 1)) (x :: b.drop (k + 1)) = eqb (a.drop (k + 1)) (b.drop (k + 1)) := by
        rw [Bool.eq_iff_iff, Zc5, Zc5]; simp
      rw [this]
    · right
      have h' : ¬ x = y := fun e' => h ((he x y).2 e')
      have : eqb (x :: a.drop (k + 1)) (y :: b.drop (k + 1)) = false := Zih (by simp [h'])
      rw [this]
      simp only [Bool.not_eq_true] at h
      simp [h]) (by rw [hend]; simp [hl, eqb])
  rw [this]
  simp only [List.drop_zero, Option.bind_some]
  cases h : eqb a b <;> rfl
theorem ZfZ {a b : List Str} (h : a.length ≤ 9223372036854775807) : ZK a b = some (eqb a b) := by
  unfold ZK
  by_cases hl : a.length = b.length
  · rw [if_neg (by simp [hl])]
    refine Zhu (e := fun x y => decide (x = y)) (fun x y => by simp) hl (fun k x y hx hy => ?_) (by simp [Qk])
    have hlt := QH hx
    simp only [Qk, hlt, decide_true, if_true, ZS hx, ZS hy, Option.bind_some]
    rw [Qv (by omega) (by omega)]
  · rw [if_pos (by simp; omega), Zih (fun e => hl (by rw [e]))]
theorem ZkG (x y : api_Part) : (decide (x.Frame = y.Frame) && (decide (x.Word = y.Word) && (decide (x.Low = y.Low) && (decide (x.Bits = y.Bits) && true)))) = true ↔ x = y := by
  cases x; cases y; simp
theorem Zfx {a b : List api_Part} (h : a.length ≤ 9223372036854775807) : ZE a b = some (eqb a b) := by
  unfold ZE
  by_cases hl : a.length = b.length
  · rw [if_neg (by simp [hl])]
    refine Zhu (fun x y => ZkG x y) hl (fun k x y hx hy => ?_) (by simp [Z5])
    have hlt := QH hx
    simp only [Z5, hlt, decide_true, if_true, ZS hx, ZS hy, Option.bind_some]
    rw [Qv (by omega) (by omega)]
  · rw [if_pos (by simp; omega), Zih (fun e => hl (by rw [e]))]
theorem Zj1 (a b : List Str) : ZaS a b = ZK a b := rfl
theorem Zj3 (a b : List api_Part) : Za2 a b = ZE a b := rfl
def Zah (l : List api_Param) (s : Str) : Option api_Param := l.find? fun p => decide (p.Name = s)
def ZjA : Option api_Param → Unit ⊕ api_Param
  | none => .inl ()
  | some p => .inr p
def okO : Option api_Param → api_Param × Bool
  | none => (api_Param.mk [] 0 [] 0 0 0 0 [], false)
  | some p => (p, true)
theorem Zg3 (s : Str) : ∀ l : List api_Param, ZbK (fun p => if p.Name = s then some p else none) l = Zah l s
  | [] => rfl
  | x :: l => by
    by_cases h : x.Name = s
    · simp [ZbK, Zah, h]
    · have := Zg3 s l
      simp [ZbK, Zah, h] at this ⊢
      exact this
theorem ZjV {m : api_Map} (hl : m.Params.length ≤ 200) (s : Str) : XY m s = some (ZjA (Zah m.Params s)) := by
  have hL := ZbT (xs := m.Params) (fun p => if p.Name = s then some p else none) (fun p => (Sum.inl (Sum.inr p) : ((Unit) ⊕ (api_Param)) ⊕ Unit)) (Sum.inr ()) (body := JG m s) (fun k x hx => by
    have hlt := QH hx
    simp only [JG, hlt, decide_true, if_true, ZS hx, Option.bind_some]
    rw [Qv (by omega) (by omega)]
    by_cases hn : x.Name = s <;> simp [hn]) (by simp [JG])
  unfold XY
  rw [hL, Zg3]
  cases Zah m.Params s <;> rfl
theorem ZiD {m : api_Map} (hl : m.Params.length ≤ 200) (s : Str) : Zaz m s = some (okO (Zah m.Params s)) := by
  have hL := ZbT (xs := m.Params) (fun p => if p.Name = s then some p else none) (fun p => (Sum.inl (p, true) : (api_Param × Bool) ⊕ Unit)) (Sum.inr ()) (body := ZaD m s) (fun k x hx => by
    have hlt := QH hx
    simp only [ZaD, hlt, decide_true, if_true, ZS hx, Option.bind_some]
    rw [Qv (by omega) (by omega)]
    by_cases hn : x.Name = s <;> simp [hn]) (by simp [ZaD])
  unfold Zaz
  rw [hL, Zg3]
  cases Zah m.Params s <;> rfl
theorem ZcL {l : List api_Param} {s : Str} {p : api_Param} (h : Zah l s = some p) : p ∈ l ∧ p.Name = s := by
  unfold Zah at h
  exact ⟨List.mem_of_find?_eq_some h, by simpa using List.find?_some h⟩
theorem Zf1 {l : List api_Param} {s : Str} (h : Zah l s = none) : ∀ p ∈ l, p.Name ≠ s := by
  unfold Zah at h
  intro p hp
  have := List.find?_eq_none.1 h p hp
  simpa using this
noncomputable def Zdr (p q : api_Param) : Bool := (!decide (p.Kind = q.Kind)) || (!decide (bitsN p = bitsN q)) || (!eqb p.Names q.Names)
noncomputable def Zfd (p q : api_Param) : Bool := (!eqb p.Parts q.Parts) || (!decide (p.First = q.First)) || (!decide (p.Every = q.Every)) || (!decide (p.Times = q.Times)) || (!decide (p.Step = q.Step))
noncomputable def chg (l : List api_Param) (p : api_Param) : List api_MapChange := match Zah l p.Name with
  | none => [⟨p.Name, 1⟩]
  | some q => (if Zdr p q = true then [⟨p.Name, 4⟩] else []) ++ (if Zfd p q = true then [⟨p.Name, 3⟩] else [])
def Zf5 (l : List api_Param) (q : api_Param) : List api_MapChange := match Zah l q.Name with
  | none => [⟨q.Name, 2⟩]
  | some _ => []
theorem ZeJ (l : List api_Param) (p : api_Param) : (chg l p).length ≤ 2 := by
  unfold chg; split
  · simp
  · split <;> split <;> simp
theorem Zgd (l : List api_Param) (p : api_Param) : (Zf5 l p).length ≤ 1 := by
  unfold Zf5; split <;> simp
theorem ZdV {xs : List api_Param} (hl : xs.length ≤ 200) {c0 : Nat} {g : api_Param → List api_MapChange} (hg : ∀ x, (g x).length ≤ 2) {body : List api_MapChange → Int → Option ((List api_MapChange × Int) ⊕ List api_MapChange)}
    (hb : ∀ (acc : List api_MapChange) (k : Nat) x, xs[k]? = some x → acc.length ≤ c0 + 2 * k → body acc k = some (.inl (acc ++ g x, (k : Int) + 1))) (he : ∀ acc, body acc xs.length = some (.inr acc)) {a0 : List api_MapChange} (h0 : a0.length ≤ c0) :
    loop (t2 body) (a0, 0) = some (a0 ++ xs.flatMap g) := by
  have := Zct (xs := xs) (body := body) (I := fun acc k => acc.length ≤ c0 + 2 * k) (F := fun acc k => acc ++ (xs.drop k).flatMap g)
    (fun acc k x hI hx => by
      left
      refine ⟨_, hb acc k x hx hI, ?_, ?_⟩
      · have := hg x; simp; omega
      · rw [ZW hx, List.flatMap_cons, List.append_assoc])
    (fun acc hI => by rw [he]; simp) (a0 := a0) (by simpa using h0)
  simpa using this
theorem Zhp {name : Str} {kind : Int} {c0 : List api_MapChange} (h : c0.length ≤ 1000) : Qp name kind c0 = some (c0 ++ [⟨name, kind⟩]) := by
  unfold Qp
  rw [Zer (by simp; omega)]
  rfl
theorem Zmh {a b : api_Map} (ha : Xw a = 0) (hb : Xw b = 0) : loop (t2 (XR a b)) ([], 0) = some (a.Params.flatMap (chg b.Params)) := by
  have la := (Xn ha).len
  have lb := (Xn hb).len
  have := ZdV (xs := a.Params) la (c0 := 0) (g := chg b.Params) (ZeJ _) (body := XR a b) (fun acc k x hx hI => by
    have hlt := QH hx
    have hk := (List.getElem?_eq_some_iff.1 hx).1
    have hxm := List.mem_of_getElem? hx
    have e1 : i64 ((k : Int) + 1) = (k : Int) + 1 := Qv (by omega) (by omega)
    simp only [XR, hlt, decide_true, if_true, ZS hx, Option.bind_some, ZjV lb, chg, e1]
    cases hf : Zah b.Params x.Name with
    | none => simp only [ZjA, Sum.elim_inl]; rw [Zhp (by omega)]; rfl
    | some q =>
      obtain ⟨hq, _⟩ := ZcL hf
      have b1 := ZdT ((Xn ha).par x hxm).len
      have b2 := ZdT ((Xn hb).par q hq).len
      have n1 := Zfp (ZfV ha x hxm)
      have p1 := ((Xn ha).par x hxm).len.1
      simp only [ZjA, Sum.elim_inr, Bool.false_eq_true, if_false, b1, b2, ZfZ (a := x.Names) (b := q.Names) (by omega), Zfx (a := x.Parts) (b := q.Parts) (by omega)]
      have hK : (Zdr x q = true ∧ ((gd ((!decide (x.Kind = q.Kind)) == false) 0 (some (bitsN x))).bind fun y4 => (gd ((!decide (x.Kind = q.Kind)) == false) 0 (some (bitsN q))).bind fun y5 => (gd (((!decide (x.Kind = q.Kind)) || (!decide (y4 = y5))) == false) false (some (eqb x.Names q.Names))).bind fun y6 =>
          if (((!decide (x.Kind = q.Kind)) || (!decide (y4 = y5))) || (!y6)) = true then (Qp x.Name 4 acc).bind fun y7 => some y7 else some acc) = some (acc ++ [⟨x.Name, 4⟩])) ∨
          (Zdr x q = false ∧ ((gd ((!decide (x.Kind = q.Kind)) == false) 0 (some (bitsN x))).bind fun y4 => (gd ((!decide (x.Kind = q.Kind)) == false) 0 (some (bitsN q))).bind fun y5 => (gd (((!decide (x.Kind = q.Kind)) || (!decide (y4 = y5))) == false) false (some (eqb x.Names q.Names))).bind fun y6 =>
          if (((!decide (x.Kind = q.Kind)) || (!decide (y4 = y5))) || (!y6)) = true then (Qp x.Name 4 acc).bind fun y7 => some y7 else some acc) = some acc) := by
        unfold Zdr
        rw [Zhp (by omega)]
        by_cases k1 : x.Kind = q.Kind
        · by_cases k2 : bitsN x = bitsN q
          · cases k3 : eqb x.Names q.Names <;> simp [k1, k2]
          · simp [k1, k2]
        · simp [k1]
      have hM : ∀ out : List api_MapChange, out.length ≤ 1000 → (if ((((!eqb x.Parts q.Parts || !decide (x.First = q.First)) || !decide (x.Every = q.Every)) || !decide (x.Times = q.Times)) || !decide (x.Step = q.Step)) = true then (Qp x.Name 3 out).bind fun y9 => some (Sum.inl (y9, (k : Int) + 1)) else some (Sum.inl (out, (k : Int) + 1))) =
          some (Sum.inl (out ++ (if Zfd x q = true then [⟨x.Name, 3⟩] else []), (k : Int) + 1) : (List api_MapChange × Int) ⊕ List api_MapChange) := by
        intro out ho
        unfold Zfd
        rw [Zhp ho]
        split <;> simp
      rcases hK with ⟨g1, g2⟩ | ⟨g1, g2⟩
      · rw [g2, g1]
        simp only [Option.bind_some, Zfb, if_true]
        rw [hM _ (by simp; omega), List.append_assoc]
      · rw [g2, g1]
        simp only [Option.bind_some, Zfb, Bool.false_eq_true, if_false, List.nil_append]
        exact hM _ (by omega)) (fun acc => by simp [XR]) (a0 := []) (by simp)
  simpa using this
theorem ZlP {a b : api_Map} (ha : Xw a = 0) (hb : Xw b = 0) : loop (t2 (X7 a b)) ([], 0) = some (a.Params.flatMap (chg b.Params)) := by
  have la := (Xn ha).len
  have lb := (Xn hb).len
  have ap : ∀ (l : List api_MapChange) (x : api_MapChange), l.length ≤ 1000 → app l [x] = some (l ++ [x]) := fun l x h => Zer (by simp; omega)
  have := ZdV (xs := a.Params) la (c0 := 0) (g := chg b.Params) (ZeJ _) (body := X7 a b) (fun acc k x hx hI => by
    have hlt := QH hx
    have hk := (List.getElem?_eq_some_iff.1 hx).1
    have hxm := List.mem_of_getElem? hx
    have e1 : i64 ((k : Int) + 1) = (k : Int) + 1 := Qv (by omega) (by omega)
    have hr := ZiD lb x.Name
    cases hf : Zah b.Params x.Name with
    | none =>
      rw [hf] at hr
      have hr' : Zaz b x.Name = some (api_Param.mk [] 0 [] 0 0 0 0 [], false) := hr
      simp only [X7, hlt, decide_true, if_true, ZS hx, Option.bind_some, hr', chg, hf, e1, Bool.not_false]
      rw [ap _ _ (by omega)]; rfl
    | some q =>
      rw [hf] at hr
      have hr' : Zaz b x.Name = some (q, true) := hr
      obtain ⟨hq, _⟩ := ZcL hf
      have b1 := ZdT ((Xn ha).par x hxm).len
      have b2 := ZdT ((Xn hb).par q hq).len
      have n1 := Zfp (ZfV ha x hxm)
      have p1 := ((Xn ha).par x hxm).len.1
      simp only [X7, hlt, decide_true, if_true, ZS hx, Option.bind_some, hr', chg, hf, e1, Bool.not_true, Bool.false_eq_true, if_false, Zg8, b1, b2, Zj1, Zj3, ZfZ (a := x.Names) (b := q.Names) (by omega), Zfx (a := x.Parts) (b := q.Parts) (by omega)]
      have hK : (Zdr x q = true ∧ ((gd ((!decide (x.Kind = q.Kind)) == false) 0 (some (bitsN x))).bind fun y4 => (gd ((!decide (x.Kind = q.Kind)) == false) 0 (some (bitsN q))).bind fun y5 => (gd (((!decide (x.Kind = q.Kind)) || (!decide (y4 = y5))) == false) false (some (eqb x.Names q.Names))).bind fun y6 =>
          if (((!decide (x.Kind = q.Kind)) || (!decide (y4 = y5))) || (!y6)) = true then (app acc ([(api_MapChange.mk x.Name 4)] : List api_MapChange)).bind fun y7 => some y7 else some acc) = some (acc ++ [⟨x.Name, 4⟩])) ∨
          (Zdr x q = false ∧ ((gd ((!decide (x.Kind = q.Kind)) == false) 0 (some (bitsN x))).bind fun y4 => (gd ((!decide (x.Kind = q.Kind)) == false) 0 (some (bitsN q))).bind fun y5 => (gd (((!decide (x.Kind = q.Kind)) || (!decide (y4 = y5))) == false) false (some (eqb x.Names q.Names))).bind fun y6 =>
          if (((!decide (x.Kind = q.Kind)) || (!decide (y4 = y5))) || (!y6)) = true then (app acc ([(api_MapChange.mk x.Name 4)] : List api_MapChange)).bind fun y7 => some y7 else some acc) = some acc) := by
        unfold Zdr
        rw [ap _ _ (by omega)]
        by_cases k1 : x.Kind = q.Kind
        · by_cases k2 : bitsN x = bitsN q
          · cases k3 : eqb x.Names q.Names <;> simp [k1, k2]
          · simp [k1, k2]
        · simp [k1]
      have hM : ∀ out : List api_MapChange, out.length ≤ 1000 → (if ((((!eqb x.Parts q.Parts || !decide (x.First = q.First)) || !decide (x.Every = q.Every)) || !decide (x.Times = q.Times)) || !decide (x.Step = q.Step)) = true then (app out ([(api_MapChange.mk x.Name 3)] : List api_MapChange)).bind fun y9 => some (Sum.inl (y9, (k : Int) + 1)) else some (Sum.inl (out, (k : Int) + 1))) =
          some (Sum.inl (out ++ (if Zfd x q = true then [⟨x.Name, 3⟩] else []), (k : Int) + 1) : (List api_MapChange × Int) ⊕ List api_MapChange) := by
        intro out ho
        unfold Zfd
        rw [ap _ _ ho]
        split <;> simp
      rcases hK with ⟨g1, g2⟩ | ⟨g1, g2⟩
      · rw [g2, g1]
        simp only [Option.bind_some, Zfb, if_true]
        rw [hM _ (by simp; omega), List.append_assoc]
      · rw [g2, g1]
        simp only [Option.bind_some, Zfb, Bool.false_eq_true, if_false, List.nil_append]
        exact hM _ (by omega)) (fun acc => by simp [X7]) (a0 := []) (by simp)
  simpa using this
theorem Zma {a b : api_Map} (ha : Xw a = 0) (hb : Xw b = 0) {o : List api_MapChange} (ho : o.length ≤ 400) : loop (t2 (XP a b)) (o, 0) = some (o ++ b.Params.flatMap (Zf5 a.Params)) := by
  have la := (Xn ha).len
  have lb := (Xn hb).len
  refine ZdV (xs := b.Params) lb (c0 := 400) (g := Zf5 a.Params) (fun x => by have := Zgd a.Params x; omega) (body := XP a b) (fun acc k x hx hI => ?_) (fun acc => by simp [XP]) ho
  have hlt := QH hx
  have hk := (List.getElem?_eq_some_iff.1 hx).1
  have e1 : i64 ((k : Int) + 1) = (k : Int) + 1 := Qv (by omega) (by omega)
  simp only [XP, hlt, decide_true, if_true, ZS hx, Option.bind_some, ZjV la, Zf5, e1]
  cases hf : Zah a.Params x.Name with
  | none => simp only [ZjA, Sum.elim_inl]; rw [Zhp (by omega)]; rfl
  | some q => simp [ZjA]
theorem ZlM {a b : api_Map} (ha : Xw a = 0) (hb : Xw b = 0) {o : List api_MapChange} (ho : o.length ≤ 400) : loop (t2 (JN a b)) (o, 0) = some (o ++ b.Params.flatMap (Zf5 a.Params)) := by
  have la := (Xn ha).len
  have lb := (Xn hb).len
  refine ZdV (xs := b.Params) lb (c0 := 400) (g := Zf5 a.Params) (fun x => by have := Zgd a.Params x; omega) (body := JN a b) (fun acc k x hx hI => ?_) (fun acc => by simp [JN]) ho
  have hlt := QH hx
  have hk := (List.getElem?_eq_some_iff.1 hx).1
  have e1 : i64 ((k : Int) + 1) = (k : Int) + 1 := Qv (by omega) (by omega)
  simp only [JN, hlt, decide_true, if_true, ZS hx, Option.bind_some, ZiD la, Zf5, e1]
  cases hf : Zah a.Params x.Name with
  | none => simp only [okO, Bool.not_false, if_true]; rw [Zer (by simp; omega)]; rfl
  | some q => simp [okO]
noncomputable def Zhy (a b : api_Map) : List api_MapChange := a.Params.flatMap (chg b.Params) ++ b.Params.flatMap (Zf5 a.Params)
noncomputable def Zdd (a b : api_Map) : List api_MapChange × Int := if Xw a = 0 then (if Xw b = 0 then (Zhy a b, 0) else ([], Xw b)) else ([], Xw a)
theorem ZdG {g : api_Param → List api_MapChange} {n : Nat} (hg : ∀ x, (g x).length ≤ n) : ∀ l : List api_Param, (l.flatMap g).length ≤ n * l.length
  | [] => by simp
  | x :: l => by
    have := ZdG hg l
    have := hg x
    rw [List.flatMap_cons, List.length_append, List.length_cons, Nat.mul_succ]
    omega
theorem ZlE {a b : api_Map} {body : Int → Option (Int ⊕ (List api_MapChange × Int) ⊕ Unit)} {chk : api_Map → Option (Int × Int)} (hc : ∀ m, m = a ∨ m = b → ∃ i, chk m = some (i, Xw m))
    (hb : body = fun i => if (decide (i < (([a, b] : List api_Map).length : Int))) = true then (idx ([a, b] : List api_Map) i).bind fun x => (chk x).bind fun y => if (!decide (y.2 = 0)) = true then some (.inr (.inl ([], y.2))) else some (.inl (i64 (i + 1))) else some (.inr (.inr ()))) :
    loop (t1 body) 0 = some (if Xw a = 0 then (if Xw b = 0 then .inr () else .inl ([], Xw b)) else .inl ([], Xw a)) := by
  have hL := ZbT (xs := [a, b]) (fun m => if Xw m = 0 then none else some (Xw m)) (fun e => (Sum.inl (([] : List api_MapChange), e) : (List api_MapChange × Int) ⊕ Unit)) (Sum.inr ()) (body := body) (fun k x hx => by
    have hlt := QH hx
    have hk := (List.getElem?_eq_some_iff.1 hx).1
    simp only [List.length_cons, List.length_nil] at hk
    have hxm : x = a ∨ x = b := by simpa using List.mem_of_getElem? hx
    obtain ⟨i, hi⟩ := hc x hxm
    rw [hb]
    simp only [hlt, decide_true, if_true, ZS hx, Option.bind_some, hi]
    rw [Qv (by omega) (by omega)]
    by_cases h : Xw x = 0 <;> simp [h]) (by rw [hb]; simp)
  rw [hL]
  by_cases h1 : Xw a = 0
  · by_cases h2 : Xw b = 0 <;> simp [ZbK, h1, h2]
  · simp [ZbK, h1]
theorem Zk9 (a b : api_Map) : ZbB a b = some (Zdd a b) := by
  unfold ZbB Zdd
  rw [ZlE (a := a) (b := b) (body := ZbV a b) (chk := QX) (fun m _ => Zke m) rfl]
  by_cases ha : Xw a = 0
  · by_cases hb : Xw b = 0
    · simp only [if_pos ha, if_pos hb, Option.bind_some, Sum.elim_inr, t0]
      rw [Zmh ha hb]
      simp only [Option.bind_some, Zfb]
      have := ZdG (ZeJ b.Params) a.Params
      have := (Xn ha).len
      rw [Zma ha hb (by omega)]
      rfl
    · simp [ha, hb]
  · simp [ha]
theorem ZkC (a b : api_Map) (hsa : Zav a) (hsb : Zav b) : ZcA a b = some (Zdd a b) := by
  unfold ZcA Zdd
  rw [ZlE (a := a) (b := b) (body := Zc2 a b) (chk := Za9) (fun m hm => Zkj m (by rcases hm with rfl | rfl <;> assumption)) rfl]
  by_cases ha : Xw a = 0
  · by_cases hb : Xw b = 0
    · simp only [if_pos ha, if_pos hb, Option.bind_some, Sum.elim_inr, t0]
      rw [ZlP ha hb]
      simp only [Option.bind_some, Zfb]
      have := ZdG (ZeJ b.Params) a.Params
      have := (Xn ha).len
      rw [ZlM ha hb (by omega)]
      rfl
    · simp [ha, hb]
  · simp [ha]
theorem ZiC {p q : api_Param} (h1 : p.Name = q.Name) (h2 : p.Kind = q.Kind) (h3 : p.Parts = q.Parts) (h4 : p.First = q.First) (h5 : p.Every = q.Every) (h6 : p.Times = q.Times) (h7 : p.Step = q.Step) (h8 : p.Names = q.Names) : p = q := by
  cases p; cases q; simp_all
theorem ZiW {p q : api_Param} (h1 : p.Parts.length ≤ 1000) (h2 : p.Names.length ≤ 1000) : JC p q = some (eqb p q) := by
  unfold JC
  rw [Zfx (by omega), ZfZ (by omega)]
  have key : eqb p q = ((((((((decide (p.Name = q.Name)) && (decide (p.Kind = q.Kind))) && eqb p.Parts q.Parts) && (decide (p.First = q.First))) && (decide (p.Every = q.Every))) && (decide (p.Times = q.Times))) && (decide (p.Step = q.Step))) && eqb p.Names q.Names) := by
    rw [Bool.eq_iff_iff, Zc5]
    simp only [Bool.and_eq_true, decide_eq_true_eq, Zc5]
    constructor
    · rintro rfl; simp
    · rintro ⟨⟨⟨⟨⟨⟨⟨h1, h2⟩, h3⟩, h4⟩, h5⟩, h6⟩, h7⟩, h8⟩
      exact ZiC h1 h2 h3 h4 h5 h6 h7 h8
  rw [key]
  cases h1 : (decide (p.Name = q.Name) && decide (p.Kind = q.Kind))
  · simp
  · simp only [Zjp, Option.bind_some, Bool.true_and]
    cases (((((eqb p.Parts q.Parts) && (decide (p.First = q.First))) && (decide (p.Every = q.Every))) && (decide (p.Times = q.Times))) && (decide (p.Step = q.Step)))
    · simp
    · simp
theorem Zk4 {m : api_Map} (h : Xw m = 0) : (m.Params.map (·.Name)).Nodup := by
  have h0 := Xn h
  have hh := h
  have key : ∀ (k : Nat) x, m.Params[k]? = some x → ∀ y ∈ m.Params.take k, y.Name ≠ x.Name := by
    unfold Xw at h
    by_cases h1 : wiL m.Version 0 2047 = true
    case neg => rw [if_neg h1] at h; cases h
    rw [if_pos h1, if_pos h0.len] at h
    intro k x hk y hy e
    cases hf : ZJ (g1M m.Params) 0 m.Params with
    | some e =>
      rw [hf] at h
      have key : ∀ (l : List api_Param) (k : Nat) (tl : List api_Param) (e : Int × Int), ZJ (g1M l) k tl = some e → e.2 ≠ 0 := by
        intro l k tl
        induction tl generalizing k with
        | nil => intro e h; cases h
        | cons x tl ih =>
          intro e h
          simp only [ZJ] at h
          cases hg : g1M l k x with
          | some e' =>
            rw [hg] at h
            cases h
            unfold g1M at hg
            split at hg
            · split at hg
              · cases hg; exact (by decide : (5 : Int) ≠ 0)
              · cases hg
            · rename_i hne; cases hg; exact hne
          | none => rw [hg] at h; exact ih _ _ h
      exact key _ _ _ _ hf h
    | none =>
      have := Zc0 0 m.Params hf k x hk
      unfold g1M at this
      rw [if_pos (ZfV hh x (List.mem_of_getElem? hk)), Nat.zero_add] at this
      rw [if_pos (List.any_eq_true.2 ⟨y, hy, by simpa using e⟩)] at this
      cases this
  have gen : ∀ (l pre : List api_Param), (∀ (k : Nat) x, l[k]? = some x → ∀ y ∈ pre ++ l.take k, y.Name ≠ x.Name) → (l.map (·.Name)).Nodup := by
    intro l
    induction l with
    | nil => intro _ _; simp
    | cons x l ih =>
      intro pre hp
      rw [List.map_cons, List.nodup_cons]
      refine ⟨fun hm => ?_, ih (pre ++ [x]) fun k y hy z hz => ?_⟩
      · obtain ⟨y, hy, e⟩ := List.mem_map.1 hm
        obtain ⟨k, hk⟩ := List.getElem?_of_mem hy
        exact hp (k + 1) y (by simpa using hk) x (by simp) e.symm
      · refine hp (k + 1) y (by simpa using hy) z ?_
        simpa using hz
  exact gen m.Params [] (by simpa using key)
theorem ZjQ {a b : api_Map} (ha : Xw a = 0) (hb : Xw b = 0) : Zhy a b = [] ↔ (a.Params.length = b.Params.length ∧ ∀ p ∈ a.Params, p ∈ b.Params) := by
  have ua := Zk4 ha
  have ub := Zk4 hb
  have nd : a.Params.Nodup := List.Pairwise.of_map _ (fun a b h e => h (by rw [e])) ua
  unfold Zhy
  rw [List.append_eq_nil_iff, List.flatMap_eq_nil_iff, List.flatMap_eq_nil_iff]
  constructor
  · rintro ⟨h1, h2⟩
    have h3 : ∀ p ∈ a.Params, p ∈ b.Params := fun p hp => by
      have := h1 p hp
      unfold chg at this
      cases hf : Zah b.Params p.Name with
      | none => rw [hf] at this; cases this
      | some q =>
        rw [hf] at this
        obtain ⟨hq, hn⟩ := ZcL hf
        simp only [List.append_eq_nil_iff] at this
        obtain ⟨g1, g2⟩ := this
        have g1' : Zdr p q = false := by
          cases h : Zdr p q
          · rfl
          · rw [h] at g1; cases g1
        have g2' : Zfd p q = false := by
          cases h : Zfd p q
          · rfl
          · rw [h] at g2; cases g2
        unfold Zdr at g1'
        unfold Zfd at g2'
        simp only [Bool.or_eq_false_iff, Bool.not_eq_false', decide_eq_true_eq, Zc5] at g1' g2'
        obtain ⟨⟨k1, k2⟩, k3⟩ := g1'
        obtain ⟨⟨⟨⟨m1, m2⟩, m3⟩, m4⟩, m5⟩ := g2'
        have : p = q := ZiC hn.symm k1 m1 m2 m3 m4 m5 k3
        exact this ▸ hq
    refine ⟨Nat.le_antisymm (nd.length_le_of_subset h3) ?_, h3⟩
    have : (b.Params.map (·.Name)).length ≤ (a.Params.map (·.Name)).length := ub.length_le_of_subset (fun s hs => by
      obtain ⟨q, hq, rfl⟩ := List.mem_map.1 hs
      have := h2 q hq
      unfold Zf5 at this
      cases hf : Zah a.Params q.Name with
      | none => rw [hf] at this; cases this
      | some p =>
        obtain ⟨hp, hn⟩ := ZcL hf
        exact List.mem_map.2 ⟨p, hp, hn⟩)
    simpa using this
  · rintro ⟨hl, h3⟩
    have inj : ∀ p ∈ b.Params, ∀ q ∈ b.Params, p.Name = q.Name → p = q := by
      have gen : ∀ l : List api_Param, (l.map (·.Name)).Nodup → ∀ p ∈ l, ∀ q ∈ l, p.Name = q.Name → p = q := by
        intro l
        induction l with
        | nil => intro _ p hp; cases hp
        | cons x l ih =>
          intro hn p hp q hq e
          rw [List.map_cons, List.nodup_cons] at hn
          rcases List.mem_cons.1 hp with rfl | hp'
          · rcases List.mem_cons.1 hq with rfl | hq'
            · rfl
            · exact absurd (List.mem_map.2 ⟨q, hq', e.symm⟩) hn.1
          · rcases List.mem_cons.1 hq with rfl | hq'
            · exact absurd (List.mem_map.2 ⟨p, hp', e⟩) hn.1
            · exact ih hn.2 p hp' q hq' e
      exact gen b.Params ub
    have hba : ∀ q ∈ b.Params, q ∈ a.Params := fun q hq => by
      apply Classical.byContradiction
      intro hn
      have : (q :: a.Params).Nodup := List.nodup_cons.2 ⟨hn, nd⟩
      have := this.length_le_of_subset (l₂ := b.Params) (fun x hx => by
        rcases List.mem_cons.1 hx with rfl | hx
        · exact hq
        · exact h3 x hx)
      simp at this
      omega
    refine ⟨fun p hp => ?_, fun q hq => ?_⟩
    · unfold chg
      cases hf : Zah b.Params p.Name with
      | none => exact absurd rfl (Zf1 hf p (h3 p hp))
      | some q =>
        obtain ⟨hq, hn⟩ := ZcL hf
        have : q = p := inj q hq p (h3 p hp) hn
        subst this
        simp [Zdr, Zfd, Zjx]
    · unfold Zf5
      cases hf : Zah a.Params q.Name with
      | none => exact absurd rfl (Zf1 hf q (hba q hq))
      | some p => rfl
theorem Zmm {b : api_Map} (hb : Xw b = 0) {x : api_Param} (h1 : x.Parts.length ≤ 1000) (h2 : x.Names.length ≤ 1000) : loop (t2 (ZO b x)) (false, 0) = some (b.Params.any fun q => eqb x q) := by
  have lb := (Xn hb).len
  have := Zct (xs := b.Params) (body := ZO b x) (I := fun _ _ => True) (F := fun f k => f || ((b.Params.drop k).any fun q => eqb x q))
    (fun f k y _ hy => by
      have hlt := QH hy
      have hk := (List.getElem?_eq_some_iff.1 hy).1
      left
      refine ⟨f || eqb x y, ?_, trivial, ?_⟩
      · simp only [ZO, hlt, decide_true, if_true, ZS hy, Option.bind_some, ZiW h1 h2]
        rw [Qv (by omega) (by omega)]
        cases f <;> simp
      · rw [ZW hy, List.any_cons, Bool.or_assoc])
    (fun f _ => by simp [ZO]) (a0 := false) trivial
  simpa using this
theorem Zme {a b : api_Map} (ha : Xw a = 0) (hb : Xw b = 0) (s0 : Bool) : loop (t2 (ZN a b)) (s0, 0) = some (s0 && a.Params.all fun p => b.Params.any fun q => eqb p q) := by
  have la := (Xn ha).len
  have := Zct (xs := a.Params) (body := ZN a b) (I := fun _ _ => True) (F := fun f k => f && ((a.Params.drop k).all fun p => b.Params.any fun q => eqb p q))
    (fun f k y _ hy => by
      have hlt := QH hy
      have hk := (List.getElem?_eq_some_iff.1 hy).1
      have hym := List.mem_of_getElem? hy
      have n1 := Zfp (ZfV ha y hym)
      have p1 := ((Xn ha).par y hym).len.1
      left
      refine ⟨f && (b.Params.any fun q => eqb y q), ?_, trivial, ?_⟩
      · simp only [ZN, hlt, decide_true, if_true, ZS hy, Option.bind_some, Zmm hb (x := y) (by omega) (by omega), Zfb]
        rw [Qv (by omega) (by omega)]
      · rw [ZW hy, List.all_cons, Bool.and_assoc])
    (fun f _ => by simp [ZN]) (a0 := s0) trivial
  simpa using this
theorem ZkN {l : List api_MapChange} (hl : l.length ≤ 1000) : ZD l l = some true := by
  unfold ZD
  rw [if_neg (by simp), Zi3 (l := l) (fun k x hx => by
    have hlt := QH hx
    simp only [ZI, hlt, decide_true, if_true, ZS hx, Option.bind_some]
    rw [Qv (by omega) (by omega)]
    simp) (by simp [ZI])]
  rfl
theorem Zi0 (a b : api_Map) (hsa : Zav a) (hsb : Zav b) : QD a b = some true := by
  have hlen : (Zdd a b).1.length ≤ 1000 := by
    unfold Zdd
    split
    · rename_i ha
      split
      · rename_i hb
        have h1 := ZdG (ZeJ b.Params) a.Params
        have h2 := ZdG (Zgd a.Params) b.Params
        have := (Xn ha).len
        have := (Xn hb).len
        unfold Zhy
        rw [List.length_append]
        omega
      · simp
    · simp
  unfold QD
  rw [Zk9, ZkC a b hsa hsb]
  simp only [Option.bind_some, ZkN hlen, decide_true, Bool.not_true, Bool.or_false]
  by_cases ha : Xw a = 0
  · by_cases hb : Xw b = 0
    · have e : Zdd a b = (Zhy a b, 0) := by unfold Zdd; rw [if_pos ha, if_pos hb]
      rw [e]
      simp only [decide_true, Bool.not_true, Bool.false_eq_true, if_false, beq_self_eq_true, ZjW, Option.bind_some, Zme ha hb, Zfb]
      have key : ((decide ((a.Params.length : Int) = (b.Params.length : Int))) && (a.Params.all fun p => b.Params.any fun q => eqb p q)) = decide (((Zhy a b).length : Int) = 0) := by
        rw [Bool.eq_iff_iff]
        have h0 : decide (((Zhy a b).length : Int) = 0) = true ↔ Zhy a b = [] := by
          rw [decide_eq_true_eq, ← List.length_eq_zero_iff]; omega
        rw [h0, ZjQ ha hb, Bool.and_eq_true, decide_eq_true_eq, List.all_eq_true]
        simp only [List.any_eq_true, Zc5]
        constructor
        · rintro ⟨h1, h2⟩
          exact ⟨by omega, fun p hp => by obtain ⟨q, hq, rfl⟩ := h2 p hp; exact hq⟩
        · rintro ⟨h1, h2⟩
          exact ⟨by omega, fun p hp => ⟨p, h2 p hp, rfl⟩⟩
      rw [key, Zgo]
      simp
    · have e : Zdd a b = ([], Xw b) := by unfold Zdd; rw [if_pos ha, if_neg hb]
      rw [e]
      simp [hb, Zgo]
  · have e : Zdd a b = ([], Xw a) := by unfold Zdd; rw [if_neg ha]
    rw [e]
    simp [ha, Zgo]
end Go.Vx
