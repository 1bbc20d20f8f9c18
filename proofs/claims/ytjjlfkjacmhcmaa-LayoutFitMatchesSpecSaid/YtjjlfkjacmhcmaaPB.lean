/- A text of the proof: a verified executor of the program form, or the contracts of the functions that the law reaches. -/
import Derived.Test.YtjjlfkjacmhcmaaPA
import Derived.Test.YtjjlfkjacmhcmaaVP
import Derived.Test.YtjjlfkjacmhcmaaShW2
set_option linter.all false
namespace Go.Vx
open Go Go.RowKit
set_option linter.unusedVariables false

noncomputable def Z1 (n : Int) (low : Int) (high : Int) : Option Bool :=
  some ((decide (low ≤ n)) && (decide (n ≤ high)))
theorem Xz (n : Int) (low : Int) (high : Int) : Le (Z1 n low high) (ZW n low high) := by
  unfold Z1 ZW
  with_reducible repeat' (first | exact Le.refl _ | apply Le.bind | intro _)

noncomputable def Js (p : api_Param) (i : Int) : Option ((Int) ⊕ (Int) ⊕ (Unit)) :=
  if (decide (i < (p.Parts.length : Int))) = true then
  (idx p.Parts i).bind fun x =>
  (Z1 x.Frame 0 15).bind fun y =>
  (gd ((!y) == false) false (Z1 x.Word 4 60)).bind fun y2 =>
  (gd (((!y) || (!y2)) == false) false (Z1 x.Low 0 10)).bind fun y3 =>
  (gd ((((!y) || (!y2)) || (!y3)) == false) false (Z1 x.Bits 1 (i64 (11 - x.Low)))).bind fun y4 =>
  if ((((!y) || (!y2)) || (!y3)) || (!y4)) = true then
  some (.inr (.inl 9))
  else
  some (.inl (i64 (i + 1)))
  else
  some (.inr (.inr ()))
theorem Zc1 (p : api_Param) (i : Int) : Le (Js p i) (ZU p i) := by
  unfold Js ZU
  with_reducible repeat' (first | exact Le.refl _ | apply Le.bind | apply Le.ite | apply Le.gd | apply Xz | intro _)

noncomputable def XN (s : List Int) (v : Int) (i : Int) : Option ((Int) ⊕ (Int) ⊕ (Unit)) :=
  if (decide (i < (s.length : Int))) = true then
  (idx s i).bind fun x =>
  if (decide (v = x)) = true then
  some (.inr (.inl i))
  else
  some (.inl (i64 (i + 1)))
  else
  some (.inr (.inr ()))
theorem ZcI (s : List Int) (v : Int) (i : Int) : Le (XN s v i) (ZP s v i) := by
  unfold XN ZP
  with_reducible repeat' (first | exact Le.refl _ | apply Le.bind | apply Le.ite | intro _)

noncomputable def Jt (s : List Int) (v : Int) : Option Int :=
  ((XL (t1 (XN s v)) 0) : Option ((Int) ⊕ (Unit))).bind (Sum.elim (fun q' => some q') (t0 (some (-1))))
theorem Zc4 (s : List Int) (v : Int) : Le (Jt s v) (QJ s v) := by
  unfold Jt QJ
  with_reducible repeat' (first | exact Le.refl _ | apply Le.bind | apply Le.loop | apply Le.t0 | apply Le.t1 | apply Le.elim | apply ZcI | intro _)

noncomputable def XP (s : List Int) (v : Int) : Option Bool :=
  (Jt s v).bind fun y =>
  some (decide (0 ≤ y))
theorem ZcM (s : List Int) (v : Int) : Le (XP s v) (Z3 s v) := by
  unfold XP Z3
  with_reducible repeat' (first | exact Le.refl _ | apply Le.bind | apply Zc4 | intro _)

noncomputable def Ju (p : api_Param) (i2 : Int) : Option ((Int) ⊕ (Int) ⊕ (Unit)) :=
  if (decide (i2 < (p.Parts.length : Int))) = true then
  (idx p.Parts i2).bind fun x2 =>
  if ((decide (60 < p.Step)) || (decide (60 < (i64 (x2.Word + (i64 ((i64 (p.Times - 1)) * p.Step))))))) = true then
  some (.inr (.inl 9))
  else
  some (.inl (i64 (i2 + 1)))
  else
  some (.inr (.inr ()))
theorem ZcZ (p : api_Param) (i2 : Int) : Le (Ju p i2) (Qm p i2) := by
  unfold Ju Qm
  with_reducible repeat' (first | exact Le.refl _ | apply Le.bind | apply Le.ite | intro _)

noncomputable def Zav (p : api_Param) : Option Int :=
  if (decide ((p.Parts.length : Int) = 0)) = true then
  some 13
  else
  if (decide (8 < (p.Parts.length : Int))) = true then
  some 3
  else
  ((XL (t1 (Js p)) 0) : Option ((Int) ⊕ (Unit))).bind (Sum.elim (fun q' => some q') (t0 ((XQ p).bind fun y5 =>
  if (decide (40 < y5)) = true then
  some 3
  else
  (XP ([1, 2, 4, 8, 16] : List Int) p.Every).bind fun y6 =>
  (gd ((!y6) == false) false (Z1 p.First 0 (i64 (p.Every - 1)))).bind fun y7 =>
  (gd (((!y6) || (!y7)) == false) false (Z1 p.Times 1 57)).bind fun y8 =>
  if (((((!y6) || (!y7)) || (!y8)) || (decide (p.Step < 0))) || (!((decide (p.Step = 0)) == (decide (p.Times = 1))))) = true then
  some 9
  else
  ((XL (t1 (Ju p)) 0) : Option ((Int) ⊕ (Unit))).bind (Sum.elim (fun q' => some q') (t0 (some 0))))))
theorem Zd4 (p : api_Param) : Le (Zav p) (QN p) := by
  unfold Zav QN
  with_reducible repeat' (first | exact Le.refl _ | apply Le.bind | apply Le.ite | apply Le.gd | apply Le.loop | apply Le.t0 | apply Le.t1 | apply Le.elim | apply Zc1 | apply ZcM | apply Xz | apply ZcZ | apply Zaf | intro _)

noncomputable def Q5 (s : List Str) (v : Str) (i : Int) : Option ((Int) ⊕ (Int) ⊕ (Unit)) :=
  if (decide (i < (s.length : Int))) = true then
  (idx s i).bind fun x =>
  if (decide (v = x)) = true then
  some (.inr (.inl i))
  else
  some (.inl (i64 (i + 1)))
  else
  some (.inr (.inr ()))
theorem Zbb (s : List Str) (v : Str) (i : Int) : Le (Q5 s v i) (ZG s v i) := by
  unfold Q5 ZG
  with_reducible repeat' (first | exact Le.refl _ | apply Le.bind | apply Le.ite | intro _)

noncomputable def Xo (s : List Str) (v : Str) : Option Int :=
  ((XL (t1 (Q5 s v)) 0) : Option ((Int) ⊕ (Unit))).bind (Sum.elim (fun q' => some q') (t0 (some (-1))))
theorem Zb8 (s : List Str) (v : Str) : Le (Xo s v) (Z4 s v) := by
  unfold Xo Z4
  with_reducible repeat' (first | exact Le.refl _ | apply Le.bind | apply Le.loop | apply Le.t0 | apply Le.t1 | apply Le.elim | apply Zbb | intro _)

noncomputable def Q3 (s : List Str) (v : Str) : Option Bool :=
  (Xo s v).bind fun y =>
  some (decide (0 ≤ y))
theorem Za9 (s : List Str) (v : Str) : Le (Q3 s v) (ZK s v) := by
  unfold Q3 ZK
  with_reducible repeat' (first | exact Le.refl _ | apply Le.bind | apply Zb8 | intro _)

noncomputable def Jv (p : api_Param) (i : Int) : Option ((Int) ⊕ (Int) ⊕ (Unit)) :=
  if (decide (i < (p.Names.length : Int))) = true then
  (idx p.Names i).bind fun x =>
  (nmC x).bind fun y2 =>
  if (!y2) = true then
  some (.inr (.inl 8))
  else
  (slc p.Names 0 i).bind fun l =>
  (Q3 l x).bind fun y3 =>
  if y3 = true then
  some (.inr (.inl 5))
  else
  some (.inl (i64 (i + 1)))
  else
  some (.inr (.inr ()))
theorem Zdc (p : api_Param) (i : Int) : Le (Jv p i) (Qj p i) := by
  unfold Jv Qj
  with_reducible repeat' (first | exact Le.refl _ | apply Le.bind | apply Le.ite | apply Za9 | apply ZkX | intro _)

noncomputable def Zal (p : api_Param) : Option Int :=
  (XQ p).bind fun y =>
  (gd ((decide (p.Kind = 4)) == true) 0 (rem y 4)).bind fun q =>
  if ((((decide (p.Kind = 4)) && (!decide (q = 0))) || ((decide (p.Kind = 5)) && (!decide (y = 1)))) || (((decide (p.Kind = 2)) || (decide (p.Kind = 3))) && (decide (y = 1)))) = true then
  some 2
  else
  if (!decide (p.Kind = 6)) = true then
  if (decide (0 < (p.Names.length : Int))) = true then
  some 2
  else
  some 0
  else
  if (decide ((p.Names.length : Int) = 0)) = true then
  some 13
  else
  (gd ((decide (64 < (p.Names.length : Int))) == false) 0 (shl .i64 1 y)).bind fun q2 =>
  if ((decide (64 < (p.Names.length : Int))) || (decide (q2 < (p.Names.length : Int)))) = true then
  some 3
  else
  ((XL (t1 (Jv p)) 0) : Option ((Int) ⊕ (Unit))).bind (Sum.elim (fun q' => some q') (t0 (some 0)))
theorem Zef (p : api_Param) : Le (Zal p) (QO p) := by
  unfold Zal QO
  with_reducible repeat' (first | exact Le.refl _ | apply Le.bind | apply Le.ite | apply Le.gd | apply Le.loop | apply Le.t0 | apply Le.t1 | apply Le.elim | apply Zdc | apply Zaf | intro _)

noncomputable def Qi (s : List api_Part) (f : api_Part → Option Bool) (i : Int) : Option ((Int) ⊕ (Int) ⊕ (Unit)) :=
  if (decide (i < (s.length : Int))) = true then
  (idx s i).bind fun x =>
  (f x).bind fun y =>
  if y = true then
  some (.inr (.inl i))
  else
  some (.inl (i64 (i + 1)))
  else
  some (.inr (.inr ()))
theorem JL (s : List api_Part) (f : api_Part → Option Bool) (i : Int) (f' : api_Part → Option Bool) (h_f : ∀ z0, Le (f z0) (f' z0)) : Le (Qi s f i) (ZB s f' i) := by
  unfold Qi ZB
  with_reducible repeat' (first | exact Le.refl _ | apply Le.bind | apply Le.ite | apply h_f | intro _)

noncomputable def Qq (s : List api_Part) (f : api_Part → Option Bool) : Option Int :=
  ((XL (t1 (Qi s f)) 0) : Option ((Int) ⊕ (Unit))).bind (Sum.elim (fun q' => some q') (t0 (some (-1))))
theorem Zai (s : List api_Part) (f : api_Part → Option Bool) (f' : api_Part → Option Bool) (h_f : ∀ z0, Le (f z0) (f' z0)) : Le (Qq s f) (ZJ s f') := by
  unfold Qq ZJ
  with_reducible repeat' (first | exact Le.refl _ | apply Le.bind | apply Le.loop | apply Le.t0 | apply Le.t1 | apply Le.elim | apply JL | apply h_f | intro _)

noncomputable def Qh (s : List api_Part) (f : api_Part → Option Bool) : Option Bool :=
  (Qq s f).bind fun y =>
  some (decide (0 ≤ y))
theorem JK (s : List api_Part) (f : api_Part → Option Bool) (f' : api_Part → Option Bool) (h_f : ∀ z0, Le (f z0) (f' z0)) : Le (Qh s f) (ZA s f') := by
  unfold Qh ZA
  with_reducible repeat' (first | exact Le.refl _ | apply Le.bind | apply Zai | apply h_f | intro _)

noncomputable def Za8 (x : api_Part) (c0 : Int) : Option Bool :=
  some (decide (16 ≤ (i64 (c0 + x.Frame))))
theorem ZeT (x : api_Part) (c0 : Int) : Le (Za8 x c0) (Q0 x c0) := by
  unfold Za8 Q0
  with_reducible repeat' (first | exact Le.refl _ | apply Le.bind | intro _)

noncomputable def ZaX (p : api_Param) (out2 : List Int) (f : Int) : Option (((List Int) × Int) ⊕ ((List Int))) :=
  if (decide (f < 16)) = true then
  (((Qh p.Parts (fun z0 => Za8 z0 f)).bind fun y =>
  if (!y) = true then
  (app out2 ([f] : List Int)).bind fun l =>
  some l
  else
  some out2) : Option (((List Int)))).bind (t1 fun (out3 : List Int) =>
  some (.inl (out3, (i64 (f + p.Every)))))
  else
  some (.inr out2)
theorem ZeC (p : api_Param) (out2 : List Int) (f : Int) : Le (ZaX p out2 f) (Qd p out2 f) := by
  unfold ZaX Qd
  with_reducible repeat' (first | exact Le.refl _ | apply Le.bind | apply Le.ite | apply Le.t1 | apply JK | apply ZeT | intro _)

noncomputable def ZaL (p : api_Param) : Option (List Int) :=
  ((XL (t2 (ZaX p)) ([], p.First)) : Option (((List Int)))).bind (t1 fun (out : List Int) =>
  some out)
theorem Zde (p : api_Param) : Le (ZaL p) (Xb p) := by
  unfold ZaL Xb
  with_reducible repeat' (first | exact Le.refl _ | apply Le.bind | apply Le.loop | apply Le.t1 | apply Le.t2 | apply ZeC | intro _)

noncomputable def ZbP (p : api_Param) (x : api_Part) (f : Int) (j : Int) : Option api_Place :=
  some (api_Place.mk (i64 (f + x.Frame)) (i64 (x.Word + (i64 (j * p.Step)))) x.Low x.Bits)
theorem Zfv (p : api_Param) (x : api_Part) (f : Int) (j : Int) : Le (ZbP p x f j) (QW p x f j) := by
  unfold ZbP QW
  with_reducible repeat' (first | exact Le.refl _ | apply Le.bind | intro _)

noncomputable def Zas (p : api_Param) (x : Int) (i2 : Int) (Places2 : List api_Place) (i3 : Int) : Option (((List api_Place) × Int) ⊕ ((List api_Place))) :=
  if (decide (i3 < (p.Parts.length : Int))) = true then
  (idx p.Parts i3).bind fun x2 =>
  (ZbP p x2 x i2).bind fun y2 =>
  (app Places2 ([y2] : List api_Place)).bind fun l =>
  some (.inl (l, (i64 (i3 + 1))))
  else
  some (.inr Places2)
theorem ZdU (p : api_Param) (x : Int) (i2 : Int) (Places2 : List api_Place) (i3 : Int) : Le (Zas p x i2 Places2 i3) (Z6 p x i2 Places2 i3) := by
  unfold Zas Z6
  with_reducible repeat' (first | exact Le.refl _ | apply Le.bind | apply Le.ite | apply Zfv | intro _)

noncomputable def Zay (number : Int) (p : api_Param) (x : Int) (out4 : List api_Cell) (i2 : Int) : Option (((List api_Cell) × Int) ⊕ ((List api_Cell))) :=
  if (decide (i2 < p.Times)) = true then
  ((XL (t2 (Zas p x i2)) ([], 0)) : Option (((List api_Place)))).bind (t1 fun (Places : List api_Place) =>
  (app out4 ([(api_Cell.mk number (out4.length : Int) x Places)] : List api_Cell)).bind fun l2 =>
  some (.inl (l2, (i64 (i2 + 1)))))
  else
  some (.inr out4)
theorem Zd0 (number : Int) (p : api_Param) (x : Int) (out4 : List api_Cell) (i2 : Int) : Le (Zay number p x out4 i2) (XY number p x out4 i2) := by
  unfold Zay XY
  with_reducible repeat' (first | exact Le.refl _ | apply Le.bind | apply Le.ite | apply Le.loop | apply Le.t1 | apply Le.t2 | apply ZdU | intro _)

noncomputable def Zaq (number : Int) (p : api_Param) (y : (List Int)) (out2 : List api_Cell) (i : Int) : Option (((List api_Cell) × Int) ⊕ ((List api_Cell))) :=
  if (decide (i < (y.length : Int))) = true then
  (((idx y i).bind fun x =>
  XL (t2 (Zay number p x)) (out2, 0)) : Option (((List api_Cell)))).bind (t1 fun (out3 : List api_Cell) =>
  some (.inl (out3, (i64 (i + 1)))))
  else
  some (.inr out2)
theorem Zek (number : Int) (p : api_Param) (y : (List Int)) (out2 : List api_Cell) (i : Int) : Le (Zaq number p y out2 i) (Qs number p y out2 i) := by
  unfold Zaq Qs
  with_reducible repeat' (first | exact Le.refl _ | apply Le.bind | apply Le.ite | apply Le.loop | apply Le.t1 | apply Le.t2 | apply Zd0 | intro _)

noncomputable def Jf (number : Int) (p : api_Param) : Option (List api_Cell) :=
  (((ZaL p).bind fun y =>
  XL (t2 (Zaq number p y)) ([], 0)) : Option (((List api_Cell)))).bind (t1 fun (out : List api_Cell) =>
  some out)
theorem Zba (number : Int) (p : api_Param) : Le (Jf number p) (QB number p) := by
  unfold Jf QB
  with_reducible repeat' (first | exact Le.refl _ | apply Le.bind | apply Le.loop | apply Le.t1 | apply Le.t2 | apply Zde | apply Zek | intro _)

noncomputable def ZaV (x : api_Place) (out2 : List layout_bit) (i : Int) : Option (((List layout_bit) × Int) ⊕ ((List layout_bit))) :=
  if (decide (i < x.Bits)) = true then
  (app out2 ([(layout_bit.mk x.Frame x.Word (i64 (x.Low + i)))] : List layout_bit)).bind fun l =>
  some (.inl (l, (i64 (i + 1))))
  else
  some (.inr out2)
theorem Zey (x : api_Place) (out2 : List layout_bit) (i : Int) : Le (ZaV x out2 i) (Q7 x out2 i) := by
  unfold ZaV Q7
  with_reducible repeat' (first | exact Le.refl _ | apply Le.bind | apply Le.ite | intro _)

noncomputable def Zcf (x : api_Place) : Option (List layout_bit) :=
  ((XL (t2 (ZaV x)) ([], 0)) : Option (((List layout_bit)))).bind (t1 fun (out : List layout_bit) =>
  some out)
theorem ZfT (x : api_Place) : Le (Zcf x) (Xv x) := by
  unfold Zcf Xv
  with_reducible repeat' (first | exact Le.refl _ | apply Le.bind | apply Le.loop | apply Le.t1 | apply Le.t2 | apply Zey | intro _)

noncomputable def ZbK (owner : Int) (y : (List layout_bit)) (o4 : List (layout_bit × Int)) (i2 : Int) : Option (((List (layout_bit × Int)) × Int) ⊕ (Bool × (List (layout_bit × Int))) ⊕ ((List (layout_bit × Int)))) :=
  if (decide (i2 < (y.length : Int))) = true then
  (idx y i2).bind fun x2 =>
  (some (Zbw kq_layout_bit o4 x2)).bind fun o5 =>
  if o5.isSome = true then
  some (.inr (.inl (false, o4)))
  else
  some (.inl ((ZeB kq_layout_bit o4 x2 owner), (i64 (i2 + 1))))
  else
  some (.inr (.inr o4))
theorem ZfC (owner : Int) (y : (List layout_bit)) (o4 : List (layout_bit × Int)) (i2 : Int) : Le (ZbK owner y o4 i2) (QT owner y o4 i2) := by
  unfold ZbK QT
  with_reducible repeat' (first | exact Le.refl _ | apply Le.bind | apply Le.ite | intro _)

noncomputable def ZbC (owner : Int) (l : List api_Place) (o2 : List (layout_bit × Int)) (i : Int) : Option (((List (layout_bit × Int)) × Int) ⊕ (Bool × (List (layout_bit × Int))) ⊕ ((List (layout_bit × Int)))) :=
  if (decide (i < (l.length : Int))) = true then
  (((idx l i).bind fun x =>
  (Zcf x).bind fun y =>
  XL (t2 (ZbK owner y)) (o2, 0)) : Option ((Bool × (List (layout_bit × Int))) ⊕ ((List (layout_bit × Int))))).bind (Sum.elim (fun q' => some (.inr (.inl q'))) (t1 fun (o3 : List (layout_bit × Int)) =>
  some (.inl (o3, (i64 (i + 1))))))
  else
  some (.inr (.inr o2))
theorem ZfK (owner : Int) (l : List api_Place) (o2 : List (layout_bit × Int)) (i : Int) : Le (ZbC owner l o2 i) (QU owner l o2 i) := by
  unfold ZbC QU
  with_reducible repeat' (first | exact Le.refl _ | apply Le.bind | apply Le.ite | apply Le.loop | apply Le.t1 | apply Le.t2 | apply Le.elim | apply ZfT | apply ZfC | intro _)

noncomputable def ZbS (taken : List (layout_bit × Int)) (owner : Int) (l : List api_Place) : Option (Bool × (List (layout_bit × Int))) :=
  ((XL (t2 (ZbC owner l)) (taken, 0)) : Option ((Bool × (List (layout_bit × Int))) ⊕ ((List (layout_bit × Int))))).bind (Sum.elim (fun q' => some q') (t1 fun (o : List (layout_bit × Int)) =>
  some (true, o)))
theorem ZdY (taken : List (layout_bit × Int)) (owner : Int) (l : List api_Place) : Le (ZbS taken owner l) (Xd taken owner l) := by
  unfold ZbS Xd
  with_reducible repeat' (first | exact Le.refl _ | apply Le.bind | apply Le.loop | apply Le.t1 | apply Le.t2 | apply Le.elim | apply ZfK | intro _)

noncomputable def Jp (y5 : (List api_Cell)) (taken : List (layout_bit × Int)) (i : Int) : Option (((List (layout_bit × Int)) × Int) ⊕ (Int) ⊕ (Unit)) :=
  if (decide (i < (y5.length : Int))) = true then
  (idx y5 i).bind fun x =>
  (ZbS taken 0 x.Places).bind fun y6 =>
  if (!y6.1) = true then
  some (.inr (.inl 5))
  else
  some (.inl (y6.2, (i64 (i + 1))))
  else
  some (.inr (.inr ()))
theorem Zc2 (y5 : (List api_Cell)) (taken : List (layout_bit × Int)) (i : Int) : Le (Jp y5 taken i) (Z8 y5 taken i) := by
  unfold Jp Z8
  with_reducible repeat' (first | exact Le.refl _ | apply Le.bind | apply Le.ite | apply ZdY | intro _)

noncomputable def Zar (p : api_Param) : Option Int :=
  (nmC p.Name).bind fun y =>
  if (!y) = true then
  some 8
  else
  (Z1 p.Kind 1 6).bind fun y2 =>
  if (!y2) = true then
  some 7
  else
  (Zav p).bind fun y3 =>
  if (!decide (y3 = 0)) = true then
  some y3
  else
  (Zal p).bind fun y4 =>
  if (!decide (y4 = 0)) = true then
  some y4
  else
  (Jf 0 p).bind fun y5 =>
  ((XL (t2 (Jp y5)) (([] : List (layout_bit × Int)), 0)) : Option ((Int) ⊕ (Unit))).bind (Sum.elim (fun q' => some q') (t0 (if (decide ((y5.length : Int) = 0)) = true then
  some 13
  else
  some 0)))
theorem Zd1 (p : api_Param) : Le (Zar p) (Qv p) := by
  unfold Zar Qv
  with_reducible repeat' (first | exact Le.refl _ | apply Le.bind | apply Le.ite | apply Le.loop | apply Le.t0 | apply Le.t2 | apply Le.elim | apply Xz | apply Zd4 | apply Zef | apply Zba | apply Zc2 | apply ZkX | intro _)

noncomputable def Qa (s : List api_Param) (f : api_Param → Option Bool) (i : Int) : Option ((Int) ⊕ (Int) ⊕ (Unit)) :=
  if (decide (i < (s.length : Int))) = true then
  (idx s i).bind fun x =>
  (f x).bind fun y =>
  if y = true then
  some (.inr (.inl i))
  else
  some (.inl (i64 (i + 1)))
  else
  some (.inr (.inr ()))
theorem Jx (s : List api_Param) (f : api_Param → Option Bool) (i : Int) (f' : api_Param → Option Bool) (h_f : ∀ z0, Le (f z0) (f' z0)) : Le (Qa s f i) (Zx s f' i) := by
  unfold Qa Zx
  with_reducible repeat' (first | exact Le.refl _ | apply Le.bind | apply Le.ite | apply h_f | intro _)

noncomputable def Ql (s : List api_Param) (f : api_Param → Option Bool) : Option Int :=
  ((XL (t1 (Qa s f)) 0) : Option ((Int) ⊕ (Unit))).bind (Sum.elim (fun q' => some q') (t0 (some (-1))))
theorem JQ (s : List api_Param) (f : api_Param → Option Bool) (f' : api_Param → Option Bool) (h_f : ∀ z0, Le (f z0) (f' z0)) : Le (Ql s f) (ZI s f') := by
  unfold Ql ZI
  with_reducible repeat' (first | exact Le.refl _ | apply Le.bind | apply Le.loop | apply Le.t0 | apply Le.t1 | apply Le.elim | apply Jx | apply h_f | intro _)

noncomputable def Qb (s : List api_Param) (f : api_Param → Option Bool) : Option Bool :=
  (Ql s f).bind fun y =>
  some (decide (0 ≤ y))
theorem Jo (s : List api_Param) (f : api_Param → Option Bool) (f' : api_Param → Option Bool) (h_f : ∀ z0, Le (f z0) (f' z0)) : Le (Qb s f) (Zt s f') := by
  unfold Qb Zt
  with_reducible repeat' (first | exact Le.refl _ | apply Le.bind | apply JQ | apply h_f | intro _)

noncomputable def ZbN (q : api_Param) (c0 : api_Param) : Option Bool :=
  some (decide (q.Name = c0.Name))
theorem Zfu (q : api_Param) (c0 : api_Param) : Le (ZbN q c0) (Jg q c0) := by
  unfold ZbN Jg
  with_reducible repeat' (first | exact Le.refl _ | apply Le.bind | intro _)

noncomputable def Zbg (m : api_Map) (i : Int) : Option ((Int) ⊕ (Int × Int) ⊕ (Unit)) :=
  if (decide (i < (m.Params.length : Int))) = true then
  (idx m.Params i).bind fun x =>
  (Zar x).bind fun y2 =>
  if (!decide (y2 = 0)) = true then
  some (.inr (.inl (i, y2)))
  else
  (slc m.Params 0 i).bind fun l =>
  (Qb l (fun z0 => ZbN z0 x)).bind fun y3 =>
  if y3 = true then
  some (.inr (.inl (i, 5)))
  else
  some (.inl (i64 (i + 1)))
  else
  some (.inr (.inr ()))
theorem ZeN (m : api_Map) (i : Int) : Le (Zbg m i) (Xn m i) := by
  unfold Zbg Xn
  with_reducible repeat' (first | exact Le.refl _ | apply Le.bind | apply Le.ite | apply Zd1 | apply Jo | apply Zfu | intro _)

noncomputable def Zbj (m : api_Map) (cells : Int) (i2 : Int) : Option ((Int × Int) ⊕ (Int × Int) ⊕ (Unit)) :=
  if (decide (i2 < (m.Params.length : Int))) = true then
  (idx m.Params i2).bind fun x2 =>
  (ZaL x2).bind fun y4 =>
  if (decide (4000 < (i64 (cells + (i64 ((y4.length : Int) * x2.Times)))))) = true then
  some (.inr (.inl (i2, 3)))
  else
  some (.inl ((i64 (cells + (i64 ((y4.length : Int) * x2.Times)))), (i64 (i2 + 1))))
  else
  some (.inr (.inr ()))
theorem ZeY (m : api_Map) (cells : Int) (i2 : Int) : Le (Zbj m cells i2) (Q1 m cells i2) := by
  unfold Zbj Q1
  with_reducible repeat' (first | exact Le.refl _ | apply Le.bind | apply Le.ite | apply Zde | intro _)

noncomputable def Zbc (i3 : Int) (y5 : (List api_Cell)) (taken3 : List (layout_bit × Int)) (i4 : Int) : Option (((List (layout_bit × Int)) × Int) ⊕ (Int × Int) ⊕ ((List (layout_bit × Int)))) :=
  if (decide (i4 < (y5.length : Int))) = true then
  (idx y5 i4).bind fun x4 =>
  (ZbS taken3 i3 x4.Places).bind fun y6 =>
  if (!y6.1) = true then
  some (.inr (.inl (i3, 5)))
  else
  some (.inl (y6.2, (i64 (i4 + 1))))
  else
  some (.inr (.inr taken3))
theorem ZeP (i3 : Int) (y5 : (List api_Cell)) (taken3 : List (layout_bit × Int)) (i4 : Int) : Le (Zbc i3 y5 taken3 i4) (Q2 i3 y5 taken3 i4) := by
  unfold Zbc Q2
  with_reducible repeat' (first | exact Le.refl _ | apply Le.bind | apply Le.ite | apply ZdY | intro _)

noncomputable def Za6 (m : api_Map) (taken : List (layout_bit × Int)) (i3 : Int) : Option (((List (layout_bit × Int)) × Int) ⊕ (Int × Int) ⊕ (Unit)) :=
  if (decide (i3 < (m.Params.length : Int))) = true then
  (((idx m.Params i3).bind fun x3 =>
  (Jf i3 x3).bind fun y5 =>
  XL (t2 (Zbc i3 y5)) (taken, 0)) : Option ((Int × Int) ⊕ ((List (layout_bit × Int))))).bind (Sum.elim (fun q' => some (.inr (.inl q'))) (t1 fun (taken2 : List (layout_bit × Int)) =>
  some (.inl (taken2, (i64 (i3 + 1))))))
  else
  some (.inr (.inr ()))
theorem Ze8 (m : api_Map) (taken : List (layout_bit × Int)) (i3 : Int) : Le (Za6 m taken i3) (QX m taken i3) := by
  unfold Za6 QX
  with_reducible repeat' (first | exact Le.refl _ | apply Le.bind | apply Le.ite | apply Le.loop | apply Le.t1 | apply Le.t2 | apply Le.elim | apply Zba | apply ZeP | intro _)

noncomputable def Zbl (m : api_Map) : Option (Int × Int) :=
  (Z1 m.Version 0 2047).bind fun y =>
  if (!y) = true then
  some ((-1), 9)
  else
  if (decide (200 < (m.Params.length : Int))) = true then
  some ((-1), 3)
  else
  ((XL (t1 (Zbg m)) 0) : Option ((Int × Int) ⊕ (Unit))).bind (Sum.elim (fun q' => some q') (t0 (((XL (t2 (Zbj m)) (0, 0)) : Option ((Int × Int) ⊕ (Unit))).bind (Sum.elim (fun q' => some q') (t0 (((XL (t2 (Za6 m)) (([] : List (layout_bit × Int)), 0)) : Option ((Int × Int) ⊕ (Unit))).bind (Sum.elim (fun q' => some q') (t0 (some ((-1), 0))))))))))
theorem ZdA (m : api_Map) : Le (Zbl m) (QG m) := by
  unfold Zbl QG
  with_reducible repeat' (first | exact Le.refl _ | apply Le.bind | apply Le.ite | apply Le.loop | apply Le.t0 | apply Le.t1 | apply Le.t2 | apply Le.elim | apply Xz | apply ZeN | apply ZeY | apply Ze8 | intro _)

noncomputable def Zbt (m : api_Map) (out2 : List api_Cell) (i : Int) : Option (((List api_Cell) × Int) ⊕ ((List api_Cell))) :=
  if (decide (i < (m.Params.length : Int))) = true then
  (idx m.Params i).bind fun x =>
  (Jf i x).bind fun y =>
  (app out2 y).bind fun l =>
  some (.inl (l, (i64 (i + 1))))
  else
  some (.inr out2)
theorem Ze4 (m : api_Map) (out2 : List api_Cell) (i : Int) : Le (Zbt m out2 i) (JA m out2 i) := by
  unfold Zbt JA
  with_reducible repeat' (first | exact Le.refl _ | apply Le.bind | apply Le.ite | apply Zba | intro _)

noncomputable def Zbr (m : api_Map) : Option (List api_Cell) :=
  ((XL (t2 (Zbt m)) ([], 0)) : Option (((List api_Cell)))).bind (t1 fun (out : List api_Cell) =>
  some out)
theorem ZdE (m : api_Map) : Le (Zbr m) (Xt m) := by
  unfold Zbr Xt
  with_reducible repeat' (first | exact Le.refl _ | apply Le.bind | apply Le.loop | apply Le.t1 | apply Le.t2 | apply Ze4 | intro _)

noncomputable def ZbD (m : api_Map) (out2 : Vector (List Int) 16) (i : Int) : Option (((Vector (List Int) 16) × Int) ⊕ ((Vector (List Int) 16))) :=
  if (decide (i < 16)) = true then
  (mks 58 0).bind fun l2 =>
  (XM out2 i).bind fun x =>
  (XM (Zex out2 i l2) i).bind fun l3 =>
  (XM (Zex out2 i l2) i).bind fun x2 =>
  (idx l3 0).bind fun x3 =>
  some (.inl ((Zex (Zex out2 i l2) i (l3.set (Int.toNat 0) m.Version)), (i64 (i + 1))))
  else
  some (.inr out2)
theorem Zfk (m : api_Map) (out2 : Vector (List Int) 16) (i : Int) : Le (ZbD m out2 i) (Zbn m out2 i) := by
  unfold ZbD Zbn
  with_reducible repeat' (first | exact Le.refl _ | apply Le.bind | apply Le.ite | intro _)

noncomputable def ZbE (x4 : api_Cell) (y5 : Int) (out6 : Vector (List Int) 16) (left : Int) (i3 : Int) : Option (((Vector (List Int) 16) × Int × Int) ⊕ ((Vector (List Int) 16))) :=
  if (decide (i3 < (x4.Places.length : Int))) = true then
  (idx x4.Places i3).bind fun x9 =>
  (XM out6 x9.Frame).bind fun l4 =>
  (XM out6 x9.Frame).bind fun x10 =>
  (idx l4 (i64 (x9.Word - 3))).bind fun x11 =>
  (shr .i64 y5 (i64 (left - x9.Bits))).bind fun q =>
  (shl .i64 1 x9.Bits).bind fun q2 =>
  (shl .i64 (Zhg .i64 q (i64 (q2 - 1))) x9.Low).bind fun q3 =>
  (idx l4 (i64 (x9.Word - 3))).bind fun x12 =>
  some (.inl ((Zex out6 x9.Frame (l4.set (i64 (x9.Word - 3)).toNat (bor .i64 x11 q3))), (i64 (left - x9.Bits)), (i64 (i3 + 1))))
  else
  some (.inr out6)
theorem ZfP (x4 : api_Cell) (y5 : Int) (out6 : Vector (List Int) 16) (left : Int) (i3 : Int) : Le (ZbE x4 y5 out6 left i3) (Zbo x4 y5 out6 left i3) := by
  unfold ZbE Zbo
  with_reducible repeat' (first | exact Le.refl _ | apply Le.bind | apply Le.ite | intro _)

noncomputable def ZbG (m : api_Map) (l : List Int) (y2 : (List api_Cell)) (out4 : Vector (List Int) 16) (i2 : Int) : Option (((Vector (List Int) 16) × Int) ⊕ ((Vector (List Int) 16) × Int) ⊕ ((Vector (List Int) 16))) :=
  if (decide (i2 < (y2.length : Int))) = true then
  (((idx y2 i2).bind fun x4 =>
  (idx m.Params x4.Param).bind fun x5 =>
  (Zlv x5).bind fun y3 =>
  (idx l i2).bind fun x6 =>
  (Z1 x6 y3.low y3.high).bind fun y4 =>
  if (!y4) = true then
  some (.inl ((Vector.replicate 16 []), 9))
  else
  (idx l i2).bind fun x7 =>
  (y3.encode.fn x7).bind fun y5 =>
  (idx m.Params x4.Param).bind fun x8 =>
  (XQ x8).bind fun y6 =>
  (XL (t3 (ZbE x4 y5)) (out4, y6, 0)).bind (fun q' => some (.inr q'))) : Option (((Vector (List Int) 16) × Int) ⊕ ((Vector (List Int) 16)))).bind (Sum.elim (fun q' => some (.inr (.inl q'))) (t1 fun (out5 : Vector (List Int) 16) =>
  some (.inl (out5, (i64 (i2 + 1))))))
  else
  some (.inr (.inr out4))
theorem Zfl (m : api_Map) (l : List Int) (y2 : (List api_Cell)) (out4 : Vector (List Int) 16) (i2 : Int) : Le (ZbG m l y2 out4 i2) (Zbi m l y2 out4 i2) := by
  unfold ZbG Zbi
  with_reducible repeat' (first | exact Le.refl _ | apply Le.bind | apply Le.ite | apply Le.loop | apply Le.t1 | apply Le.t3 | apply Le.elim | apply Xz | apply ZfP | apply ZjD | apply Zaf | intro _)

noncomputable def ZcT (m : api_Map) (l : List Int) : Option ((Vector (List Int) 16) × Int) :=
  (Zbl m).bind fun y =>
  if (!decide (y.2 = 0)) = true then
  some ((Vector.replicate 16 []), y.2)
  else
  (Zbr m).bind fun y2 =>
  if (!decide ((l.length : Int) = (y2.length : Int))) = true then
  some ((Vector.replicate 16 []), 3)
  else
  ((XL (t2 (ZbD m)) ((Vector.replicate 16 []), 0)) : Option (((Vector (List Int) 16)))).bind (t1 fun (out : Vector (List Int) 16) =>
  ((XL (t2 (ZbG m l y2)) (out, 0)) : Option (((Vector (List Int) 16) × Int) ⊕ ((Vector (List Int) 16)))).bind (Sum.elim (fun q' => some q') (t1 fun (out3 : Vector (List Int) 16) =>
  some (out3, 0))))
theorem ZgA (m : api_Map) (l : List Int) : Le (ZcT m l) (Zb4 m l) := by
  unfold ZcT Zb4
  with_reducible repeat' (first | exact Le.refl _ | apply Le.bind | apply Le.ite | apply Le.loop | apply Le.t1 | apply Le.t2 | apply Le.elim | apply ZdA | apply ZdE | apply Zfk | apply Zfl | intro _)

noncomputable def Xf (s : List Int) (f : Int → Option Bool) (i : Int) : Option ((Int) ⊕ (Int) ⊕ (Unit)) :=
  if (decide (i < (s.length : Int))) = true then
  (idx s i).bind fun x =>
  (f x).bind fun y =>
  if y = true then
  some (.inr (.inl i))
  else
  some (.inl (i64 (i + 1)))
  else
  some (.inr (.inr ()))
theorem ZbI (s : List Int) (f : Int → Option Bool) (i : Int) (f' : Int → Option Bool) (h_f : ∀ z0, Le (f z0) (f' z0)) : Le (Xf s f i) (QL s f' i) := by
  unfold Xf QL
  with_reducible repeat' (first | exact Le.refl _ | apply Le.bind | apply Le.ite | apply h_f | intro _)

noncomputable def XC (s : List Int) (f : Int → Option Bool) : Option Int :=
  ((XL (t1 (Xf s f)) 0) : Option ((Int) ⊕ (Unit))).bind (Sum.elim (fun q' => some q') (t0 (some (-1))))
theorem Zcr (s : List Int) (f : Int → Option Bool) (f' : Int → Option Bool) (h_f : ∀ z0, Le (f z0) (f' z0)) : Le (XC s f) (Qz s f') := by
  unfold XC Qz
  with_reducible repeat' (first | exact Le.refl _ | apply Le.bind | apply Le.loop | apply Le.t0 | apply Le.t1 | apply Le.elim | apply ZbI | apply h_f | intro _)

noncomputable def Xe (s : List Int) (f : Int → Option Bool) : Option Bool :=
  (XC s f).bind fun y =>
  some (decide (0 ≤ y))
theorem ZbO (s : List Int) (f : Int → Option Bool) (f' : Int → Option Bool) (h_f : ∀ z0, Le (f z0) (f' z0)) : Le (Xe s f) (Qg s f') := by
  unfold Xe Qg
  with_reducible repeat' (first | exact Le.refl _ | apply Le.bind | apply Zcr | apply h_f | intro _)

noncomputable def Za7 (d : Int) : Option Bool :=
  (Z1 d 0 2047).bind fun y =>
  some (!y)
theorem Ze6 (d : Int) : Le (Za7 d) (JD d) := by
  unfold Za7 JD
  with_reducible repeat' (first | exact Le.refl _ | apply Le.bind | apply Xz | intro _)

noncomputable def ZaN (l : Vector (List Int) 16) (i : Int) : Option ((Int) ⊕ ((List api_Reading) × Int) ⊕ (Unit)) :=
  if (decide (i < 16)) = true then
  (XM l i).bind fun x =>
  if (!decide ((x.length : Int) = 58)) = true then
  some (.inr (.inl ([], 3)))
  else
  (Xe x (fun z0 => Za7 z0)).bind fun y2 =>
  if y2 = true then
  some (.inr (.inl ([], 9)))
  else
  some (.inl (i64 (i + 1)))
  else
  some (.inr (.inr ()))
theorem Zew (l : Vector (List Int) 16) (i : Int) : Le (ZaN l i) (Zac l i) := by
  unfold ZaN Zac
  with_reducible repeat' (first | exact Le.refl _ | apply Le.bind | apply Le.ite | apply ZbO | apply Ze6 | intro _)

noncomputable def ZaY (m : api_Map) (l : Vector (List Int) 16) (i2 : Int) : Option ((Int) ⊕ ((List api_Reading) × Int) ⊕ (Unit)) :=
  if (decide (i2 < 16)) = true then
  (XM l i2).bind fun x2 =>
  (idx x2 0).bind fun x3 =>
  if (!decide (x3 = m.Version)) = true then
  some (.inr (.inl ([], 11)))
  else
  some (.inl (i64 (i2 + 1)))
  else
  some (.inr (.inr ()))
theorem ZeD (m : api_Map) (l : Vector (List Int) 16) (i2 : Int) : Le (ZaY m l i2) (Zah m l i2) := by
  unfold ZaY Zah
  with_reducible repeat' (first | exact Le.refl _ | apply Le.bind | apply Le.ite | intro _)

noncomputable def Zbe (c_ : api_Cell) (l : Vector (List Int) 16) (raw2 : Int) (i : Int) : Option ((Int × Int) ⊕ (Int)) :=
  if (decide (i < (c_.Places.length : Int))) = true then
  (idx c_.Places i).bind fun x =>
  (shl .i64 raw2 x.Bits).bind fun q =>
  (XM l x.Frame).bind fun x2 =>
  (idx x2 (i64 (x.Word - 3))).bind fun x3 =>
  (shr .i64 x3 x.Low).bind fun q2 =>
  (shl .i64 1 x.Bits).bind fun q3 =>
  some (.inl ((bor .i64 q (Zhg .i64 q2 (i64 (q3 - 1)))), (i64 (i + 1))))
  else
  some (.inr raw2)
theorem ZeO (c_ : api_Cell) (l : Vector (List Int) 16) (raw2 : Int) (i : Int) : Le (Zbe c_ l raw2 i) (ZaK c_ l raw2 i) := by
  unfold Zbe ZaK
  with_reducible repeat' (first | exact Le.refl _ | apply Le.bind | apply Le.ite | intro _)

noncomputable def ZcG (c_ : api_Cell) (l : Vector (List Int) 16) : Option Int :=
  ((XL (t2 (Zbe c_ l)) (0, 0)) : Option ((Int))).bind (t1 fun (raw : Int) =>
  some raw)
theorem Zgr (c_ : api_Cell) (l : Vector (List Int) 16) : Le (ZcG c_ l) (Zbh c_ l) := by
  unfold ZcG Zbh
  with_reducible repeat' (first | exact Le.refl _ | apply Le.bind | apply Le.loop | apply Le.t1 | apply Le.t2 | apply ZeO | intro _)

noncomputable def ZbL (p : api_Param) (raw : Int) : Option (Int × Bool) :=
  (Zlv p).bind fun y =>
  (y.decode.fn raw).bind fun y2 =>
  if (!y2.2) = true then
  some (0, false)
  else
  some (y2.1, true)
theorem Zfs (p : api_Param) (raw : Int) : Le (ZbL p raw) (J3 p raw) := by
  unfold ZbL J3
  with_reducible repeat' (first | exact Le.refl _ | apply Le.bind | apply Le.ite | apply ZjD | intro _)

noncomputable def ZaP (m : api_Map) (l : Vector (List Int) 16) (y3 : (List api_Cell)) (out2 : List api_Reading) (i3 : Int) : Option (((List api_Reading) × Int) ⊕ ((List api_Reading))) :=
  if (decide (i3 < (y3.length : Int))) = true then
  (idx y3 i3).bind fun x4 =>
  (idx m.Params x4.Param).bind fun x5 =>
  (ZcG x4 l).bind fun y4 =>
  (ZbL x5 y4).bind fun y5 =>
  (app out2 ([(api_Reading.mk x4.Param x4.Index y5.1 y5.2)] : List api_Reading)).bind fun l2 =>
  some (.inl (l2, (i64 (i3 + 1))))
  else
  some (.inr out2)
theorem ZeE (m : api_Map) (l : Vector (List Int) 16) (y3 : (List api_Cell)) (out2 : List api_Reading) (i3 : Int) : Le (ZaP m l y3 out2 i3) (Zab m l y3 out2 i3) := by
  unfold ZaP Zab
  with_reducible repeat' (first | exact Le.refl _ | apply Le.bind | apply Le.ite | apply Zgr | apply Zfs | intro _)

noncomputable def Zcg (m : api_Map) (l : Vector (List Int) 16) : Option ((List api_Reading) × Int) :=
  (Zbl m).bind fun y =>
  if (!decide (y.2 = 0)) = true then
  some ([], y.2)
  else
  ((XL (t1 (ZaN l)) 0) : Option (((List api_Reading) × Int) ⊕ (Unit))).bind (Sum.elim (fun q' => some q') (t0 (((XL (t1 (ZaY m l)) 0) : Option (((List api_Reading) × Int) ⊕ (Unit))).bind (Sum.elim (fun q' => some q') (t0 ((((Zbr m).bind fun y3 =>
  XL (t2 (ZaP m l y3)) ([], 0)) : Option (((List api_Reading)))).bind (t1 fun (out : List api_Reading) =>
  some (out, 0))))))))
theorem Zf0 (m : api_Map) (l : Vector (List Int) 16) : Le (Zcg m l) (ZaE m l) := by
  unfold Zcg ZaE
  with_reducible repeat' (first | exact Le.refl _ | apply Le.bind | apply Le.ite | apply Le.loop | apply Le.t0 | apply Le.t1 | apply Le.t2 | apply Le.elim | apply ZdA | apply Zew | apply ZeD | apply ZdE | apply ZeE | intro _)

noncomputable def ZcU : Option Bool :=
  (ZcT (api_Map.mk 3 ([(api_Param.mk [97] 2 ([(api_Part.mk 0 9 2 3)] : List api_Part) 2 8 2 1 [])] : List api_Param)) ([(-1), 3, 0, (-4)] : List Int)).bind fun y =>
  (gd ((!decide (y.2 = 0)) == false) [] (XM y.1 2)).bind fun x =>
  (gd (((!decide (y.2 = 0)) || (!decide ((x.length : Int) = 58))) == false) [] (XM y.1 5)).bind fun x2 =>
  (gd ((((!decide (y.2 = 0)) || (!decide ((x.length : Int) = 58))) || (!decide ((x2.length : Int) = 58))) == false) [] (XM y.1 10)).bind fun x3 =>
  (gd (((((!decide (y.2 = 0)) || (!decide ((x.length : Int) = 58))) || (!decide ((x2.length : Int) = 58))) || (!decide ((x3.length : Int) = 58))) == false) [] (XM y.1 2)).bind fun x4 =>
  (gd (((((!decide (y.2 = 0)) || (!decide ((x.length : Int) = 58))) || (!decide ((x2.length : Int) = 58))) || (!decide ((x3.length : Int) = 58))) == false) 0 (idx x4 6)).bind fun x5 =>
  (gd ((((((!decide (y.2 = 0)) || (!decide ((x.length : Int) = 58))) || (!decide ((x2.length : Int) = 58))) || (!decide ((x3.length : Int) = 58))) || (!decide (x5 = 28))) == false) [] (XM y.1 2)).bind fun x6 =>
  (gd ((((((!decide (y.2 = 0)) || (!decide ((x.length : Int) = 58))) || (!decide ((x2.length : Int) = 58))) || (!decide ((x3.length : Int) = 58))) || (!decide (x5 = 28))) == false) 0 (idx x6 7)).bind fun x7 =>
  (gd (((((((!decide (y.2 = 0)) || (!decide ((x.length : Int) = 58))) || (!decide ((x2.length : Int) = 58))) || (!decide ((x3.length : Int) = 58))) || (!decide (x5 = 28))) || (!decide (x7 = 12))) == false) [] (XM y.1 10)).bind fun x8 =>
  (gd (((((((!decide (y.2 = 0)) || (!decide ((x.length : Int) = 58))) || (!decide ((x2.length : Int) = 58))) || (!decide ((x3.length : Int) = 58))) || (!decide (x5 = 28))) || (!decide (x7 = 12))) == false) 0 (idx x8 6)).bind fun x9 =>
  (gd ((((((((!decide (y.2 = 0)) || (!decide ((x.length : Int) = 58))) || (!decide ((x2.length : Int) = 58))) || (!decide ((x3.length : Int) = 58))) || (!decide (x5 = 28))) || (!decide (x7 = 12))) || (!decide (x9 = 0))) == false) [] (XM y.1 10)).bind fun x10 =>
  (gd ((((((((!decide (y.2 = 0)) || (!decide ((x.length : Int) = 58))) || (!decide ((x2.length : Int) = 58))) || (!decide ((x3.length : Int) = 58))) || (!decide (x5 = 28))) || (!decide (x7 = 12))) || (!decide (x9 = 0))) == false) 0 (idx x10 7)).bind fun x11 =>
  (gd (((((((((!decide (y.2 = 0)) || (!decide ((x.length : Int) = 58))) || (!decide ((x2.length : Int) = 58))) || (!decide ((x3.length : Int) = 58))) || (!decide (x5 = 28))) || (!decide (x7 = 12))) || (!decide (x9 = 0))) || (!decide (x11 = 16))) == false) [] (XM y.1 5)).bind fun x12 =>
  (gd (((((((((!decide (y.2 = 0)) || (!decide ((x.length : Int) = 58))) || (!decide ((x2.length : Int) = 58))) || (!decide ((x3.length : Int) = 58))) || (!decide (x5 = 28))) || (!decide (x7 = 12))) || (!decide (x9 = 0))) || (!decide (x11 = 16))) == false) 0 (idx x12 0)).bind fun x13 =>
  if (((((((((!decide (y.2 = 0)) || (!decide ((x.length : Int) = 58))) || (!decide ((x2.length : Int) = 58))) || (!decide ((x3.length : Int) = 58))) || (!decide (x5 = 28))) || (!decide (x7 = 12))) || (!decide (x9 = 0))) || (!decide (x11 = 16))) || (!decide (x13 = 3))) = true then
  some false
  else
  (Zcg (api_Map.mk 3 ([(api_Param.mk [97] 2 ([(api_Part.mk 0 9 2 3)] : List api_Part) 2 8 2 1 [])] : List api_Param)) y.1).bind fun y2 =>
  (gd (((decide (y2.2 = 0)) && (decide ((y2.1.length : Int) = 4))) == true) (api_Reading.mk 0 0 0 false) (idx y2.1 3)).bind fun x14 =>
  some (((decide (y2.2 = 0)) && (decide ((y2.1.length : Int) = 4))) && (decide (x14.Param = 0) && (decide (x14.Index = 3) && (decide (x14.Value = (-4)) && ((x14.Good == true) && true)))))
theorem Zg6 : Le (ZcU ) (JX ) := by
  unfold ZcU JX
  with_reducible repeat' (first | exact Le.refl _ | apply Le.bind | apply Le.ite | apply Le.gd | apply ZgA | apply Zf0 | intro _)
end Go.Vx

namespace Go.Vx
open Go Go.RowKit
theorem ZkY : ZcU = some true := by decide +kernel
theorem Ziw : JX = some true := Zg6 true ZkY
end Go.Vx

namespace Go.Vx
open Go Go.RowKit
end Go.Vx

namespace Go.Vx
open Go Go.RowKit
end Go.Vx

namespace Go.Vx
open Go Go.RowKit
def Zkb (b : layout_bit) (x : api_Place) : Bool := ((decide (x.Frame = b.frame) && decide (x.Word = b.word)) && decide (x.Low ≤ b.bit)) && decide (b.bit < x.Low + x.Bits)
def ZhJ : Nat → List api_Cell → List (layout_bit × Int)
  | _, [] => []
  | k, c :: tl => (ZT c.Places).map (fun b => (b, (k : Int))) ++ ZhJ (k + 1) tl
theorem ZjY {l : List api_Cell} (hl : ZcP l) (hu : okB [] (bitsC l) = true) : J4 l = some (ZhJ 0 l) := by
  have hl0 := hl.1
  have key : ∀ (n k : Nat) (o : List (layout_bit × Int)), k + n = l.length → okB (mkeys o) (bitsC (l.drop k)) = true → loop (t2 (QP l)) (o, (k : Int)) = some (o ++ ZhJ k (l.drop k)) := by
    intro n
    induction n with
    | zero =>
      intro k o hk _
      have : k = l.length := by omega
      subst this
      rw [ZH]
      simp [QP, ZhJ]
    | succ n ih =>
      intro k o hk hu
      obtain ⟨c, hc⟩ := XA (xs := l) (k := k) (by omega)
      have hlt := QV hc
      obtain ⟨hp1, hp2⟩ := hl.2 c (List.mem_of_getElem? hc)
      obtain ⟨q, h1, h2⟩ := ZgR (k : Int) hp1 hp2 o
      have e : bitsC (l.drop k) = ZT c.Places ++ bitsC (l.drop (k + 1)) := by rw [ZL hc]; simp [bitsC]
      rw [e, J9, Bool.and_eq_true] at hu
      have h3 := h2 hu.1
      have e2 : ((k : Nat) : Int) + 1 = ((k + 1 : Nat) : Int) := by push_cast; rfl
      have e3 : mkeys q = mkeys o ++ ZT c.Places := by rw [h3]; simp [mkeys, Function.comp_def]
      rw [ZH]
      simp only [Za1, QP, hlt, decide_true, if_true, Z9 hc, Option.bind_some, h1]
      rw [Z0 (by omega) (by omega), e2]
      show loop (t2 (QP l)) (q, ((k + 1 : Nat) : Int)) = _
      rw [ih (k + 1) q (by omega) (by rw [e3]; exact hu.2), ZL hc, h3]
      simp [ZhJ]
  have := key l.length 0 [] (by omega) (by simpa [mkeys] using hu)
  unfold J4
  have this' : loop (t2 (QP l)) (([] : List (layout_bit × Int)), 0) = _ := this
  rw [this']
  rfl
theorem ZjO {m : api_Map} (h : MapOK m) : ZcP (allC 0 m.Params) := by
  refine ⟨by have := h.cnt; omega, fun c hc => ?_⟩
  obtain ⟨j, x, _, hx, _, f, t, h1, h2, _, h3⟩ := Zjo h hc
  have h8 := hx.len.1
  rw [h3]
  refine ⟨by simp; omega, fun q hq => ?_⟩
  have := Zku hx h1 h2 hq
  unfold Zad; omega
end Go.Vx

namespace Go.Vx
open Go Go.RowKit
def placeR (q : api_Place) : Prop := (0 ≤ q.Frame ∧ q.Frame ≤ 15) ∧ (4 ≤ q.Word ∧ q.Word ≤ 60) ∧ (0 ≤ q.Low ∧ q.Low ≤ 10) ∧ 1 ≤ q.Bits ∧ q.Bits ≤ 11 - q.Low
end Go.Vx

namespace Go.Vx
open Go Go.RowKit
def Zdt (l : Vector (List Int) 16) (q : api_Place) : Nat := ((l.toList.getD q.Frame.toNat []).getD (q.Word - 3).toNat 0).toNat
def DatOK (l : Vector (List Int) 16) : Prop := ∀ x ∈ l.toList, x.length = 58 ∧ ∀ d ∈ x, 0 ≤ d ∧ d ≤ 2047
theorem Zm3 {l : Vector (List Int) 16} (hl : DatOK l) {q : api_Place} (hq : placeR q) : ∃ x, XM l q.Frame = some x ∧ idx x (i64 (q.Word - 3)) = some (Zdt l q : Int) ∧ Zdt l q ≤ 2047 := by
  obtain ⟨h1, h2, _⟩ := hq
  have h16 : l.toList.length = 16 := by simp
  obtain ⟨x, hx⟩ := XA (xs := l.toList) (k := q.Frame.toNat) (by omega)
  obtain ⟨hx1, hx2⟩ := hl x (List.mem_of_getElem? hx)
  obtain ⟨d, hd⟩ := XA (xs := x) (k := (q.Word - 3).toNat) (by omega)
  have hd2 := hx2 d (List.mem_of_getElem? hd)
  have e1 : l.toList.getD q.Frame.toNat [] = x := by rw [List.getD_eq_getElem?_getD, hx]; rfl
  have e2 : x.getD (q.Word - 3).toNat 0 = d := by rw [List.getD_eq_getElem?_getD, hd]; rfl
  have e3 : ((Zdt l q : Nat) : Int) = d := by unfold Zdt; rw [e1, e2]; omega
  refine ⟨x, ?_, ?_, by omega⟩
  · unfold XM; rw [if_pos h1.1, hx]
  · rw [Z0 (by omega) (by omega), e3]; unfold idx; rw [if_pos (by omega), hd]
end Go.Vx

namespace Go.Vx
open Go Go.RowKit
def chunk (l : Vector (List Int) 16) (q : api_Place) : Nat := Zdt l q / 2 ^ q.Low.toNat % 2 ^ q.Bits.toNat
end Go.Vx

namespace Go.Vx
open Go Go.RowKit
end Go.Vx

namespace Go.Vx
open Go Go.RowKit
theorem ZfZ {d lo n : Nat} (h : d / 2 ^ lo % 2 ^ n = 0) : d = 2 ^ (lo + n) * (d / 2 ^ (lo + n)) + d % 2 ^ lo := by
  have h1 := Nat.mod_mul (a := 2 ^ lo) (b := 2 ^ n) (x := d)
  rw [h, Nat.mul_zero, Nat.add_zero, ← Nat.pow_add] at h1
  have h2 := Nat.div_add_mod d (2 ^ (lo + n))
  omega
theorem Zkt {d lo n v : Nat} (h : d / 2 ^ lo % 2 ^ n = 0) (hv : v < 2 ^ n) : d ||| 2 ^ lo * v = d + 2 ^ lo * v ∧ 2 ^ lo * v + d % 2 ^ lo < 2 ^ (lo + n) := by
  have hs := ZfZ h
  have hl : d % 2 ^ lo < 2 ^ lo := Nat.mod_lt _ (Nat.two_pow_pos _)
  have hx : 2 ^ lo * v + d % 2 ^ lo < 2 ^ (lo + n) := by
    have h1 : 2 ^ lo * (v + 1) ≤ 2 ^ lo * 2 ^ n := Nat.mul_le_mul_left _ hv
    rw [← Nat.pow_add, Nat.mul_add, Nat.mul_one] at h1
    omega
  refine ⟨?_, hx⟩
  have e1 := Nat.two_pow_add_eq_or_of_lt (i := lo + n) (b := d % 2 ^ lo) (by omega) (d / 2 ^ (lo + n))
  have e2 := Nat.two_pow_add_eq_or_of_lt (i := lo) (b := d % 2 ^ lo) hl v
  have e3 := Nat.two_pow_add_eq_or_of_lt (i := lo + n) (b := 2 ^ lo * v + d % 2 ^ lo) hx (d / 2 ^ (lo + n))
  have : d ||| 2 ^ lo * v = 2 ^ (lo + n) * (d / 2 ^ (lo + n)) ||| (2 ^ lo * v + d % 2 ^ lo) := by
    rw [e2, Nat.or_comm (2 ^ lo * v), ← Nat.or_assoc, ← e1, ← hs]
  rw [this, ← e3]
  omega
theorem Zl0 {d lo n v : Nat} (h : d / 2 ^ lo % 2 ^ n = 0) (hv : v < 2 ^ n) (hd : d ≤ 2047) (hln : lo + n ≤ 11) : d + 2 ^ lo * v ≤ 2047 := by
  have hs := ZfZ h
  have hx := (Zkt h hv).2
  have e : 2 ^ 11 = 2 ^ (lo + n) * 2 ^ (11 - (lo + n)) := by rw [← Nat.pow_add]; congr 1; omega
  have h1 : d / 2 ^ (lo + n) < 2 ^ (11 - (lo + n)) := by
    rw [Nat.div_lt_iff_lt_mul (Nat.two_pow_pos _), Nat.mul_comm, ← e]; omega
  have h2 : 2 ^ (lo + n) * (d / 2 ^ (lo + n) + 1) ≤ 2 ^ (lo + n) * 2 ^ (11 - (lo + n)) := Nat.mul_le_mul_left _ h1
  rw [← e, Nat.mul_add, Nat.mul_one] at h2
  omega
theorem ZkJ {d lo n v : Nat} (h : d / 2 ^ lo % 2 ^ n = 0) (hv : v < 2 ^ n) : (d + 2 ^ lo * v) / 2 ^ lo % 2 ^ n = v := by
  rw [Nat.add_mul_div_left _ _ (Nat.two_pow_pos _), Nat.add_mod, h, Nat.zero_add, Nat.mod_mod, Nat.mod_eq_of_lt hv]
theorem Zj1 {d lo n v lo' n' : Nat} (h : d / 2 ^ lo % 2 ^ n = 0) (hv : v < 2 ^ n) (hd : lo + n ≤ lo' ∨ lo' + n' ≤ lo) : (d + 2 ^ lo * v) / 2 ^ lo' % 2 ^ n' = d / 2 ^ lo' % 2 ^ n' := by
  rcases hd with hd | hd
  · have hs := ZfZ h
    have hx := (Zkt h hv).2
    have hl : d % 2 ^ lo < 2 ^ (lo + n) := by omega
    have e : 2 ^ lo' = 2 ^ (lo + n) * 2 ^ (lo' - (lo + n)) := by rw [← Nat.pow_add]; congr 1; omega
    have e1 : (d + 2 ^ lo * v) / 2 ^ (lo + n) = d / 2 ^ (lo + n) := by
      have : d + 2 ^ lo * v = (2 ^ lo * v + d % 2 ^ lo) + 2 ^ (lo + n) * (d / 2 ^ (lo + n)) := by omega
      rw [this, Nat.add_mul_div_left _ _ (Nat.two_pow_pos _), Nat.div_eq_of_lt hx, Nat.zero_add]
    rw [e, ← Nat.div_div_eq_div_mul, e1, Nat.div_div_eq_div_mul]
  · have e : 2 ^ lo * v = 2 ^ lo' * (2 ^ n' * (2 ^ (lo - lo' - n') * v)) := by
      rw [← Nat.mul_assoc, ← Nat.mul_assoc, ← Nat.pow_add, ← Nat.pow_add]; congr 2; omega
    rw [e, Nat.add_mul_div_left _ _ (Nat.two_pow_pos _), Nat.add_mul_mod_self_left]
def Zhh (l : Vector (List Int) 16) (q : api_Place) : List Int := l.toList.getD q.Frame.toNat []
def wr (l : Vector (List Int) 16) (w : api_Place × Nat) : Vector (List Int) 16 := Zex l w.1.Frame ((Zhh l w.1).set (w.1.Word - 3).toNat ((Zdt l w.1 + 2 ^ w.1.Low.toNat * w.2 : Nat) : Int))
theorem Zjh {l : Vector (List Int) 16} {q : api_Place} {v : Nat} (hq : placeR q) (k : Nat) : (wr l (q, v)).toList[k]? = if k = q.Frame.toNat then some ((Zhh l q).set (q.Word - 3).toNat ((Zdt l q + 2 ^ q.Low.toNat * v : Nat) : Int)) else l.toList[k]? := by
  obtain ⟨hf, _⟩ := hq
  have h16 : l.toList.length = 16 := by simp
  have e : (wr l (q, v)).toList = l.toList.set q.Frame.toNat ((Zhh l q).set (q.Word - 3).toNat ((Zdt l q + 2 ^ q.Low.toNat * v : Nat) : Int)) := by simp [wr, Zex]
  rw [e, List.getElem?_set]
  by_cases h : k = q.Frame.toNat
  · subst h; rw [if_pos rfl, if_pos (by omega), if_pos rfl]
  · rw [if_neg (fun hh => h hh.symm), if_neg h]
theorem ZhS {l : Vector (List Int) 16} {q : api_Place} (hq : placeR q) : l.toList[q.Frame.toNat]? = some (Zhh l q) := by
  obtain ⟨hf, _⟩ := hq
  have h16 : l.toList.length = 16 := by simp
  obtain ⟨x, hx⟩ := XA (xs := l.toList) (k := q.Frame.toNat) (by omega)
  unfold Zhh
  rw [List.getD_eq_getElem?_getD, hx]; rfl
theorem ZkE {l : Vector (List Int) 16} (hl : DatOK l) {q q' : api_Place} {v : Nat} (hq : placeR q) (hq' : placeR q') :
    Zdt (wr l (q, v)) q' = if q'.Frame = q.Frame ∧ q'.Word = q.Word then Zdt l q + 2 ^ q.Low.toNat * v else Zdt l q' := by
  obtain ⟨h58, _⟩ := hl _ (List.mem_of_getElem? (ZhS (l := l) hq))
  have e0 : Zdt (wr l (q, v)) q' = ((((wr l (q, v)).toList[q'.Frame.toNat]?).getD []).getD (q'.Word - 3).toNat 0).toNat := by unfold Zdt; rw [List.getD_eq_getElem?_getD (l := (wr l (q, v)).toList)]
  have e00 : Zdt l q' = (((l.toList[q'.Frame.toNat]?).getD []).getD (q'.Word - 3).toNat 0).toNat := by unfold Zdt; rw [List.getD_eq_getElem?_getD (l := l.toList)]
  rw [e0, e00, Zjh hq]
  obtain ⟨a1, a2, _⟩ := hq
  obtain ⟨b1, b2, _⟩ := hq'
  by_cases hf : q'.Frame = q.Frame
  · have hf' : q'.Frame.toNat = q.Frame.toNat := by omega
    rw [if_pos hf']
    simp only [Option.getD_some]
    by_cases hw2 : q'.Word = q.Word
    · rw [if_pos ⟨hf, hw2⟩, hw2, List.getD_eq_getElem?_getD, List.getElem?_set_self (by omega)]
      simp
      exact Int.toNat_natCast _
    · have hw3 : (q'.Word - 3).toNat ≠ (q.Word - 3).toNat := by omega
      rw [if_neg (fun h => hw2 h.2), List.getD_eq_getElem?_getD, List.getElem?_set_ne (fun h => hw3 h.symm), ← List.getD_eq_getElem?_getD, hf']
      unfold Zhh
      rw [List.getD_eq_getElem?_getD (l := l.toList)]
  · have hf' : ¬ q'.Frame.toNat = q.Frame.toNat := by omega
    rw [if_neg hf', if_neg (fun h => hf h.1)]
def disj (a b : api_Place) : Prop := ∀ x, Zkb x a = true → Zkb x b = false
theorem Zmt {l : Vector (List Int) 16} (hl : DatOK l) {q : api_Place} {v : Nat} (hq : placeR q) (h0 : chunk l q = 0) (hv : v < 2 ^ q.Bits.toNat) : DatOK (wr l (q, v)) ∧ chunk (wr l (q, v)) q = v ∧ ∀ q', placeR q' → disj q q' → chunk (wr l (q, v)) q' = chunk l q' := by
  have hm := ZhS (l := l) hq
  obtain ⟨h58, hd⟩ := hl _ (List.mem_of_getElem? hm)
  have hdat : Zdt l q ≤ 2047 := by obtain ⟨_, _, _, h⟩ := Zm3 hl hq; exact h
  refine ⟨?_, ?_, ?_⟩
  · intro y hy
    obtain ⟨k, hk⟩ := List.getElem?_of_mem hy
    rw [Zjh hq] at hk
    split at hk
    · cases hk
      refine ⟨by simpa using h58, fun d hdm => ?_⟩
      rcases List.mem_or_eq_of_mem_set hdm with h | rfl
      · exact hd d h
      · have := Zl0 h0 hv hdat (by obtain ⟨_, _, h3, h4, h5⟩ := hq; omega)
        omega
    · exact hl y (List.mem_of_getElem? hk)
  · unfold chunk
    rw [ZkE hl hq hq, if_pos ⟨rfl, rfl⟩]
    exact ZkJ h0 hv
  · intro q' hq' hdis
    unfold chunk
    rw [ZkE hl hq hq']
    split
    · rename_i h
      have e : Zdt l q' = Zdt l q := by unfold Zdt; rw [h.1, h.2]
      rw [e]
      refine Zj1 h0 hv ?_
      obtain ⟨_, _, h3, h4, h5⟩ := hq
      obtain ⟨_, _, g3, g4, g5⟩ := hq'
      rcases Nat.lt_or_ge q'.Low.toNat (q.Low.toNat + q.Bits.toNat) with c1 | c1
      · rcases Nat.lt_or_ge q.Low.toNat (q'.Low.toNat + q'.Bits.toNat) with c2 | c2
        · exfalso
          by_cases hle : q.Low ≤ q'.Low
          · have := hdis ⟨q.Frame, q.Word, q'.Low⟩ (by simp [Zkb]; omega)
            simp [Zkb, h.1, h.2] at this
            omega
          · have := hdis ⟨q.Frame, q.Word, q.Low⟩ (by simp [Zkb]; omega)
            simp [Zkb, h.1, h.2] at this
            omega
        · exact .inr c2
      · exact .inl c1
    · rfl
end Go.Vx

namespace Go.Vx
open Go Go.RowKit
abbrev WL := List (api_Place × Nat)
structure Pre (out : Vector (List Int) 16) (W : WL) (ver : Int) : Prop where
  dat : DatOK out
  pl : ∀ w ∈ W, placeR w.1 ∧ w.2 < 2 ^ w.1.Bits.toNat ∧ chunk out w.1 = 0
  dis : W.Pairwise fun a b => disj a.1 b.1
  ver : ∀ x ∈ out.toList, x.getD 0 0 = ver
theorem Zmf {l : Vector (List Int) 16} {ver : Int} (h : ∀ x ∈ l.toList, x.getD 0 0 = ver) {q : api_Place} {v : Nat} (hq : placeR q) : ∀ x ∈ (wr l (q, v)).toList, x.getD 0 0 = ver := by
  intro x hx
  obtain ⟨k, hk⟩ := List.getElem?_of_mem hx
  rw [Zjh hq] at hk
  split at hk
  · cases hk
    have := h _ (List.mem_of_getElem? (ZhS (l := l) hq))
    obtain ⟨_, a, _⟩ := hq
    rw [List.getD_eq_getElem?_getD, List.getElem?_set_ne (by omega), ← List.getD_eq_getElem?_getD]
    exact this
  · exact h x (List.mem_of_getElem? hk)
theorem Pre.step {out : Vector (List Int) 16} {w : api_Place × Nat} {W : WL} {ver : Int} (h : Pre out (w :: W) ver) : Pre (wr out w) W ver := by
  obtain ⟨q, v⟩ := w
  obtain ⟨h1, h2, h3⟩ := h.pl _ List.mem_cons_self
  obtain ⟨g1, g2, g3⟩ := Zmt h.dat h1 h3 h2
  have hd := List.pairwise_cons.1 h.dis
  refine ⟨g1, fun w hw => ?_, hd.2, Zmf h.ver h1⟩
  obtain ⟨a1, a2, a3⟩ := h.pl w (List.mem_cons_of_mem _ hw)
  exact ⟨a1, a2, by rw [g3 _ a1 (hd.1 w hw)]; exact a3⟩
def wrF : Vector (List Int) 16 → WL → Vector (List Int) 16
  | out, [] => out
  | out, w :: W => wrF (wr out w) W
theorem Pre.app {ver : Int} : ∀ {W1 W2 : WL} {out : Vector (List Int) 16}, Pre out (W1 ++ W2) ver → Pre (wrF out W1) W2 ver
  | [], _, _, h => h
  | w :: W1, W2, out, h => Pre.app (W1 := W1) (Pre.step (by simpa using h))
theorem Pre.left {ver : Int} {W1 W2 : WL} {out : Vector (List Int) 16} (h : Pre out (W1 ++ W2) ver) : Pre out W1 ver :=
  ⟨h.dat, fun w hw => h.pl w (List.mem_append_left _ hw), (List.pairwise_append.1 h.dis).1, h.ver⟩
end Go.Vx

namespace Go.Vx
open Go Go.RowKit
end Go.Vx

namespace Go.Vx
open Go Go.RowKit
end Go.Vx

namespace Go.Vx
open Go Go.RowKit
theorem Zhw {p : api_Param} (h : Zcp p = 0) : p.Names.length ≤ 64 := by
  unfold Zcp at h
  by_cases h1 : nmL p.Name = true
  case neg => rw [if_neg h1] at h; cases h
  rw [if_pos h1] at h
  by_cases h2 : wiL p.Kind 1 6 = true
  case neg => rw [if_neg h2] at h; cases h
  rw [if_pos h2] at h
  by_cases h3 : Zdk p = 0
  case neg => rw [if_neg h3] at h; exact absurd h h3
  rw [if_pos h3] at h
  by_cases h4 : ZdF p = 0
  case neg => rw [if_neg h4] at h; exact absurd h h4
  rw [if_pos h4] at h
  by_cases h5 : Zg9 p = 0
  case neg => rw [if_neg h5] at h; exact absurd h h5
  unfold Zg9 at h5
  split at h5
  · cases h5
  · split at h5
    · split at h5
      · cases h5
      · split at h5
        · cases h5
        · rename_i b
          simp only [Bool.or_eq_true, decide_eq_true_eq, not_or] at b
          omega
    · split at h5
      · cases h5
      · omega
theorem Zlj {m : api_Map} (h : ZcN m = 0) : ∀ x ∈ m.Params, Zcp x = 0 := by
  have hm := ZhN h
  unfold ZcN at h
  by_cases h1 : wiL m.Version 0 2047 = true
  case neg => rw [if_neg h1] at h; cases h
  rw [if_pos h1, if_pos hm.len] at h
  intro x hx
  obtain ⟨k, hk⟩ := List.getElem?_of_mem hx
  cases hf : ZO (g1M m.Params) 0 m.Params with
  | some e =>
    exfalso
    rw [hf] at h
    have key : ∀ (l : List api_Param) (k : Nat) (tl : List api_Param) (e : Int × Int), ZO (g1M l) k tl = some e → e.2 ≠ 0 := by
      intro l k tl
      induction tl generalizing k with
      | nil => intro e h; cases h
      | cons x tl ih =>
        intro e h
        simp only [ZO] at h
        cases hg : g1M l k x with
        | some e' =>
          rw [hg] at h
          cases h
          unfold g1M at hg
          split at hg
          · split at hg
            · cases hg; exact (by decide : (5 : Int) ≠ 0)
            · cases hg
          · rename_i hne; cases hg; exact hne
        | none => rw [hg] at h; exact ih _ _ h
    exact key _ _ _ _ hf h
  | none =>
    have := Ze0 0 m.Params hf k x hk
    unfold g1M at this
    by_cases hc : Zcp x = 0
    · exact hc
    · rw [if_neg hc] at this; cases this
theorem Zmp {p : api_Param} (h : Zcp p = 0) : Ji p = some p := by
  have h1 := (Ze7 h).len.1
  have h2 := Zhw h
  unfold Ji ZeI
  rw [Zam (by simp; omega), Zam (by simp; omega)]
  rfl
theorem Zhn {α : Type} {l : List α} {body : Int → Option (Int ⊕ Bool ⊕ Unit)} (h : ∀ (k : Nat) x, l[k]? = some x → body k = some (.inl ((k : Int) + 1))) (he : body l.length = some (.inr (.inr ()))) : loop (t1 body) 0 = some (.inr ()) := by
  have hL := ZbH (xs := l) (fun _ => (none : Option Unit)) (fun _ => (Sum.inl false : Bool ⊕ Unit)) (Sum.inr ()) (body := body) (fun k x hx => h k x hx) he
  have fl : ∀ l : List α, X6 (fun _ : α => (none : Option Unit)) l = none := by
    intro l
    induction l with
    | nil => rfl
    | cons x l ih => exact ih
  rw [hL, fl]; rfl
theorem Zge {l : List api_Part} (hl : l.length ≤ 1000) : Z2 l l = some true := by
  unfold Z2
  rw [if_neg (by simp), Zhn (l := l) (fun k x hx => by
    have hlt := QV hx
    simp only [Qc, hlt, decide_true, if_true, Z9 hx, Option.bind_some]
    rw [Z0 (by omega) (by omega)]
    simp) (by simp [Qc])]
  rfl
theorem ZgL {l : List Str} (hl : l.length ≤ 1000) : Qk l l = some true := by
  unfold Qk
  rw [if_neg (by simp), Zhn (l := l) (fun k x hx => by
    have hlt := QV hx
    simp only [Qr, hlt, decide_true, if_true, Z9 hx, Option.bind_some]
    rw [Z0 (by omega) (by omega)]
    simp) (by simp [Qr])]
  rfl
theorem Zij {p : api_Param} (h : Zcp p = 0) : Xc p p = some true := by
  unfold Xc
  rw [Zge (by have := (Ze7 h).len.1; omega), ZgL (by have := Zhw h; omega)]
  simp
end Go.Vx

namespace Go.Vx
open Go Go.RowKit
theorem Zep : ∀ {K l : List layout_bit}, okB K l = true ↔ l.Nodup ∧ ∀ b ∈ l, b ∉ K
  | K, [] => by simp [okB]
  | K, x :: l => by
    simp only [okB]
    by_cases hx : x ∈ K
    · rw [if_pos hx]
      constructor
      · intro h; cases h
      · intro h; exact absurd hx (h.2 x List.mem_cons_self)
    · rw [if_neg hx, Zep, List.nodup_cons]
      constructor
      · rintro ⟨h1, h2⟩
        refine ⟨⟨fun h => (h2 x h) (by simp), h1⟩, fun b hb => ?_⟩
        rcases List.mem_cons.1 hb with rfl | hb
        · exact hx
        · exact fun h => h2 b hb (List.mem_append_left _ h)
      · rintro ⟨⟨h1, h2⟩, h3⟩
        refine ⟨h2, fun b hb h => ?_⟩
        rcases List.mem_append.1 h with h | h
        · exact h3 b (List.mem_cons_of_mem _ hb) h
        · obtain rfl : b = x := by simpa using h
          exact h1 hb
theorem ZkN {K l l' : List layout_bit} (h : l.Perm l') : okB K l = okB K l' := by
  rw [Bool.eq_iff_iff, Zep, Zep]
  exact ⟨fun ⟨a, b⟩ => ⟨h.nodup_iff.1 a, fun x hx => b x (h.mem_iff.2 hx)⟩, fun ⟨a, b⟩ => ⟨h.nodup_iff.2 a, fun x hx => b x (h.mem_iff.1 hx)⟩⟩
theorem ZfB {α β : Type} (f g : α → List β) : ∀ l : List α, (l.flatMap fun a => f a ++ g a).Perm (l.flatMap f ++ l.flatMap g)
  | [] => .nil
  | x :: l => by
    simp only [List.flatMap_cons]
    have ih := ZfB f g l
    refine (List.Perm.append_left (f x ++ g x) ih).trans ?_
    rw [List.append_assoc, List.append_assoc]
    refine List.Perm.append_left (f x) ?_
    rw [← List.append_assoc, ← List.append_assoc]
    exact List.Perm.append_right _ List.perm_append_comm
theorem ZfF {α β γ : Type} (g : α → β → List γ) (m : List β) : ∀ l : List α, (l.flatMap fun a => m.flatMap fun b => g a b).Perm (m.flatMap fun b => l.flatMap fun a => g a b)
  | [] => by simp
  | x :: l => by
    simp only [List.flatMap_cons]
    exact (List.Perm.append_left _ (ZfF g m l)).trans (ZfB (fun b => g x b) (fun b => l.flatMap fun a => g a b) m).symm
def prs (p : api_Param) : List (Int × Nat) := (QM p).flatMap fun f => (List.range p.Times.toNat).map fun j => (f, j)
def Zbx (p : api_Param) (x : api_Part) : List api_Place := (prs p).map fun a => XD p a.1 a.2 x
theorem Zkc {α : Type} {body : List α → Int → Option ((List α × Int) ⊕ (List α))} (n B : Nat) (g : Nat → α)
    (hstep : ∀ (k : Nat) acc, k < n → acc.length ≤ B → body acc k = some (.inl (acc ++ [g k], (k : Int) + 1)))
    (hend : ∀ acc, body acc n = some (.inr acc)) (out : List α) (hB : out.length + n ≤ B) : loop (t2 body) (out, 0) = some (out ++ (List.range n).map g) := by
  have := Zev (body := t2 body) (fun p => ∃ k : Nat, p.2 = k ∧ k ≤ n ∧ p.1 = out ++ (List.range k).map g) (fun p => n - p.2.toNat) (fun _ => out ++ (List.range n).map g) (by
    rintro ⟨acc, i⟩ ⟨k, hi, hk, ha⟩
    simp only at hi ha
    subst hi ha
    simp only [Za1]
    rcases Nat.lt_or_ge k n with h | h
    · left
      refine ⟨_, hstep k _ h (by simp; omega), ⟨k + 1, by push_cast; rfl, h, by simp [List.range_succ]⟩, by simp only; omega, trivial⟩
    · have : k = n := by omega
      subst this
      exact .inr (hend _)) (out, 0) ⟨0, rfl, Nat.zero_le _, by simp⟩
  exact this
structure CanP (p : api_Param) (x : api_Part) : Prop where
  fr : 0 ≤ x.Frame ∧ x.Frame ≤ 15
  wd : 4 ≤ x.Word ∧ x.Word + (p.Times - 1) * p.Step ≤ 60
  lo : 0 ≤ x.Low
  bi : 1 ≤ x.Bits ∧ x.Low + x.Bits ≤ 11
theorem ZjK {p : api_Param} (h : PartsOK p) {x : api_Part} (hx : CanP p x) (hS : p.Step ≤ 60) : JY p x = some (Zbx p x) := by
  obtain ⟨hE, hF, hT, hS0, _⟩ := Qx h.tim
  have hl : (QM p).length ≤ 17 := ZfJ p 17 _
  have hTn : (p.Times.toNat : Int) = p.Times := by omega
  obtain ⟨f1, f2⟩ := hx.fr
  obtain ⟨w1, w2⟩ := hx.wd
  have m0 : 0 ≤ (p.Times - 1) * p.Step := Int.mul_nonneg (by omega) hS0
  unfold JY
  rw [ZgV h, Option.bind_some]
  have := Zd7 (xs := QM p) (body := XV p x (QM p)) (I := fun (out : List api_Place) k => k ≤ 17 ∧ out.length ≤ 57 * k) (F := fun out k => out ++ ((QM p).drop k).flatMap fun f => (List.range p.Times.toNat).map fun (j : Nat) => XD p f j x)
    (fun out k f hI hf => by
      have hlt := QV hf
      have hk := (List.getElem?_eq_some_iff.1 hf).1
      obtain ⟨g1, g2, _⟩ := Zeo (p := p) (by omega) 17 p.First f hF.1 (List.mem_of_getElem? hf)
      left
      have hin := Zkc (body := XX p x f) p.Times.toNat 2000 (fun j => XD p f j x) (fun j acc hj ha => by
        have hj' : ((j : Nat) : Int) < p.Times := by omega
        have hm := Int.mul_le_mul_of_nonneg_right (show (j : Int) ≤ p.Times - 1 by omega) hS0
        have hm0 : 0 ≤ (j : Int) * p.Step := Int.mul_nonneg (by omega) hS0
        have hm60 := ZhW (a := (j : Int)) (b := p.Step) (A := 57) (B := 60) (by omega) (by omega) hS0 hS
        simp only [XX, hj', decide_true, if_true, QW, Option.bind_some]
        rw [Z0 (z := f + x.Frame) (by omega) (by omega), Z0 (z := (j : Int) * p.Step) (by omega) (by omega), Z0 (z := x.Word + (j : Int) * p.Step) (by omega) (by omega), Zam (by simp; omega), Z0 (by omega) (by omega)]
        rfl) (fun acc => by simp [XX, hTn]) out (by omega)
      refine ⟨out ++ (List.range p.Times.toNat).map fun (j : Nat) => XD p f (j : Int) x, ?_, ⟨by omega, ?_⟩, ?_⟩
      · simp only [XV, hlt, decide_true, if_true, Z9 hf, Option.bind_some]
        rw [hin, Option.bind_some, Z0 (by omega) (by omega)]
        rfl
      · simp; omega
      · rw [ZL hf, List.flatMap_cons, List.append_assoc])
    (fun out hI => by simp [XV]) (a0 := []) ⟨by omega, by simp⟩
  rw [this]
  show some _ = some _
  congr 1
  simp [Zbx, prs, List.map_flatMap, Function.comp_def]
theorem ZkO {p : api_Param} (h : PartsOK p) (x : api_Part) : (Zbx p x).length ≤ 969 := by
  have h1 : (prs p).length = (QM p).length * p.Times.toNat := by
    unfold prs
    generalize QM p = l
    induction l with
    | nil => simp
    | cons f l ih => rw [List.flatMap_cons, List.length_append, ih, List.length_map, List.length_range, List.length_cons, Nat.add_mul]; omega
  obtain ⟨_, _, hT, _⟩ := Qx h.tim
  have h2 : (QM p).length ≤ 17 := ZfJ p 17 _
  have h3 : (QM p).length * p.Times.toNat ≤ 17 * 57 := Nat.mul_le_mul h2 (by omega)
  simp only [Zbx, List.length_map, h1]; omega
theorem Zh4 {p : api_Param} {x : api_Part} (hx : CanP p x) : ∀ q ∈ Zbx p x, Zad q := by
  intro q hq
  obtain ⟨a, _, rfl⟩ := List.mem_map.1 hq
  have h1 := hx.lo
  obtain ⟨h2, h3⟩ := hx.bi
  simp only [Zad, XD]
  omega
theorem ZlF {y : List layout_bit} (hy : y.length ≤ 1000) (o : List (layout_bit × Int)) : loop (t1 (Jb o y)) 0 = some (if y.any (fun b => decide (b ∈ mkeys o)) = true then .inl false else .inr ()) := by
  have hL := ZbH (xs := y) (fun b => if b ∈ mkeys o then some () else none) (fun _ => (Sum.inl false : Bool ⊕ Unit)) (Sum.inr ()) (body := Jb o y) (fun k x hx => by
    have hlt := QV hx
    simp only [Jb, hlt, decide_true, if_true, Z9 hx, Option.bind_some]
    rw [Z0 (by omega) (by omega)]
    by_cases hm : x ∈ mkeys o
    · rw [if_pos ((Zeq kqB_iff).2 hm), if_pos hm]
    · have hg : (Zbw kq_layout_bit o x).isSome = false := by rw [ZfX kqB_iff hm]; rfl
      rw [hg, if_neg hm]; simp) (by simp [Jb])
  rw [hL]
  have fl : ∀ l : List layout_bit, X6 (fun b => if b ∈ mkeys o then some () else none) l = if l.any (fun b => decide (b ∈ mkeys o)) = true then some () else none := by
    intro l
    induction l with
    | nil => rfl
    | cons x l ih =>
      by_cases hm : x ∈ mkeys o
      · simp [X6, hm]
      · simp [X6, hm, ih]
  rw [fl]
  split <;> rfl
theorem ZlZ {l : List api_Place} (hl : l.length ≤ 1000000) (hp : ∀ x ∈ l, Zad x) (o : List (layout_bit × Int)) : ZbW o l = some (okB (mkeys o) (ZT l)) := by
  have hL := ZbH (xs := l) (fun x => if (Xr x).any (fun b => decide (b ∈ mkeys o)) = true then some () else none) (fun _ => (Sum.inl false : Bool ⊕ Unit)) (Sum.inr ()) (body := JU o l) (fun k x hx => by
    have hlt := QV hx
    have hpx := hp x (List.mem_of_getElem? hx)
    have h11 := Zhj hpx
    simp only [JU, hlt, decide_true, if_true, Z9 hx, Option.bind_some, Zis hpx]
    rw [ZlF (by omega), Z0 (by omega) (by omega)]
    by_cases hm : ((Xr x).any fun b => decide (b ∈ mkeys o)) = true
    · rw [if_pos hm, if_pos hm]; rfl
    · rw [if_neg hm, if_neg hm]; rfl) (by simp [JU])
  have fl : ∀ l : List api_Place, X6 (fun x => if (Xr x).any (fun b => decide (b ∈ mkeys o)) = true then some () else none) l = if (ZT l).any (fun b => decide (b ∈ mkeys o)) = true then some () else none := by
    intro l
    induction l with
    | nil => rfl
    | cons x l ih =>
      have e : ZT (x :: l) = Xr x ++ ZT l := by simp [ZT]
      rw [e, List.any_append]
      by_cases hm : ((Xr x).any fun b => decide (b ∈ mkeys o)) = true
      · simp only [X6, hm, if_true, Bool.true_or]
      · have hm' : ((Xr x).any fun b => decide (b ∈ mkeys o)) = false := by simpa using hm
        simp only [X6, hm', Bool.false_eq_true, if_false, Bool.false_or]; exact ih
  unfold ZbW
  rw [hL, fl]
  by_cases ha : ((ZT l).any fun b => decide (b ∈ mkeys o)) = true
  · rw [if_pos ha]
    have : okB (mkeys o) (ZT l) = false := by
      cases hk : okB (mkeys o) (ZT l) with
      | false => rfl
      | true =>
        obtain ⟨b, hb, hb2⟩ := List.any_eq_true.1 ha
        exact absurd (of_decide_eq_true hb2) ((Zep.1 hk).2 b hb)
    rw [this]; rfl
  · rw [if_neg ha]
    obtain ⟨q, h1, _⟩ := ZgR 0 hl hp []
    simp only [Zcy, Option.bind_some, Sum.elim_inr, t0, h1]
    congr 1
    rw [Bool.eq_iff_iff, Zep, Zep]
    have hn : ∀ b ∈ ZT l, b ∉ mkeys o := fun b hb hm => ha (List.any_eq_true.2 ⟨b, hb, by simpa using hm⟩)
    exact ⟨fun h => ⟨h.1, hn⟩, fun h => ⟨h.1, fun b _ => by simp [mkeys]⟩⟩
end Go.Vx

namespace Go.Vx
open Go Go.RowKit
def KB (taken : List (layout_bit × Int)) (p : api_Param) (y : api_Part) : List (layout_bit × Int) := taken ++ (ZT (Zbx p y)).map fun b => (b, 0)
def ZeW (x : api_Part) (w : Int) : List api_Part := (List.range (12 - x.Bits.toNat)).map fun (b : Nat) => ⟨x.Frame, w, b, x.Bits⟩
def ZiD (p : api_Param) (K : List layout_bit) (y : api_Part) : Option api_Part := if okB K (ZT (Zbx p y)) = true then some y else none
def Zhb (p : api_Param) (K : List layout_bit) (x : api_Part) (w : Int) : Option api_Part := if w + (p.Times - 1) * p.Step ≤ 60 then X6 (ZiD p K) (ZeW x w) else none
def ZeQ (p : api_Param) (K : List layout_bit) (x : api_Part) : Nat → Nat → Option api_Part
  | 0, _ => none
  | n + 1, a => match Zhb p K x (4 + (a : Int)) with | some y => some y | none => ZeQ p K x n (a + 1)
def Zj2 (p : api_Param) (K : List layout_bit) (x : api_Part) : Option api_Part := ZeQ p K x 57 0
def Zau (p : api_Param) : List layout_bit → List api_Part → Option (List api_Part)
  | _, [] => some []
  | K, x :: tl => match Zj2 p K x with | some y => (Zau p (K ++ ZT (Zbx p y)) tl).map (y :: ·) | none => none
theorem Zhy {α ε : Type} {g : α → Option ε} : ∀ {l : List α} {e : ε}, X6 g l = some e → ∃ x ∈ l, g x = some e
  | x :: l, e, h => by
    simp only [X6] at h
    cases hg : g x with
    | some e' => rw [hg] at h; cases h; exact ⟨x, List.mem_cons_self, hg⟩
    | none => rw [hg] at h; obtain ⟨y, h1, h2⟩ := Zhy h; exact ⟨y, List.mem_cons_of_mem _ h1, h2⟩
structure InP (x : api_Part) : Prop where
  fr : 0 ≤ x.Frame ∧ x.Frame ≤ 15
  bi : 1 ≤ x.Bits ∧ x.Bits ≤ 11
theorem ZgZ {p : api_Param} {x y : api_Part} {w : Int} (hx : InP x) (hw : 4 ≤ w) (hw2 : w + (p.Times - 1) * p.Step ≤ 60) (hy : y ∈ ZeW x w) : CanP p y ∧ y.Frame = x.Frame ∧ y.Bits = x.Bits ∧ y.Word = w := by
  obtain ⟨b, hb, rfl⟩ := List.mem_map.1 hy
  have hb' : b < 12 - x.Bits.toNat := by simpa using hb
  obtain ⟨h1, h2⟩ := hx.bi
  exact ⟨⟨hx.fr, ⟨hw, hw2⟩, by simp only; omega, by simp only; omega⟩, rfl, rfl, rfl⟩
theorem ZkV {p : api_Param} {K : List layout_bit} {x y : api_Part} {w : Int} (hx : InP x) (hw : 4 ≤ w) (h : Zhb p K x w = some y) : CanP p y ∧ y.Frame = x.Frame ∧ y.Bits = x.Bits ∧ okB K (ZT (Zbx p y)) = true := by
  unfold Zhb at h
  split at h
  · rename_i h2
    obtain ⟨z, hz, hz2⟩ := Zhy h
    unfold ZiD at hz2
    split at hz2
    · rename_i h3
      cases hz2
      obtain ⟨a, b, c, _⟩ := ZgZ hx hw h2 hz
      exact ⟨a, b, c, h3⟩
    · cases hz2
  · cases h
theorem Zfg {p : api_Param} {K : List layout_bit} {x y : api_Part} (hx : InP x) : ∀ {n a : Nat}, ZeQ p K x n a = some y → CanP p y ∧ y.Frame = x.Frame ∧ y.Bits = x.Bits ∧ okB K (ZT (Zbx p y)) = true
  | n + 1, a, h => by
    simp only [ZeQ] at h
    cases hr : Zhb p K x (4 + (a : Int)) with
    | some z => rw [hr] at h; cases h; exact ZkV hx (by omega) hr
    | none => rw [hr] at h; exact Zfg hx h
theorem ZhI {p : api_Param} {K : List layout_bit} {x : api_Part} : ∀ {n a : Nat}, ¬ 4 + (a : Int) + (p.Times - 1) * p.Step ≤ 60 → ZeQ p K x n a = none
  | 0, _, _ => rfl
  | n + 1, a, h => by
    have : Zhb p K x (4 + (a : Int)) = none := by unfold Zhb; rw [if_neg h]
    simp only [ZeQ, this]
    exact ZhI (by push_cast; omega)
structure SamP (p q : api_Param) : Prop where
  ok : PartsOK q
  pr : prs q = prs p
  tm : q.Times = p.Times
  st : q.Step = p.Step
theorem SamP.sam {p q : api_Param} (h : SamP p q) (x : api_Part) : Zbx q x = Zbx p x := by
  unfold Zbx XD
  rw [h.pr, h.st]
theorem ZmX {p q : api_Param} (h : SamP p q) (hS : p.Step ≤ 60) {x : api_Part} (hx : InP x) (w Low : Int) (hw : 4 ≤ w) (hw2 : w + (p.Times - 1) * p.Step ≤ 60) (taken : List (layout_bit × Int)) :
    loop (t1 (Xi taken q ⟨x.Frame, w, Low, x.Bits⟩)) 0 = some (match Zhb p (mkeys taken) x w with | some y => .inl (y, true, KB taken p y) | none => .inr (12 - x.Bits)) := by
  obtain ⟨b1, b2⟩ := hx.bi
  have hlen : ((ZeW x w).length : Int) = 12 - x.Bits := by simp [ZeW]; omega
  have hL := ZbH (xs := ZeW x w) (ZiD p (mkeys taken)) (fun y => (Sum.inl (y, true, KB taken p y) : (api_Part × Bool × (List (layout_bit × Int))) ⊕ Int)) (Sum.inr (12 - x.Bits)) (body := Xi taken q ⟨x.Frame, w, Low, x.Bits⟩) (fun k y hy => by
    have hlt := QV hy
    have hk := (List.getElem?_eq_some_iff.1 hy).1
    have hk2 : k < 12 - x.Bits.toNat := by simpa [ZeW] using hk
    have hy2 : y = ⟨x.Frame, w, (k : Int), x.Bits⟩ := by
      simp only [ZeW, List.getElem?_map] at hy
      rw [List.getElem?_range hk2] at hy
      simpa using hy.symm
    obtain ⟨hc, _, _, _⟩ := ZgZ (p := p) hx hw hw2 (List.mem_of_getElem? hy)
    have hcq : CanP q y := ⟨hc.fr, by rw [h.tm, h.st]; exact hc.wd, hc.lo, hc.bi⟩
    have hl := ZkO h.ok y
    simp only [Xi]
    rw [Z0 (z := (k : Int) + x.Bits) (by omega) (by omega), if_pos (by simp; omega), ← hy2, ZjK h.ok hcq (by rw [h.st]; exact hS), Option.bind_some, ZlZ (by omega) (Zh4 hcq), Option.bind_some, h.sam]
    unfold ZiD
    cases hok : okB (mkeys taken) (ZT (Zbx p y)) with
    | true =>
      obtain ⟨z, h1, h2⟩ := ZgR (l := Zbx p y) 0 (by rw [← h.sam]; omega) (by rw [← h.sam]; exact Zh4 hcq) taken
      rw [hok] at h1 h2
      rw [h1, if_pos rfl, if_pos rfl, Option.bind_some, h2 rfl]
      rfl
    | false =>
      rw [if_neg (by simp), if_neg (by simp), Z0 (by omega) (by omega)]) (by
      simp only [Xi, hlen]
      rw [Z0 (by omega) (by omega), if_neg (by simp)])
  rw [hL]
  unfold Zhb
  rw [if_pos hw2]
  cases X6 (ZiD p (mkeys taken)) (ZeW x w) <;> rfl
theorem ZmA {p q : api_Param} (h : SamP p q) (hS : p.Step ≤ 60) {x : api_Part} (hx : InP x) (taken : List (layout_bit × Int)) : ∀ (n a : Nat) (Low : Int), a + n = 57 →
    ∃ z, loop (t1 (XW taken q)) ⟨x.Frame, 4 + (a : Int), Low, x.Bits⟩ = some (match ZeQ p (mkeys taken) x n a with | some y => .inl (y, true, KB taken p y) | none => .inr z) := by
  obtain ⟨_, _, hT, hS0, _⟩ := Qx h.ok.tim
  rw [h.tm] at hT
  rw [h.st] at hS0
  have m0 : 0 ≤ (p.Times - 1) * p.Step := Int.mul_nonneg (by omega) hS0
  have m1 := ZhW (a := p.Times - 1) (b := p.Step) (A := 57) (B := 60) (by omega) (by omega) hS0 hS
  intro n
  induction n with
  | zero =>
    intro a Low ha
    refine ⟨⟨x.Frame, 4 + (a : Int), Low, x.Bits⟩, ?_⟩
    rw [ZH]
    simp only [Zlc, XW, h.tm, h.st, ZeQ]
    rw [Z0 (z := p.Times - 1) (by omega) (by omega), Z0 (z := (p.Times - 1) * p.Step) (by omega) (by omega), Z0 (z := 4 + (a : Int) + (p.Times - 1) * p.Step) (by omega) (by omega), if_neg (by simp; omega)]
    rfl
  | succ n ih =>
    intro a Low ha
    rw [ZH]
    simp only [Zlc, XW, h.tm, h.st]
    rw [Z0 (z := p.Times - 1) (by omega) (by omega), Z0 (z := (p.Times - 1) * p.Step) (by omega) (by omega), Z0 (z := 4 + (a : Int) + (p.Times - 1) * p.Step) (by omega) (by omega)]
    by_cases hw : 4 + (a : Int) + (p.Times - 1) * p.Step ≤ 60
    · rw [if_pos (by simpa using hw), ZmX h hS hx _ _ (by omega) hw, Option.bind_some]
      simp only [ZeQ]
      cases hr : Zhb p (mkeys taken) x (4 + (a : Int)) with
      | some y => exact ⟨x, rfl⟩
      | none =>
        obtain ⟨z, hz⟩ := ih (a + 1) (12 - x.Bits) (by omega)
        refine ⟨z, ?_⟩
        rw [← hz]
        simp only [Sum.elim_inr]
        rw [Z0 (z := 4 + (a : Int) + 1) (by omega) (by omega)]
        have e : 4 + (a : Int) + 1 = 4 + ((a + 1 : Nat) : Int) := by push_cast; omega
        rw [e]
        rfl
    · rw [if_neg (by simpa using hw)]
      have : ZeQ p (mkeys taken) x (n + 1) a = none := ZhI hw
      rw [this]
      exact ⟨_, rfl⟩
theorem ZjX {p q : api_Param} (h : SamP p q) (hS : p.Step ≤ 60) {x : api_Part} (hx : InP x) (taken : List (layout_bit × Int)) :
    ∃ z, Je taken q x = some (match Zj2 p (mkeys taken) x with | some y => (y, true, KB taken p y) | none => (z, false, taken)) := by
  obtain ⟨z, hz⟩ := ZmA h hS hx taken 57 0 x.Low (by omega)
  refine ⟨z, ?_⟩
  unfold Je
  have e : (4 : Int) + ((0 : Nat) : Int) = 4 := rfl
  rw [e] at hz
  rw [hz, Option.bind_some]
  unfold Zj2
  cases ZeQ p (mkeys taken) x 57 0 <;> rfl
theorem Zi2 {p q : api_Param} (h : q.Parts.map (·.Frame) = p.Parts.map (·.Frame)) (f : Int) : XO q f = XO p f := by
  have e : ∀ r : api_Param, XO r f = (r.Parts.map (·.Frame)).all fun z => decide (f + z < 16) := fun r => by simp [XO, List.all_map, Function.comp_def]
  rw [e, e, h]
theorem Zjq {p q : api_Param} (hE : q.Every = p.Every) (h : q.Parts.map (·.Frame) = p.Parts.map (·.Frame)) : ∀ n f, stL q n f = stL p n f
  | 0, _ => rfl
  | n + 1, f => by simp only [stL, Zi2 h, hE, Zjq hE h n]
def wp (p : api_Param) (l : List api_Part) : api_Param := ⟨p.Name, p.Kind, l, p.First, p.Every, p.Times, p.Step, p.Names⟩
theorem ZdK {p : api_Param} {x : api_Part} (h : CanP p x) (hT : 1 ≤ p.Times) (hS : 0 ≤ p.Step) : Zbk x = true ∧ (p.Step ≤ 60 → stepOK p x = true) := by
  have m0 : 0 ≤ (p.Times - 1) * p.Step := Int.mul_nonneg (by omega) hS
  have h1 := h.fr; have h2 := h.wd; have h3 := h.lo; have h4 := h.bi
  refine ⟨Jc.2 ⟨h1, ⟨h2.1, by omega⟩, ⟨h3, by omega⟩, h4.1, by omega⟩, fun h60 => ?_⟩
  simp [stepOK, h60, h2.2]
theorem Znj {p : api_Param} (h : PartsOK p) (hS : p.Step ≤ 60) {l : List api_Part} (hf : l.map (·.Frame) = p.Parts.map (·.Frame)) (hl : ∀ x ∈ l, CanP p x ∨ x ∈ p.Parts) : SamP p (wp p l) := by
  obtain ⟨_, _, hT, hS0, _⟩ := Qx h.tim
  have hlen : l.length = p.Parts.length := by simpa using congrArg List.length hf
  refine ⟨⟨⟨by show l.length ≤ 8; rw [hlen]; exact h.len.1, fun x hx => ?_⟩, h.tim, fun x hx => ?_⟩, ?_, rfl, rfl⟩
  · rcases hl x hx with h1 | h1
    · exact (ZdK h1 hT.1 hS0).1
    · exact h.len.2 x h1
  · rcases hl x hx with h1 | h1
    · exact (ZdK h1 hT.1 hS0).2 hS
    · exact h.stp x h1
  · unfold prs QM
    rw [Zjq (p := p) (q := wp p l) rfl hf]
    rfl
structure Pl (p : api_Param) (P : List api_Part) (k : Nat) : Prop where
  fr : P.map (·.Frame) = (p.Parts.take k).map (·.Frame)
  bi : P.map (·.Bits) = (p.Parts.take k).map (·.Bits)
  can : ∀ x ∈ P, CanP p x
theorem Pl.len {p : api_Param} {P : List api_Part} {k : Nat} (h : Pl p P k) (hk : k ≤ p.Parts.length) : P.length = k := by
  have := congrArg List.length h.fr
  simp at this; omega
theorem ZgD {α : Type} {l : List α} {k : Nat} {x : α} (h : l[k]? = some x) : l.take (k + 1) = l.take k ++ [x] := by
  rw [List.take_succ, h]; rfl
theorem Pl.add {p : api_Param} {P : List api_Part} {k : Nat} (h : Pl p P k) {x y : api_Part} (hx : p.Parts[k]? = some x) (h1 : CanP p y) (h2 : y.Frame = x.Frame) (h3 : y.Bits = x.Bits) : Pl p (P ++ [y]) (k + 1) := by
  refine ⟨by rw [ZgD hx]; simp [h.fr, h2], by rw [ZgD hx]; simp [h.bi, h3], fun z hz => ?_⟩
  rcases List.mem_append.1 hz with hz | hz
  · exact h.can z hz
  · obtain rfl : z = y := by simpa using hz
    exact h1
theorem ZfV {p : api_Param} (h : PartsOK p) {x : api_Part} (hx : x ∈ p.Parts) : InP x := by
  have := Jc.1 (h.len.2 x hx)
  exact ⟨this.1, by omega⟩
theorem ZkM {taken : List (layout_bit × Int)} {p : api_Param} {y : api_Part} : mkeys (KB taken p y) = mkeys taken ++ ZT (Zbx p y) := by simp [KB, mkeys, Function.comp_def]
theorem ZlY {p : api_Param} (h : PartsOK p) (hS : p.Step ≤ 60) : ∀ (n k : Nat) (P : List api_Part) (taken : List (layout_bit × Int)), k + n = p.Parts.length → Pl p P k →
    loop (t3 (X2 p)) (P ++ p.Parts.drop k, taken, (k : Int)) = some (match Zau p (mkeys taken) (p.Parts.drop k) with | some l => .inr (P ++ l) | none => .inl ((api_Param.mk [] 0 [] 0 0 0 0 []), 4)) := by
  have h8 := h.len.1
  intro n
  induction n with
  | zero =>
    intro k P taken hk hP
    obtain rfl : k = p.Parts.length := by omega
    rw [ZH]
    simp [X2, Zau]
  | succ n ih =>
    intro k P taken hk hP
    obtain ⟨x, hx⟩ := XA (xs := p.Parts) (k := k) (by omega)
    have hlt := QV hx
    have hPl := hP.len (by omega)
    have hx2 : (P ++ p.Parts.drop k)[k]? = some x := by
      rw [List.getElem?_append_right (by omega), hPl, Nat.sub_self, ZL hx]; rfl
    have hsam : SamP p (wp p (P ++ p.Parts.drop k)) := Znj h hS (by
      rw [List.map_append, hP.fr, ← List.map_append, List.take_append_drop]) fun z hz => by
        rcases List.mem_append.1 hz with hz | hz
        · exact .inl (hP.can z hz)
        · exact .inr (List.mem_of_mem_drop hz)
    have hin := ZfV h (List.mem_of_getElem? hx)
    obtain ⟨z, hz⟩ := ZjX hsam hS hin taken
    rw [ZH]
    simp only [ZiC, X2, hlt, decide_true, if_true, Z9 hx2, Option.bind_some]
    show ((Je taken (wp p (P ++ p.Parts.drop k)) x).bind _).bind _ = _
    rw [hz, Option.bind_some, ZL hx]
    simp only [Zau]
    cases hf : Zj2 p (mkeys taken) x with
    | none => rfl
    | some y =>
      obtain ⟨c1, c2, c3, _⟩ := Zfg hin hf
      have hP' := hP.add hx c1 c2 c3
      have e1 : (P ++ x :: p.Parts.drop (k + 1)).set k y = P ++ [y] ++ p.Parts.drop (k + 1) := by
        rw [List.set_append_right _ _ (by omega), hPl, Nat.sub_self]; simp
      have := ih (k + 1) (P ++ [y]) (KB taken p y) (by omega) hP'
      rw [ZkM] at this
      simp only [Bool.not_true, Bool.false_eq_true, if_false, Int.toNat_natCast, e1]
      rw [Z0 (by omega) (by omega)]
      show loop (t3 (X2 p)) (P ++ [y] ++ p.Parts.drop (k + 1), KB taken p y, (k : Int) + 1) = _
      have e2 : ((k : Nat) : Int) + 1 = ((k + 1 : Nat) : Int) := by push_cast; rfl
      rw [e2, this]
      cases Zau p (mkeys taken ++ ZT (Zbx p y)) (p.Parts.drop (k + 1)) with
      | none => rfl
      | some l => simp
end Go.Vx

namespace Go.Vx
open Go Go.RowKit
def cbF (p : api_Param) (P : List api_Part) (a : Int × Nat) : List layout_bit := P.flatMap fun x => Xr (XD p a.1 a.2 x)
def PBF (p : api_Param) (P : List api_Part) : List layout_bit := P.flatMap fun x => ZT (Zbx p x)
theorem ZkU (p : api_Param) (x : api_Part) : ZT (Zbx p x) = (prs p).flatMap fun a => Xr (XD p a.1 a.2 x) := by
  simp [ZT, Zbx, List.flatMap_map]
theorem Zkj (p : api_Param) (P : List api_Part) (K : List layout_bit) : okB K ((prs p).flatMap (cbF p P)) = okB K (PBF p P) := by
  unfold PBF cbF
  have e : (P.flatMap fun x => ZT (Zbx p x)) = P.flatMap fun x => (prs p).flatMap fun a => Xr (XD p a.1 a.2 x) := by
    congr 1; funext x; exact ZkU p x
  rw [e]
  exact ZkN (ZfF (fun (a : Int × Nat) x => Xr (XD p a.1 a.2 x)) P (prs p))
theorem ZiJ {number : Int} {p : api_Param} (hT : 1 ≤ p.Times) : ∀ (fs : List Int) (out : List api_Cell), out.length % p.Times.toNat = 0 →
    (fs.foldl (ZcJ number p) out).map (fun c => (c.Frame, c.Index.tmod p.Times)) = out.map (fun c => (c.Frame, c.Index.tmod p.Times)) ++ fs.flatMap fun f => (List.range p.Times.toNat).map fun (j : Nat) => (f, (j : Int))
  | [], out, _ => by simp
  | f :: fs, out, h => by
    have hTn : (p.Times.toNat : Int) = p.Times := by omega
    rw [List.foldl_cons, ZiJ hT fs _ (by rw [ZiS, Nat.add_mod, h, Nat.mod_self]; simp)]
    have e : (ZcJ number p out f).map (fun c => (c.Frame, c.Index.tmod p.Times)) = out.map (fun c => (c.Frame, c.Index.tmod p.Times)) ++ (List.range p.Times.toNat).map fun (j : Nat) => (f, (j : Int)) := by
      unfold ZcJ
      rw [List.map_append, List.map_map]
      congr 1
      apply List.map_congr_left
      intro j hj
      have hj' : j < p.Times.toNat := by simpa using hj
      simp only [Function.comp_apply, Zgb]
      congr 1
      rw [← hTn]
      have h1 : (((out.length + j : Nat) : Int)).tmod (p.Times.toNat : Int) = (((out.length + j) % p.Times.toNat : Nat) : Int) := by
        rw [Int.tmod_eq_emod_of_nonneg (by omega)]; rfl
      rw [h1, Nat.add_mod, h, Nat.zero_add, Nat.mod_mod, Nat.mod_eq_of_lt hj']
    rw [e]; simp
theorem ZhB {p : api_Param} (hT : 1 ≤ p.Times) (number : Int) : (cellsN number p).map (fun c => (c.Frame, c.Index.tmod p.Times)) = (prs p).map fun a => (a.1, (a.2 : Int)) := by
  unfold cellsN prs
  rw [ZiJ hT _ [] (by simp)]
  simp [List.map_flatMap, Function.comp_def]
theorem Zkh {p : api_Param} (hT : 1 ≤ p.Times) {number : Int} {k : Nat} {c : api_Cell} (h : (cellsN number p)[k]? = some c) : ∃ a, (prs p)[k]? = some a ∧ c.Frame = a.1 ∧ c.Index.tmod p.Times = (a.2 : Int) := by
  have h1 := congrArg (fun l : List (Int × Int) => l[k]?) (ZhB hT number)
  simp only [List.getElem?_map, h, Option.map_some] at h1
  cases ha : (prs p)[k]? with
  | none => rw [ha] at h1; cases h1
  | some a =>
    rw [ha] at h1
    simp only [Option.map_some, Option.some.injEq, Prod.mk.injEq] at h1
    exact ⟨a, rfl, h1.1, h1.2⟩
theorem Zlm {p : api_Param} (h : PartsOK p) {a : Int × Nat} (ha : a ∈ prs p) : (0 ≤ a.1 ∧ a.1 < 16) ∧ a.2 < p.Times.toNat := by
  obtain ⟨hE, hF, _⟩ := Qx h.tim
  obtain ⟨f, hf, hj⟩ := List.mem_flatMap.1 ha
  obtain ⟨j, hj, rfl⟩ := List.mem_map.1 hj
  obtain ⟨g1, g2, _⟩ := Zeo (p := p) (by omega) 17 p.First f hF.1 hf
  exact ⟨⟨g1, g2⟩, by simpa using hj⟩
theorem Zm1 {p : api_Param} (h : PartsOK p) (hS : p.Step ≤ 60) {P : List api_Part} (hP : ∀ x ∈ P, CanP p x) (h8 : P.length ≤ 8) {c : api_Cell} {a : Int × Nat} (ha : a ∈ prs p) (hc : c.Frame = a.1) (t : RT) (K : List layout_bit) (hK : RK t K) :
    ∃ t', loop (t2 (Jh (wp p P) c (a.2 : Int))) (t, 0) = some (cond (okB K (cbF p P a)) (.inr t') (.inl false)) ∧ (okB K (cbF p P a) = true → RK t' (K ++ cbF p P a)) := by
  obtain ⟨_, _, hT, hS0, _⟩ := Qx h.tim
  obtain ⟨ha1, ha2⟩ := Zlm h ha
  have key : ∀ (n k : Nat) (t : RT) (K : List layout_bit), RK t K → k + n = P.length → ∃ t', loop (t2 (Jh (wp p P) c (a.2 : Int))) (t, (k : Int)) = some (cond (okB K (cbF p (P.drop k) a)) (.inr t') (.inl false)) ∧ (okB K (cbF p (P.drop k) a) = true → RK t' (K ++ cbF p (P.drop k) a)) := by
    intro n
    induction n with
    | zero =>
      intro k t K hK hk
      obtain rfl : k = P.length := by omega
      refine ⟨t, ?_, fun _ => by simpa [cbF] using hK⟩
      rw [ZH]
      simp [Jh, wp, cbF, okB]
    | succ n ih =>
      intro k t K hK hk
      obtain ⟨x, hx⟩ := XA (xs := P) (k := k) (by omega)
      have hlt := QV hx
      have hx2 : (wp p P).Parts[k]? = some x := hx
      have hlt2 : (k : Int) < ((wp p P).Parts.length : Int) := hlt
      have hcn := hP x (List.mem_of_getElem? hx)
      obtain ⟨f1, f2⟩ := hcn.fr
      obtain ⟨w1, w2⟩ := hcn.wd
      have hm := Int.mul_le_mul_of_nonneg_right (show (a.2 : Int) ≤ p.Times - 1 by omega) hS0
      have hm0 : 0 ≤ (a.2 : Int) * p.Step := Int.mul_nonneg (by omega) hS0
      have hpl : Zad (XD p a.1 a.2 x) := Zh4 hcn _ (List.mem_map.2 ⟨a, ha, rfl⟩)
      obtain ⟨t1', ok1, g1, g2⟩ := Zjx (l := [XD p a.1 a.2 x]) (by simp) (fun z hz => by cases List.mem_singleton.1 hz; exact hpl) t
      obtain ⟨g3, g4⟩ := g2 K hK
      have e1 : ZT [XD p a.1 a.2 x] = Xr (XD p a.1 a.2 x) := by simp [ZT]
      rw [e1] at g3 g4
      have e2 : cbF p (P.drop k) a = Xr (XD p a.1 a.2 x) ++ cbF p (P.drop (k + 1)) a := by rw [ZL hx]; simp [cbF]
      have e3 : ((k : Nat) : Int) + 1 = ((k + 1 : Nat) : Int) := by push_cast; rfl
      have e4 : (wp p P).Step = p.Step := rfl
      rw [e2, J9, ZH]
      simp only [Za1, Jh, hlt2, decide_true, if_true, Z9 hx2, Option.bind_some, hc, e4]
      rw [Z0 (z := a.1 + x.Frame) (by omega) (by omega), Z0 (z := (a.2 : Int) * p.Step) (by omega) (by omega), Z0 (z := x.Word + (a.2 : Int) * p.Step) (by omega) (by omega), Z0 (z := (k : Int) + 1) (by omega) (by omega), e3]
      have g1' : Xp t [(api_Place.mk (a.1 + x.Frame) (x.Word + (a.2 : Int) * p.Step) x.Low x.Bits)] = some (ok1, t1') := g1
      rw [g1', Option.bind_some, ← g3]
      cases hok : ok1 with
      | false => exact ⟨t, rfl, fun h => by cases h⟩
      | true =>
        obtain ⟨t', i1, i2⟩ := ih (k + 1) t1' _ (g4 hok) (by omega)
        refine ⟨t', ?_, fun hh => ?_⟩
        · rw [Bool.true_and, ← i1]; rfl
        · have := i2 (by simpa using hh)
          simpa using this
  exact key P.length 0 t K hK (by omega)
theorem ZmE {p : api_Param} (h : PartsOK p) (hS : p.Step ≤ 60) {P : List api_Part} (hP : ∀ x ∈ P, CanP p x) (h8 : P.length ≤ 8) (t : RT) (K : List layout_bit) (hK : RK t K) :
    loop (t2 (Jd p (wp p P) (cellsN 0 p))) (t, 0) = some (cond (okB K (PBF p P)) (.inr ()) (.inl false)) := by
  obtain ⟨_, _, hT, _⟩ := Qx h.tim
  have hT0 : ¬ p.Times = 0 := by omega
  have hlen : (cellsN 0 p).length = (prs p).length := by
    have := congrArg List.length (ZhB hT.1 0); simpa using this
  have h969 := Zdx (number := 0) h
  have key : ∀ (n k : Nat) (t : RT) (K : List layout_bit), RK t K → k + n = (cellsN 0 p).length → loop (t2 (Jd p (wp p P) (cellsN 0 p))) (t, (k : Int)) = some (cond (okB K (((prs p).drop k).flatMap (cbF p P))) (.inr ()) (.inl false)) := by
    intro n
    induction n with
    | zero =>
      intro k t K hK hk
      have hk2 : (prs p).length ≤ k := by omega
      rw [ZH, List.drop_eq_nil_of_le hk2]
      have : ¬ (k : Int) < ((cellsN 0 p).length : Int) := by omega
      simp [Jd, this, okB]
    | succ n ih =>
      intro k t K hK hk
      obtain ⟨c, hc⟩ := XA (xs := cellsN 0 p) (k := k) (by omega)
      obtain ⟨a, ha, h1, h2⟩ := Zkh hT.1 hc
      have hlt := QV hc
      obtain ⟨t', g1, g2⟩ := Zm1 h hS hP h8 (List.mem_of_getElem? ha) h1 t K hK
      have e3 : ((k : Nat) : Int) + 1 = ((k + 1 : Nat) : Int) := by push_cast; rfl
      have er : rem c.Index p.Times = some (a.2 : Int) := by unfold rem; rw [if_neg hT0, h2]
      rw [ZL ha, List.flatMap_cons, J9, ZH]
      simp only [Za1, Jd, hlt, decide_true, if_true, Z9 hc, Option.bind_some, er, g1]
      rw [Z0 (z := (k : Int) + 1) (by omega) (by omega), e3]
      cases hok : okB K (cbF p P a) with
      | false => rfl
      | true =>
        rw [Bool.true_and, ← ih (k + 1) t' _ (g2 hok) (by omega)]
        rfl
  have := key (cellsN 0 p).length 0 t K hK (by omega)
  rw [List.drop_zero, Zkj] at this
  exact this
theorem ZkI {m : api_Map} (hm : MapOK m) {p : api_Param} (h : PartsOK p) (hb40 : bitsN p ≤ 40) (hS : p.Step ≤ 60) {P : List api_Part} {k : Nat} (hP : Pl p P k) {x : api_Part} (hx : p.Parts[k]? = some x) (hu : okB (bitsC (allC 0 m.Params)) (PBF p P) = true)
    {w : Int} (hw : 4 ≤ w) (hw60 : w ≤ 60) {y : api_Part} (hy : y ∈ ZeW x w) :
    ZbZ m p (wp p (P ++ [y])) = some (decide (w + (p.Times - 1) * p.Step ≤ 60) && okB (bitsC (allC 0 m.Params) ++ PBF p P) (ZT (Zbx p y))) := by
  obtain ⟨_, _, hT, hS0, _⟩ := Qx h.tim
  have hkl := (List.getElem?_eq_some_iff.1 hx).1
  have h8 := h.len.1
  have hlen := hP.len (by omega)
  have hin := ZfV h (List.mem_of_getElem? hx)
  obtain ⟨b, hb, rfl⟩ := List.mem_map.1 hy
  have hb' : b < 12 - x.Bits.toNat := by simpa using hb
  obtain ⟨q1, q2⟩ := hin.bi
  obtain ⟨q3, q4⟩ := hin.fr
  have hpy : Zbk ⟨x.Frame, w, (b : Int), x.Bits⟩ = true := Jc.2 ⟨⟨q3, q4⟩, ⟨hw, hw60⟩, ⟨by simp only; omega, by simp only; omega⟩, q1, by simp only; omega⟩
  have hall : ∀ z ∈ P ++ [(⟨x.Frame, w, (b : Int), x.Bits⟩ : api_Part)], Zbk z = true := fun z hz => by
    rcases List.mem_append.1 hz with hz | hz
    · exact (ZdK (hP.can z hz) hT.1 hS0).1
    · cases List.mem_singleton.1 hz
      exact hpy
  have hbits : bitsN (wp p (P ++ [(⟨x.Frame, w, (b : Int), x.Bits⟩ : api_Part)])) ≤ 40 := by
    have e1 : ((P ++ [(⟨x.Frame, w, (b : Int), x.Bits⟩ : api_Part)]).map (·.Bits)) = (p.Parts.take (k + 1)).map (·.Bits) := by rw [ZgD hx]; simp [hP.bi]
    have e2 : bitsN p = ((p.Parts.take (k + 1)).map (·.Bits)).sum + ((p.Parts.drop (k + 1)).map (·.Bits)).sum := by
      unfold bitsN
      rw [← List.sum_append, ← List.map_append, List.take_append_drop]
    have e3 := (Zje (l := p.Parts.drop (k + 1)) fun z hz => h.len.2 z (List.mem_of_mem_drop hz)).1
    show ((P ++ [(⟨x.Frame, w, (b : Int), x.Bits⟩ : api_Part)]).map (·.Bits)).sum ≤ 40
    rw [e1]; omega
  have hF : Zdk (wp p (P ++ [(⟨x.Frame, w, (b : Int), x.Bits⟩ : api_Part)])) = 0 := by
    unfold Zdk
    have e1 : (wp p (P ++ [(⟨x.Frame, w, (b : Int), x.Bits⟩ : api_Part)])).Parts = P ++ [(⟨x.Frame, w, (b : Int), x.Bits⟩ : api_Part)] := rfl
    rw [e1, if_neg (by simp), if_neg (by simp; omega), if_pos (List.all_eq_true.2 hall), if_neg (by omega)]
  have hst : ∀ z, stepOK (wp p (P ++ [(⟨x.Frame, w, (b : Int), x.Bits⟩ : api_Part)])) z = stepOK p z := fun _ => rfl
  have hTt : ZdF (wp p (P ++ [(⟨x.Frame, w, (b : Int), x.Bits⟩ : api_Part)])) = if w + (p.Times - 1) * p.Step ≤ 60 then 0 else 9 := by
    unfold ZdF
    have e0 : timA (wp p (P ++ [(⟨x.Frame, w, (b : Int), x.Bits⟩ : api_Part)])) = true := h.tim
    rw [if_pos e0]
    have e1 : ((wp p (P ++ [(⟨x.Frame, w, (b : Int), x.Bits⟩ : api_Part)])).Parts.all (stepOK (wp p (P ++ [(⟨x.Frame, w, (b : Int), x.Bits⟩ : api_Part)])))) = decide (w + (p.Times - 1) * p.Step ≤ 60) := by
      show ((P ++ [(⟨x.Frame, w, (b : Int), x.Bits⟩ : api_Part)]).all (stepOK p)) = _
      rw [List.all_append]
      have : P.all (stepOK p) = true := List.all_eq_true.2 fun z hz => (ZdK (hP.can z hz) hT.1 hS0).2 hS
      rw [this]
      simp [stepOK, hS]
    rw [e1]
    by_cases hq : w + (p.Times - 1) * p.Step ≤ 60 <;> simp [hq]
  unfold ZbZ
  rw [ZiH hF, Option.bind_some, hTt]
  by_cases hq : w + (p.Times - 1) * p.Step ≤ 60
  · rw [if_pos hq, if_neg (by simp), ZjU hm, Option.bind_some]
    have hcok : ZcP (allC 0 m.Params) := by
      refine ⟨by have := hm.cnt; omega, fun c hc => ?_⟩
      obtain ⟨j, z, z1, z2, _, f, t, z3, z4, _, z5⟩ := Zjo hm hc
      rw [z5]
      refine ⟨by have := z2.len.1; simp; omega, fun q hq => ?_⟩
      obtain ⟨r, hr, rfl⟩ := List.mem_map.1 hq
      exact ZhH z2.toPartsOK hr _ _
    obtain ⟨t', ok', g1, g2⟩ := Zfb hcok []
    obtain ⟨g3, g4⟩ := g2 [] ⟨rfl, fun p hp => by cases hp⟩
    rw [hm.uniq] at g3
    have hRK := g4 g3
    have hcan : CanP p ⟨x.Frame, w, (b : Int), x.Bits⟩ := (ZgZ hin hw hq hy).1
    have hl1 := ZmE h hS (P := P ++ [(⟨x.Frame, w, (b : Int), x.Bits⟩ : api_Part)]) (fun z hz => by
      rcases List.mem_append.1 hz with hz | hz
      · exact hP.can z hz
      · cases List.mem_singleton.1 hz
        exact hcan) (by simp; omega) t' _ hRK
    rw [g1, Option.bind_some, Zeh h, Option.bind_some, hl1]
    have e4 : PBF p (P ++ [(⟨x.Frame, w, (b : Int), x.Bits⟩ : api_Part)]) = PBF p P ++ ZT (Zbx p ⟨x.Frame, w, (b : Int), x.Bits⟩) := by simp [PBF]
    rw [e4, J9]
    simp only [List.nil_append]
    rw [hu, decide_eq_true hq]
    simp only [Bool.true_and]
    cases okB (bitsC (allC 0 m.Params) ++ PBF p P) (ZT (Zbx p ⟨x.Frame, w, (b : Int), x.Bits⟩)) <;> rfl
  · rw [if_neg hq, if_pos (by simp), decide_eq_false hq, Bool.false_and]
end Go.Vx

namespace Go.Vx
open Go Go.RowKit
section
variable {m : api_Map} {p : api_Param} (hm : MapOK m) (h : PartsOK p) (hb40 : bitsN p ≤ 40) (hS : p.Step ≤ 60) {P : List api_Part} {k : Nat} (hP : Pl p P k) {x : api_Part} (hx : p.Parts[k]? = some x) (hu : okB (bitsC (allC 0 m.Params)) (PBF p P) = true)
include hm h hb40 hS hP hx hu
theorem Znf {w : Int} (hw : 4 ≤ w) (hw60 : w ≤ 60) : ∀ (n b : Nat) (x5 : api_Part), b + n = 12 - x.Bits.toNat → x5.Frame = x.Frame → x5.Bits = x.Bits →
    ∃ x', loop (t4 (Jm m p w)) (P, x5, false, (b : Int)) = some (match (if w + (p.Times - 1) * p.Step ≤ 60 then X6 (ZiD p (bitsC (allC 0 m.Params) ++ PBF p P)) ((ZeW x w).drop b) else none) with | some y => (P ++ [y], y, true) | none => (P, x', false)) ∧ x'.Frame = x.Frame ∧ x'.Bits = x.Bits := by
  have hin := ZfV h (List.mem_of_getElem? hx)
  obtain ⟨b1, b2⟩ := hin.bi
  have hkl := (List.getElem?_eq_some_iff.1 hx).1
  have h8 := h.len.1
  have hlen := hP.len (by omega)
  have hrl : (ZeW x w).length = 12 - x.Bits.toNat := by simp [ZeW]
  intro n
  induction n with
  | zero =>
    intro b x5 hb e1 e2
    refine ⟨x5, ?_, e1, e2⟩
    rw [ZH, List.drop_eq_nil_of_le (by omega)]
    simp only [Zho, Jm, e2]
    rw [Z0 (by omega) (by omega), decide_eq_false (show ¬ (b : Int) + x.Bits ≤ 11 by omega), if_neg (by simp)]
    simp [X6]
  | succ n ih =>
    intro b x5 hb e1 e2
    have hy : (ZeW x w)[b]? = some ⟨x.Frame, w, (b : Int), x.Bits⟩ := by
      simp only [ZeW, List.getElem?_map]
      rw [List.getElem?_range (by omega)]
      rfl
    have hpl := ZkI hm h hb40 hS hP hx hu hw hw60 (List.mem_of_getElem? hy)
    have hbd : (b : Int) + x.Bits ≤ 11 := by omega
    have e3 : ((b : Nat) : Int) + 1 = ((b + 1 : Nat) : Int) := by push_cast; rfl
    have e0 : wp p (P ++ [(⟨x.Frame, w, (b : Int), x.Bits⟩ : api_Part)]) = api_Param.mk p.Name p.Kind (P ++ [(⟨x.Frame, w, (b : Int), x.Bits⟩ : api_Part)]) p.First p.Every p.Times p.Step p.Names := rfl
    rw [e0] at hpl
    rw [ZH, ZL hy]
    simp only [Zho, Jm, e1, e2]
    rw [Z0 (z := (b : Int) + x.Bits) (by omega) (by omega), decide_eq_true hbd, if_pos (by rfl), Zam (by simp; omega), Option.bind_some, List.nil_append, Zam (by simp; omega), Option.bind_some, hpl, Option.bind_some, Z0 (z := (b : Int) + 1) (by omega) (by omega), e3]
    by_cases hq : w + (p.Times - 1) * p.Step ≤ 60
    · rw [if_pos hq, decide_eq_true hq, Bool.true_and]
      simp only [X6, ZiD]
      cases hok : okB (bitsC (allC 0 m.Params) ++ PBF p P) (ZT (Zbx p ⟨x.Frame, w, (b : Int), x.Bits⟩)) with
      | true =>
        refine ⟨x, ?_, rfl, rfl⟩
        rw [if_pos rfl, if_pos rfl]
        show loop (t4 (Jm m p w)) (P ++ [(⟨x.Frame, w, (b : Int), x.Bits⟩ : api_Part)], ⟨x.Frame, w, (b : Int), x.Bits⟩, true, ((b + 1 : Nat) : Int)) = _
        rw [ZH]
        simp only [Zho, Jm, Bool.not_true, Bool.and_false, Bool.false_eq_true, if_false]
        rfl
      | false =>
        obtain ⟨x', i1, i2, i3⟩ := ih (b + 1) ⟨x.Frame, w, (b : Int), x.Bits⟩ (by omega) rfl rfl
        rw [if_pos hq] at i1
        refine ⟨x', ?_, i2, i3⟩
        rw [if_neg (by simp), if_neg (by simp)]
        exact i1
    · rw [if_neg hq, decide_eq_false hq, Bool.false_and, if_neg (by simp)]
      obtain ⟨x', i1, i2, i3⟩ := ih (b + 1) ⟨x.Frame, w, (b : Int), x.Bits⟩ (by omega) rfl rfl
      rw [if_neg hq] at i1
      exact ⟨x', i1, i2, i3⟩
theorem Znh : ∀ (n a : Nat) (x3 : api_Part), a + n = 57 → x3.Frame = x.Frame → x3.Bits = x.Bits →
    loop (t4 (Jl m p)) (P, x3, false, 4 + (a : Int)) = some (match ZeQ p (bitsC (allC 0 m.Params) ++ PBF p P) x n a with | some y => (P ++ [y], true) | none => (P, false)) := by
  have hin := ZfV h (List.mem_of_getElem? hx)
  obtain ⟨b1, b2⟩ := hin.bi
  intro n
  induction n with
  | zero =>
    intro a x3 ha e1 e2
    rw [ZH]
    simp only [Zho, Jl, ZeQ]
    rw [decide_eq_false (show ¬ 4 + (a : Int) ≤ 60 by omega), if_neg (by simp)]
    rfl
  | succ n ih =>
    intro a x3 ha e1 e2
    obtain ⟨x', g1, g2, g3⟩ := Znf hm h hb40 hS hP hx hu (w := 4 + (a : Int)) (by omega) (by omega) (12 - x.Bits.toNat) 0 x3 (by omega) e1 e2
    have e3 : 4 + (a : Int) + 1 = 4 + ((a + 1 : Nat) : Int) := by push_cast; omega
    rw [ZH]
    simp only [Zho, Jl]
    rw [decide_eq_true (show 4 + (a : Int) ≤ 60 by omega), if_pos (by rfl)]
    have g1' : loop (t4 (Jm m p (4 + (a : Int)))) (P, x3, false, 0) = _ := g1
    rw [g1', Option.bind_some, Z0 (z := 4 + (a : Int) + 1) (by omega) (by omega), e3]
    simp only [ZeQ, Zhb, List.drop_zero]
    cases (if 4 + (a : Int) + (p.Times - 1) * p.Step ≤ 60 then X6 (ZiD p (bitsC (allC 0 m.Params) ++ PBF p P)) (ZeW x (4 + (a : Int))) else none) with
    | some y =>
      show loop (t4 (Jl m p)) (P ++ [y], y, true, 4 + ((a + 1 : Nat) : Int)) = _
      rw [ZH]
      simp only [Zho, Jl, Bool.not_true, Bool.and_false, Bool.false_eq_true, if_false]
      rfl
    | none =>
      have := ih (a + 1) x' (by omega) g2 g3
      rw [← this]
      rfl
end
theorem Zm9 {m : api_Map} {p : api_Param} (hm : MapOK m) (h : PartsOK p) (hb40 : bitsN p ≤ 40) (hS : p.Step ≤ 60) : ∀ (n k : Nat) (P : List api_Part), k + n = p.Parts.length → Pl p P k → okB (bitsC (allC 0 m.Params)) (PBF p P) = true →
    loop (t2 (J2 m p)) (P, (k : Int)) = some (match Zau p (bitsC (allC 0 m.Params) ++ PBF p P) (p.Parts.drop k) with | some l => .inr (P ++ l) | none => .inl ((api_Param.mk [] 0 [] 0 0 0 0 []), 4)) := by
  have h8 := h.len.1
  intro n
  induction n with
  | zero =>
    intro k P hk hP hu
    obtain rfl : k = p.Parts.length := by omega
    rw [ZH]
    simp [J2, Zau]
  | succ n ih =>
    intro k P hk hP hu
    obtain ⟨x, hx⟩ := XA (xs := p.Parts) (k := k) (by omega)
    have hlt := QV hx
    have hin := ZfV h (List.mem_of_getElem? hx)
    have g1 := Znh hm h hb40 hS hP hx hu 57 0 x (by omega) rfl rfl
    have g1' : loop (t4 (Jl m p)) (P, x, false, 4) = _ := g1
    have e3 : ((k : Nat) : Int) + 1 = ((k + 1 : Nat) : Int) := by push_cast; rfl
    rw [ZH, ZL hx]
    simp only [Za1, J2, hlt, decide_true, if_true, Z9 hx, Option.bind_some]
    rw [g1', Option.bind_some, Z0 (z := (k : Int) + 1) (by omega) (by omega), e3]
    simp only [Zau, Zj2]
    cases hf : ZeQ p (bitsC (allC 0 m.Params) ++ PBF p P) x 57 0 with
    | none => rfl
    | some y =>
      obtain ⟨c1, c2, c3, c4⟩ := Zfg hin hf
      have hP' := hP.add hx c1 c2 c3
      have e4 : PBF p (P ++ [y]) = PBF p P ++ ZT (Zbx p y) := by simp [PBF]
      have := ih (k + 1) (P ++ [y]) (by omega) hP' (by rw [e4, J9, hu, c4]; rfl)
      rw [e4, ← List.append_assoc] at this
      show loop (t2 (J2 m p)) (P ++ [y], ((k + 1 : Nat) : Int)) = _
      rw [this]
      show _ = some (match (Zau p (bitsC (allC 0 m.Params) ++ PBF p P ++ ZT (Zbx p y)) (p.Parts.drop (k + 1))).map (y :: ·) with | some l => (Sum.inr (P ++ l) : (api_Param × Int) ⊕ List api_Part) | none => Sum.inl ((api_Param.mk [] 0 [] 0 0 0 0 []), 4))
      cases Zau p (bitsC (allC 0 m.Params) ++ PBF p P ++ ZT (Zbx p y)) (p.Parts.drop (k + 1)) with
      | none => rfl
      | some l => simp only [Option.map_some, List.append_assoc, List.singleton_append]
theorem Zka {p : api_Param} (h : PartsOK p) : ∀ (n k : Nat) (P : List api_Part) (K : List layout_bit) (l : List api_Part), k + n = p.Parts.length → Pl p P k → Zau p K (p.Parts.drop k) = some l → Pl p (P ++ l) p.Parts.length := by
  intro n
  induction n with
  | zero =>
    intro k P K l hk hP hl
    obtain rfl : k = p.Parts.length := by omega
    rw [List.drop_eq_nil_of_le (Nat.le_refl _)] at hl
    cases hl
    simpa using hP
  | succ n ih =>
    intro k P K l hk hP hl
    obtain ⟨x, hx⟩ := XA (xs := p.Parts) (k := k) (by omega)
    have hin := ZfV h (List.mem_of_getElem? hx)
    rw [ZL hx] at hl
    simp only [Zau] at hl
    cases hf : Zj2 p K x with
    | none => rw [hf] at hl; cases hl
    | some y =>
      rw [hf] at hl
      obtain ⟨l', h1, rfl⟩ := Option.map_eq_some_iff.1 hl
      obtain ⟨c1, c2, c3, _⟩ := Zfg hin hf
      have := ih (k + 1) (P ++ [y]) _ l' (by omega) (hP.add hx c1 c2 c3) h1
      simpa using this
def zPF : api_Param := api_Param.mk [] 0 [] 0 0 0 0 []
def Zhf (m : api_Map) (p : api_Param) (l : List api_Part) : api_Map := ⟨m.Version, m.Params ++ [wp p l]⟩
def Zfw (m : api_Map) (p : api_Param) : api_Param × Int :=
  if ZcN m = 0 then (if Zcp p = 0 then (if (m.Params.any fun q => decide (q.Name = p.Name)) = true then (zPF, 5) else
    match Zau p (bitsC (allC 0 m.Params)) p.Parts with
    | none => (zPF, 4)
    | some l => if ZcN (Zhf m p l) = 0 then (wp p l, 0) else (zPF, ZcN (Zhf m p l))) else (zPF, Zcp p)) else (zPF, ZcN m)
theorem ZgC : ∀ (l : List api_Cell) (k : Nat), mkeys (ZhJ k l) = bitsC l
  | [], _ => rfl
  | c :: l, k => by
    have := ZgC l (k + 1)
    simp only [ZhJ, bitsC, List.flatMap_cons] at this ⊢
    rw [← this]
    simp [mkeys, Function.comp_def]
theorem Zkd {p : api_Param} (h : Zcp p = 0) : p.Step ≤ 60 := by
  have hp := Ze7 h
  obtain ⟨h1, _⟩ := hp.len
  cases hl : p.Parts with
  | nil =>
    have := hp.bits
    simp [bitsN, hl] at this
  | cons x tl =>
    have := hp.stp x (by rw [hl]; exact List.mem_cons_self)
    simp only [stepOK, Bool.and_eq_true, decide_eq_true_eq] at this
    exact this.1
theorem Pl.zero (p : api_Param) : Pl p [] 0 := ⟨rfl, rfl, fun x hx => by cases hx⟩
theorem ZmI (m : api_Map) (p : api_Param) : Zcw m p = some (Zfw m p) := by
  obtain ⟨a, hc⟩ := ZgP m
  unfold Zcw Zfw
  rw [hc, Option.bind_some]
  by_cases h1 : ZcN m = 0
  case neg => rw [if_pos (ZfH h1), if_neg h1]; rfl
  rw [if_neg (by simp [h1]), if_pos h1, Zfj, Option.bind_some]
  by_cases h2 : Zcp p = 0
  case neg => rw [if_pos (ZfH h2), if_neg h2]; rfl
  have hm := ZhN h1
  have hp := Ze7 h2
  rw [if_neg (by simp [h2]), if_pos h2, Zhu (l := m.Params) (f := fun z0 => Zcm z0 p) (g := fun q => decide (q.Name = p.Name)) (fun q => rfl) (by have := hm.len; omega), Option.bind_some]
  by_cases h3 : (m.Params.any fun q => decide (q.Name = p.Name)) = true
  · rw [if_pos h3, if_pos h3]; rfl
  have hco : ZcP (allC 0 m.Params) := ZjO hm
  rw [if_neg h3, if_neg h3, Zmp h2, Option.bind_some, Zko hm, Option.bind_some, ZjY hco hm.uniq, Option.bind_some]
  have hl := ZlY hp.toPartsOK (Zkd h2) p.Parts.length 0 [] (ZhJ 0 (allC 0 m.Params)) (by omega) (Pl.zero p)
  rw [ZgC, List.nil_append, List.drop_zero] at hl
  have hl' : loop (t3 (X2 p)) (p.Parts, ZhJ 0 (allC 0 m.Params), 0) = _ := hl
  rw [hl', Option.bind_some]
  cases hf : Zau p (bitsC (allC 0 m.Params)) p.Parts with
  | none => rfl
  | some l =>
    have hlen := hm.len
    simp only [Sum.elim_inr, t1, List.nil_append]
    unfold ZeI
    rw [Zam (by simp; omega), Option.bind_some, List.nil_append, Zam (by simp; omega), Option.bind_some]
    obtain ⟨a2, hc2⟩ := ZgP (Zhf m p l)
    have hc2' : QG (api_Map.mk m.Version (m.Params ++ [api_Param.mk p.Name p.Kind l p.First p.Every p.Times p.Step p.Names])) = some (a2, ZcN (Zhf m p l)) := hc2
    rw [hc2', Option.bind_some]
    by_cases h4 : ZcN (Zhf m p l) = 0
    · rw [if_neg (by simp [h4])]; simp only [h4, if_true]; rfl
    · rw [if_pos (ZfH h4)]; simp only [h4, if_false]; rfl
theorem ZfE {n : Int} (h1 : -9223372036854775808 ≤ n) (h2 : n ≤ 9223372036854775807) : wfI .i64 n := by
  show (decide (IntKind.i64.min ≤ n) && decide (n ≤ IntKind.i64.max)) = true
  have e1 : IntKind.i64.min = -9223372036854775808 := by decide
  have e2 : IntKind.i64.max = 9223372036854775807 := by decide
  rw [e1, e2]; simp [h1, h2]
theorem Zmj {m : api_Map} {p : api_Param} (hs : ZaT m) (hp : XU p) (hc : Zcp p = 0) (hm : m.Params.length ≤ 200) {l : List api_Part} (hl : Pl p l p.Parts.length) : ZaT (Zhf m p l) := by
  have hw := Ze7 hc
  have h8 := hw.len.1
  have hlen := hl.len (Nat.le_refl _)
  refine ⟨hs.1, ⟨by show (m.Params ++ [wp p l]).length ≤ _; simp; omega, fun x hx => ?_⟩, trivial⟩
  rcases List.mem_append.1 hx with hx | hx
  · exact hs.2.1.2 x hx
  · obtain rfl : x = wp p l := by simpa using hx
    obtain ⟨a1, a2, a3, a4, a5, a6, a7, a8, _⟩ := hp
    obtain ⟨_, _, hT, hS0, _⟩ := Qx hw.tim
    refine ⟨a1, a2, ⟨by show l.length ≤ _; omega, fun y hy => ?_⟩, a4, a5, a6, a7, a8, trivial⟩
    have := Jc.1 (ZdK (hl.can y hy) hT.1 hS0).1
    exact ⟨ZfE (by omega) (by omega), ZfE (by omega) (by omega), ZfE (by omega) (by omega), ZfE (by omega) (by omega), trivial⟩
theorem Zmm (m : api_Map) (p : api_Param) (hs : ZaT m) (hps : XU p) : Zeg m p = some (Zfw m p) := by
  obtain ⟨a, hc⟩ := Zix m hs
  unfold Zeg Zfw
  rw [hc, Option.bind_some]
  by_cases h1 : ZcN m = 0
  case neg => rw [if_pos (ZfH h1), if_neg h1]; rfl
  rw [if_neg (by simp [h1]), if_pos h1, ZeL p hps, Option.bind_some]
  by_cases h2 : Zcp p = 0
  case neg => rw [if_pos (ZfH h2), if_neg h2]; rfl
  have hm := ZhN h1
  have hp := Ze7 h2
  have hlen := hm.len
  have hL := ZbH (xs := m.Params) (fun y : api_Param => if y.Name = p.Name then some () else none) (fun _ => (Sum.inl (zPF, 5) : (api_Param × Int) ⊕ Unit)) (Sum.inr ()) (body := Zb7 m p) (fun j y hy => by
    have hj := QV hy
    have hj2 := (List.getElem?_eq_some_iff.1 hy).1
    simp only [Zb7, hj, decide_true, if_true, Z9 hy, Option.bind_some]
    rw [Z0 (by omega) (by omega)]
    by_cases hxy : y.Name = p.Name <;> simp [hxy, zPF]) (by simp [Zb7])
  have fnd : ∀ l : List api_Param, X6 (fun y : api_Param => if y.Name = p.Name then some () else none) l = if (l.any fun q => decide (q.Name = p.Name)) = true then some () else none := by
    intro l
    induction l with
    | nil => rfl
    | cons y l ih =>
      by_cases hy : y.Name = p.Name
      · simp [X6, hy]
      · simp [X6, hy, ih]
  rw [if_neg (by simp [h2]), if_pos h2, hL, fnd, Option.bind_some]
  by_cases h3 : (m.Params.any fun q => decide (q.Name = p.Name)) = true
  · rw [if_pos h3, if_pos h3]; rfl
  rw [if_neg h3, if_neg h3]
  simp only [Zcy, Sum.elim_inr, t0]
  have hl := Zm9 hm hp.toPartsOK hp.bits.2 (Zkd h2) p.Parts.length 0 [] (by omega) (Pl.zero p) rfl
  have e0 : PBF p [] = [] := rfl
  rw [e0, List.append_nil, List.drop_zero] at hl
  have hl' : loop (t2 (J2 m p)) ([], 0) = _ := hl
  rw [hl', Option.bind_some]
  cases hf : Zau p (bitsC (allC 0 m.Params)) p.Parts with
  | none => rfl
  | some l =>
    have hpl : Pl p l p.Parts.length := by
      have := Zka hp.toPartsOK p.Parts.length 0 [] _ l (by omega) (Pl.zero p) (by rw [List.drop_zero]; exact hf)
      simpa using this
    simp only [Sum.elim_inr, t1, List.nil_append]
    rw [Zam (by simp; omega), Option.bind_some, List.nil_append, Zam (by simp; omega), Option.bind_some]
    obtain ⟨a2, hc2⟩ := Zix (Zhf m p l) (Zmj hs hps h2 hlen hpl)
    have hc2' : ZaW (api_Map.mk m.Version (m.Params ++ [api_Param.mk p.Name p.Kind l p.First p.Every p.Times p.Step p.Names])) = some (a2, ZcN (Zhf m p l)) := hc2
    rw [hc2', Option.bind_some]
    by_cases h4 : ZcN (Zhf m p l) = 0
    · rw [if_neg (by simp [h4])]; simp only [h4, if_true]; rfl
    · rw [if_pos (ZfH h4)]; simp only [h4, if_false]; rfl
theorem ZmO : Xc zPF zPF = some true := by
  unfold Xc
  rw [Zge (by simp [zPF]), ZgL (by simp [zPF])]
  simp
theorem Zjn {m : api_Map} {p : api_Param} (h : (Zfw m p).2 = 0) : ZcN m = 0 ∧ ZcN ⟨m.Version, m.Params ++ [(Zfw m p).1]⟩ = 0 := by
  unfold Zfw at h ⊢
  by_cases h1 : ZcN m = 0
  case neg => rw [if_neg h1] at h; exact absurd h h1
  rw [if_pos h1] at h ⊢
  by_cases h2 : Zcp p = 0
  case neg => rw [if_neg h2] at h; exact absurd h h2
  rw [if_pos h2] at h ⊢
  by_cases h3 : (m.Params.any fun q => decide (q.Name = p.Name)) = true
  · rw [if_pos h3] at h; cases h
  rw [if_neg h3] at h ⊢
  cases hf : Zau p (bitsC (allC 0 m.Params)) p.Parts with
  | none => rw [hf] at h; cases h
  | some l =>
    rw [hf] at h
    simp only at h ⊢
    by_cases h4 : ZcN (Zhf m p l) = 0
    · rw [if_pos h4]; exact ⟨h1, h4⟩
    · rw [if_neg h4] at h; exact absurd h h4
theorem Zj0 (m : api_Map) (p : api_Param) : Xc (Zfw m p).1 (Zfw m p).1 = some true := by
  by_cases h : (Zfw m p).2 = 0
  · have h1 := (Zjn h).2
    refine Zij (Zlj h1 _ ?_)
    simp
  · have e : (Zfw m p).1 = zPF := by
      unfold Zfw at h ⊢
      repeat' split
      all_goals first | rfl | skip
      all_goals (exfalso; apply h; simp_all)
    rw [e]; exact ZmO
theorem ZkK (m : api_Map) (p : api_Param) (hs : ZaT m) (hps : XU p) : Q6 m p = some true := by
  unfold Q6
  rw [ZmI, Zmm m p hs hps]
  simp only [Option.bind_some, decide_true, Bool.not_true, beq_self_eq_true, ZjZ, Zj0, Bool.or_self, Bool.false_eq_true, if_false]
  by_cases h : (Zfw m p).2 = 0
  · obtain ⟨h1, h2⟩ := Zjn h
    have hlen := (ZhN h1).len
    obtain ⟨a, hc⟩ := ZgP ⟨m.Version, m.Params ++ [(Zfw m p).1]⟩
    rw [if_neg (by simp [h])]
    unfold ZeI
    rw [Zam (by simp; omega), Option.bind_some, List.nil_append, Zam (by simp; omega), Option.bind_some]
    unfold Zco
    rw [hc, Option.bind_some, h2]
    simp only [Option.bind_some, decide_true, beq_self_eq_true, ZjZ, Ziw, Bool.and_self]
  · rw [if_pos (ZfH h), Ziw]; rfl
end Go.Vx
