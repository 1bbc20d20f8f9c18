/- A text of the proof: a verified executor of the program form, or the contracts of the functions that the law reaches. -/
import Derived.Test.YtnlmjeleocelgaaGreatDoorPA
import Derived.Test.YtnlmjeleocelgaaGreatDoorShT
set_option linter.all false
namespace Go.Vx
open Go Go.RowKit
set_option linter.unusedVariables false

noncomputable def Zd3 (data : List Int) (f2 : Vector Int 64) (i : Int) : Option (((Vector Int 64) × Int) ⊕ ((Vector Int 64) × Int) ⊕ ((Vector Int 64))) :=
  if (decide (i < (data.length : Int))) = true then
  (idx data i).bind fun x3 =>
  if ((decide (x3 < 0)) || (decide (2047 < x3))) = true then
  some (.inr (.inl ((#v[0, 0, 0, 0, 0, 0, 0, 0, 0, 0, 0, 0, 0, 0, 0, 0, 0, 0, 0, 0, 0, 0, 0, 0, 0, 0, 0, 0, 0, 0, 0, 0, 0, 0, 0, 0, 0, 0, 0, 0, 0, 0, 0, 0, 0, 0, 0, 0, 0, 0, 0, 0, 0, 0, 0, 0, 0, 0, 0, 0, 0, 0, 0, 0] : Vector Int 64), 9)))
  else
  (ZZ f2 (i64 (3 + i))).bind fun x4 =>
  some (.inl ((Jt f2 (i64 (3 + i)) (u16 x3)), (i64 (i + 1))))
  else
  some (.inr (.inr f2))
theorem Zin (data : List Int) (f2 : Vector Int 64) (i : Int) : Le (Zd3 data f2 i) (ZdJ data f2 i) := by
  unfold Zd3 ZdJ
  with_reducible repeat' (first | exact Le.refl _ | apply Le.bind | apply Le.ite | intro _)

noncomputable def ZdX (n2 : Int) (ones2 : Int) : Option ((Int × Int) ⊕ (Int)) :=
  if (decide (0 < n2)) = true then
  (rem n2 2).bind fun q =>
  (quo .i64 n2 2).bind fun q2 =>
  some (.inl (q2, (i64 (ones2 + q))))
  else
  some (.inr ones2)
theorem ZhS (n2 : Int) (ones2 : Int) : Le (ZdX n2 ones2) (ZdD n2 ones2) := by
  unfold ZdX ZdD
  with_reducible repeat' (first | exact Le.refl _ | apply Le.bind | apply Le.ite | intro _)

noncomputable def Zf7 (n : Int) : Option Bool :=
  ((QK (t2 (ZdX)) (n, 0)) : Option ((Int))).bind (t1 fun (ones : Int) =>
  (rem ones 2).bind fun q3 =>
  some (decide (q3 = 1)))
theorem Zjn (n : Int) : Le (Zf7 n) (Zfe n) := by
  unfold Zf7 Zfe
  with_reducible repeat' (first | exact Le.refl _ | apply Le.bind | apply Le.loop | apply Le.t1 | apply Le.t2 | apply ZhS | intro _)

noncomputable def Zbb (data : Int) : Option Int :=
  (Zf7 data).bind fun y =>
  if y = true then
  some data
  else
  some (i64 (data + 2048))
theorem Zei (data : Int) : Le (Zbb data) (Zbf data) := by
  unfold Zbb Zbf
  with_reducible repeat' (first | exact Le.refl _ | apply Le.bind | apply Le.ite | apply Zjn | intro _)

noncomputable def Zck (f3 : Vector Int 64) (i : Int) : Option (((Vector Int 64) × Int) ⊕ ((Vector Int 64))) :=
  if (decide (i ≤ 60)) = true then
  (ZZ f3 i).bind fun x =>
  (rem (i64 x) 2048).bind fun q =>
  (Zbb q).bind fun y =>
  (ZZ f3 i).bind fun x2 =>
  some (.inl ((Jt f3 i (u16 y)), (i64 (i + 1))))
  else
  some (.inr f3)
theorem Zgy (f3 : Vector Int 64) (i : Int) : Le (Zck f3 i) (Zbn f3 i) := by
  unfold Zck Zbn
  with_reducible repeat' (first | exact Le.refl _ | apply Le.bind | apply Le.ite | apply Zei | intro _)

noncomputable def ZcK (f : Vector Int 64) : Option Int :=
  (ZZ f 1).bind fun x =>
  (rem (i64 x) 2048).bind fun q =>
  (ZZ f 2).bind fun x2 =>
  (rem (i64 x2) 2048).bind fun q2 =>
  some (i64 (q + (i64 (q2 * 2048))))
theorem Zg5 (f : Vector Int 64) : Le (ZcK f) (ZaN f) := by
  unfold ZcK ZaN
  with_reducible repeat' (first | exact Le.refl _ | apply Le.bind | intro _)

noncomputable def Zd1 (number : Int) : Option Int :=
  (rem number 4).bind fun q =>
  (ZZ (#v[583, 1464, 2631, 3512] : Vector Int 4) q).bind fun x =>
  some x
theorem Zif (number : Int) : Le (Zd1 number) (ZcF number) := by
  unfold Zd1 ZcF
  with_reducible repeat' (first | exact Le.refl _ | apply Le.bind | intro _)

noncomputable def ZdW (f : Vector Int 64) (x2 : Int) (i : Int) : Option ((Int × Int) ⊕ (Int)) :=
  if (decide (i ≤ 60)) = true then
  (ZZ f i).bind fun x3 =>
  (rem (i64 x3) 2048).bind fun q =>
  some (.inl ((ZaZ .i64 x2 q), (i64 (i + 1))))
  else
  some (.inr x2)
theorem ZhY (f : Vector Int 64) (x2 : Int) (i : Int) : Le (ZdW f x2 i) (ZdK f x2 i) := by
  unfold ZdW ZdK
  with_reducible repeat' (first | exact Le.refl _ | apply Le.bind | apply Le.ite | intro _)

noncomputable def ZfS (f : Vector Int 64) : Option Int :=
  ((QK (t2 (ZdW f)) (0, 1)) : Option ((Int))).bind (t1 fun (x : Int) =>
  some x)
theorem Zjq (f : Vector Int 64) : Le (ZfS f) (Zfr f) := by
  unfold ZfS Zfr
  with_reducible repeat' (first | exact Le.refl _ | apply Le.bind | apply Le.loop | apply Le.t1 | apply Le.t2 | apply ZhY | intro _)

noncomputable def ZcO (f : Vector Int 64) (rest2 : Int) (i : Int) : Option ((Int × Int) ⊕ (Int)) :=
  if (decide (i < 766)) = true then
  ((if (decide (i < 744)) = true then
  (quo .i64 i 12).bind fun q =>
  (ZZ f q).bind fun x =>
  (rem i 12).bind fun q2 =>
  (shr .i64 (i64 x) (i64 (11 - q2))).bind fun q3 =>
  some (XS .i64 q3 1)
  else
  some 0) : Option ((Int))).bind (t1 fun (bit : Int) =>
  if (decide (4194304 ≤ (i64 ((i64 (rest2 * 2)) + bit)))) = true then
  some (.inl ((ZaZ .i64 (i64 ((i64 (rest2 * 2)) + bit)) 6291471), (i64 (i + 1))))
  else
  some (.inl ((i64 ((i64 (rest2 * 2)) + bit)), (i64 (i + 1)))))
  else
  some (.inr rest2)
theorem Zhc (f : Vector Int 64) (rest2 : Int) (i : Int) : Le (ZcO f rest2 i) (Zcq f rest2 i) := by
  unfold ZcO Zcq
  with_reducible repeat' (first | exact Le.refl _ | apply Le.bind | apply Le.ite | apply Le.t1 | intro _)

noncomputable def Zex (f : Vector Int 64) : Option Int :=
  ((QK (t2 (ZcO f)) (0, 0)) : Option ((Int))).bind (t1 fun (rest : Int) =>
  some rest)
theorem Zit (f : Vector Int 64) : Le (Zex f) (Zdp f) := by
  unfold Zex Zdp
  with_reducible repeat' (first | exact Le.refl _ | apply Le.bind | apply Le.loop | apply Le.t1 | apply Le.t2 | apply Zhc | intro _)

noncomputable def Zdt (f : Vector Int 64) : Option (Vector Int 64) :=
  (Zex f).bind fun y =>
  (quo .i64 y 2048).bind fun q =>
  (Zbb q).bind fun y2 =>
  (rem y 2048).bind fun q2 =>
  (Zbb q2).bind fun y3 =>
  (ZZ f 62).bind fun x =>
  (ZZ (Jt f 62 (u16 y2)) 63).bind fun x2 =>
  some (Jt (Jt f 62 (u16 y2)) 63 (u16 y3))
theorem ZhB (f : Vector Int 64) : Le (Zdt f) (Zbp f) := by
  unfold Zdt Zbp
  with_reducible repeat' (first | exact Le.refl _ | apply Le.bind | apply Zit | apply Zei | intro _)

noncomputable def ZdR (f : Vector Int 64) : Option (Vector Int 64) :=
  ((QK (t2 (Zck)) (f, 1)) : Option (((Vector Int 64)))).bind (t1 fun (f2 : Vector Int 64) =>
  (ZcK f2).bind fun y2 =>
  (Zd1 y2).bind fun y3 =>
  (ZZ f2 0).bind fun x3 =>
  (ZfS (Jt f2 0 (u16 y3))).bind fun y4 =>
  (Zbb y4).bind fun y5 =>
  (ZZ (Jt f2 0 (u16 y3)) 61).bind fun x4 =>
  (Zdt (Jt (Jt f2 0 (u16 y3)) 61 (u16 y5))).bind fun y6 =>
  some y6)
theorem Zip (f : Vector Int 64) : Le (ZdR f) (ZcI f) := by
  unfold ZdR ZcI
  with_reducible repeat' (first | exact Le.refl _ | apply Le.bind | apply Le.loop | apply Le.t1 | apply Le.t2 | apply Zgy | apply Zg5 | apply Zif | apply Zjq | apply Zei | apply ZhB | intro _)

noncomputable def Zf6 (number : Int) (data : List Int) : Option ((Vector Int 64) × Int) :=
  if ((decide (number < 0)) || (decide (4194304 ≤ number))) = true then
  some ((#v[0, 0, 0, 0, 0, 0, 0, 0, 0, 0, 0, 0, 0, 0, 0, 0, 0, 0, 0, 0, 0, 0, 0, 0, 0, 0, 0, 0, 0, 0, 0, 0, 0, 0, 0, 0, 0, 0, 0, 0, 0, 0, 0, 0, 0, 0, 0, 0, 0, 0, 0, 0, 0, 0, 0, 0, 0, 0, 0, 0, 0, 0, 0, 0] : Vector Int 64), 9)
  else
  if (!decide ((data.length : Int) = 58)) = true then
  some ((#v[0, 0, 0, 0, 0, 0, 0, 0, 0, 0, 0, 0, 0, 0, 0, 0, 0, 0, 0, 0, 0, 0, 0, 0, 0, 0, 0, 0, 0, 0, 0, 0, 0, 0, 0, 0, 0, 0, 0, 0, 0, 0, 0, 0, 0, 0, 0, 0, 0, 0, 0, 0, 0, 0, 0, 0, 0, 0, 0, 0, 0, 0, 0, 0] : Vector Int 64), 3)
  else
  (rem number 2048).bind fun q =>
  (quo .i64 number 2048).bind fun q2 =>
  (ZZ (#v[0, 0, 0, 0, 0, 0, 0, 0, 0, 0, 0, 0, 0, 0, 0, 0, 0, 0, 0, 0, 0, 0, 0, 0, 0, 0, 0, 0, 0, 0, 0, 0, 0, 0, 0, 0, 0, 0, 0, 0, 0, 0, 0, 0, 0, 0, 0, 0, 0, 0, 0, 0, 0, 0, 0, 0, 0, 0, 0, 0, 0, 0, 0, 0] : Vector Int 64) 1).bind fun x =>
  (ZZ (Jt (#v[0, 0, 0, 0, 0, 0, 0, 0, 0, 0, 0, 0, 0, 0, 0, 0, 0, 0, 0, 0, 0, 0, 0, 0, 0, 0, 0, 0, 0, 0, 0, 0, 0, 0, 0, 0, 0, 0, 0, 0, 0, 0, 0, 0, 0, 0, 0, 0, 0, 0, 0, 0, 0, 0, 0, 0, 0, 0, 0, 0, 0, 0, 0, 0] : Vector Int 64) 1 (u16 q)) 2).bind fun x2 =>
  ((QK (t2 (Zd3 data)) ((Jt (Jt (#v[0, 0, 0, 0, 0, 0, 0, 0, 0, 0, 0, 0, 0, 0, 0, 0, 0, 0, 0, 0, 0, 0, 0, 0, 0, 0, 0, 0, 0, 0, 0, 0, 0, 0, 0, 0, 0, 0, 0, 0, 0, 0, 0, 0, 0, 0, 0, 0, 0, 0, 0, 0, 0, 0, 0, 0, 0, 0, 0, 0, 0, 0, 0, 0] : Vector Int 64) 1 (u16 q)) 2 (u16 q2)), 0)) : Option (((Vector Int 64) × Int) ⊕ ((Vector Int 64)))).bind (Sum.elim (fun q' => some q') (t1 fun (f : Vector Int 64) =>
  (ZdR f).bind fun y =>
  some (y, 0)))
theorem Zjw (number : Int) (data : List Int) : Le (Zf6 number data) (Ze7 number data) := by
  unfold Zf6 Ze7
  with_reducible repeat' (first | exact Le.refl _ | apply Le.bind | apply Le.ite | apply Le.loop | apply Le.t1 | apply Le.t2 | apply Le.elim | apply Zin | apply Zip | intro _)

noncomputable def QE (n : Int) (low : Int) (high : Int) : Option Bool :=
  some ((decide (low ≤ n)) && (decide (n ≤ high)))
theorem XJ (n : Int) (low : Int) (high : Int) : Le (QE n low high) (Qi n low high) := by
  unfold QE Qi
  with_reducible repeat' (first | exact Le.refl _ | apply Le.bind | intro _)

noncomputable def JA (slots : Int) : Option Int :=
  some (i64 (16 + (i64 (slots * 97))))
theorem ZcX (slots : Int) : Le (JA slots) (QY slots) := by
  unfold JA QY
  with_reducible repeat' (first | exact Le.refl _ | apply Le.bind | intro _)

noncomputable def Zew (x : Int) (y : Int) : Option (Int × Int) :=
  (shr .u64 x 32).bind fun q =>
  (shr .u64 y 32).bind fun q2 =>
  (shr .u64 (u64 ((XS .u64 x 4294967295) * (XS .u64 y 4294967295))) 32).bind fun q3 =>
  (shr .u64 (u64 ((u64 (q * (XS .u64 y 4294967295))) + q3)) 32).bind fun q4 =>
  (shr .u64 (u64 ((XS .u64 (u64 ((u64 (q * (XS .u64 y 4294967295))) + q3)) 4294967295) + (u64 ((XS .u64 x 4294967295) * q2)))) 32).bind fun q5 =>
  some ((u64 ((u64 ((u64 (q * q2)) + q4)) + q5)), (u64 (x * y)))
theorem ZiD (x : Int) (y : Int) : Le (Zew x y) (Zdo x y) := by
  unfold Zew Zdo
  with_reducible repeat' (first | exact Le.refl _ | apply Le.bind | intro _)

noncomputable def ZfT (x : Int) (y : Int) : Option (Int × Int) :=
  (Zew x y).bind fun y2 =>
  some (y2.1, y2.2)
theorem ZjK (x : Int) (y : Int) : Le (ZfT x y) (Ze8 x y) := by
  unfold ZfT Ze8
  with_reducible repeat' (first | exact Le.refl _ | apply Le.bind | apply ZiD | intro _)

noncomputable def XA (newslice2 : List Int) (n : Int) : Option (((List Int) × Int) ⊕ ((List Int))) :=
  if (decide (n < (newslice2.length : Int))) = true then
  (slq newslice2 n (newslice2.length : Int)).bind fun u =>
  (slq newslice2 0 n).bind fun u2 =>
  some (.inl ((cpy newslice2 n.toNat (Int.toNat ((newslice2.length : Int) - n)) (Int.toNat 0) (Int.toNat (n - 0))), (i64 (n + ((min (Int.toNat (n - 0)) (Int.toNat ((newslice2.length : Int) - n)) : Nat) : Int)))))
  else
  some (.inr newslice2)
theorem ZcD (newslice2 : List Int) (n : Int) : Le (XA newslice2 n) (Q3 newslice2 n) := by
  unfold XA Q3
  with_reducible repeat' (first | exact Le.refl _ | apply Le.bind | apply Le.ite | intro _)

noncomputable def X0 (x : List Int) (count : Int) : Option (List Int) :=
  if (decide (count < 0)) = true then
  none
  else
  (ZfT (u64 (x.length : Int)) (u64 count)).bind fun y =>
  if ((decide (0 < y.1)) || (decide (9223372036854775807 < y.2))) = true then
  none
  else
  (mks (i64 y.2) 0).bind fun l =>
  ((QK (t2 (XA)) ((ZhD l x), ((min x.length l.length : Nat) : Int))) : Option (((List Int)))).bind (t1 fun (newslice : List Int) =>
  some newslice)
theorem Zdi (x : List Int) (count : Int) : Le (X0 x count) (QV x count) := by
  unfold X0 QV
  with_reducible repeat' (first | exact Le.refl _ | apply Le.bind | apply Le.ite | apply Le.loop | apply Le.t1 | apply Le.t2 | apply ZjK | apply ZcD | intro _)

noncomputable def ZaH (sectors : Int) (slots : Int) (Sectors2 : List (List Int)) (i : Int) : Option (((List (List Int)) × Int) ⊕ ((List (List Int)))) :=
  if (decide (i < sectors)) = true then
  (((JA slots).bind fun y4 =>
  (X0 ([255] : List Int) y4).bind fun y5 =>
  (app Sectors2 [y5]).bind fun l3 =>
  some l3) : Option (((List (List Int))))).bind (t1 fun (Sectors3 : List (List Int)) =>
  some (.inl (Sectors3, (i64 (i + 1)))))
  else
  some (.inr Sectors2)
theorem Zfg (sectors : Int) (slots : Int) (Sectors2 : List (List Int)) (i : Int) : Le (ZaH sectors slots Sectors2 i) (J3 sectors slots Sectors2 i) := by
  unfold ZaH J3
  with_reducible repeat' (first | exact Le.refl _ | apply Le.bind | apply Le.ite | apply Le.t1 | apply ZcX | apply Zdi | intro _)

noncomputable def Zcm (sectors : Int) (slots : Int) (limit : Int) : Option (api_Memory × Int) :=
  (QE sectors 2 64).bind fun y =>
  (gd ((!y) == false) false (QE slots 1 64)).bind fun y2 =>
  (gd (((!y) || (!y2)) == false) false (QE limit 1 1000000)).bind fun y3 =>
  if (((!y) || (!y2)) || (!y3)) = true then
  some ((api_Memory.mk 0 0 [] [] []), 9)
  else
  (((mkz 8 sectors 0).bind fun l =>
  (mkz 1 sectors false).bind fun l2 =>
  some (l, l2)) : Option (((List Int) × (List Bool)))).bind (t2 fun (Wear : List Int) (Bad : List Bool) =>
  ((QK (t2 (ZaH sectors slots)) ([], 0)) : Option (((List (List Int))))).bind (t1 fun (Sectors : List (List Int)) =>
  some ((api_Memory.mk slots limit Sectors Wear Bad), 0)))
theorem Zgv (sectors : Int) (slots : Int) (limit : Int) : Le (Zcm sectors slots limit) (J9 sectors slots limit) := by
  unfold Zcm J9
  with_reducible repeat' (first | exact Le.refl _ | apply Le.bind | apply Le.ite | apply Le.gd | apply Le.loop | apply Le.t1 | apply Le.t2 | apply XJ | apply Zfg | intro _)

noncomputable def JV (m : api_Memory) (i : Int) : Option ((Int) ⊕ (Int) ⊕ (Unit)) :=
  if (decide (i < (m.Sectors.length : Int))) = true then
  (idx m.Sectors i).bind fun x =>
  (JA m.Slots).bind fun y4 =>
  if (!decide ((x.length : Int) = y4)) = true then
  some (.inr (.inl 3))
  else
  (idx m.Wear i).bind fun x2 =>
  (QE x2 0 m.Limit).bind fun y5 =>
  if (!y5) = true then
  some (.inr (.inl 9))
  else
  some (.inl (i64 (i + 1)))
  else
  some (.inr (.inr ()))
theorem Zej (m : api_Memory) (i : Int) : Le (JV m i) (Qn m i) := by
  unfold JV Qn
  with_reducible repeat' (first | exact Le.refl _ | apply Le.bind | apply Le.ite | apply ZcX | apply XJ | intro _)

noncomputable def Za5 (m : api_Memory) : Option Int :=
  (QE m.Slots 1 64).bind fun y =>
  (gd ((!y) == false) false (QE m.Limit 1 1000000)).bind fun y2 =>
  (gd (((!y) || (!y2)) == false) false (QE (m.Sectors.length : Int) 2 64)).bind fun y3 =>
  if (((!y) || (!y2)) || (!y3)) = true then
  some 9
  else
  if ((!decide ((m.Wear.length : Int) = (m.Sectors.length : Int))) || (!decide ((m.Bad.length : Int) = (m.Sectors.length : Int)))) = true then
  some 2
  else
  ((QK (t1 (JV m)) 0) : Option ((Int) ⊕ (Unit))).bind (Sum.elim (fun q' => some q') (t0 (some 0)))
theorem ZfD (m : api_Memory) : Le (Za5 m) (Qg m) := by
  unfold Za5 Qg
  with_reducible repeat' (first | exact Le.refl _ | apply Le.bind | apply Le.ite | apply Le.gd | apply Le.loop | apply Le.t0 | apply Le.t1 | apply Le.elim | apply XJ | apply Zej | intro _)

noncomputable def Zba (l : List api_Memory) (i : Int) : Option ((Int) ⊕ (Int) ⊕ (Unit)) :=
  if (decide (i < (l.length : Int))) = true then
  (idx l i).bind fun x =>
  (Za5 x).bind fun y2 =>
  if (!decide (y2 = 0)) = true then
  some (.inr (.inl y2))
  else
  some (.inl (i64 (i + 1)))
  else
  some (.inr (.inr ()))
theorem ZfL (l : List api_Memory) (i : Int) : Le (Zba l i) (Zam l i) := by
  unfold Zba Zam
  with_reducible repeat' (first | exact Le.refl _ | apply Le.bind | apply Le.ite | apply ZfD | intro _)

noncomputable def ZaX (l : List api_Memory) : Option Int :=
  (QE (l.length : Int) 1 8).bind fun y =>
  if (!y) = true then
  some 3
  else
  ((QK (t1 (Zba l)) 0) : Option ((Int) ⊕ (Unit))).bind (Sum.elim (fun q' => some q') (t0 (some 0)))
theorem Zeg (l : List api_Memory) : Le (ZaX l) (JS l) := by
  unfold ZaX JS
  with_reducible repeat' (first | exact Le.refl _ | apply Le.bind | apply Le.ite | apply Le.loop | apply Le.t0 | apply Le.t1 | apply Le.elim | apply XJ | apply ZfL | intro _)

noncomputable def J5 (m : api_Memory) (sectors2 : List (List Int)) (i : Int) : Option (((List (List Int)) × Int) ⊕ ((List (List Int)))) :=
  if (decide (i < (m.Sectors.length : Int))) = true then
  (idx m.Sectors i).bind fun x =>
  (ZdU 1 x).bind fun y =>
  (app sectors2 [y]).bind fun l =>
  some (.inl (l, (i64 (i + 1))))
  else
  some (.inr sectors2)
theorem ZeU (m : api_Memory) (sectors2 : List (List Int)) (i : Int) : Le (J5 m sectors2 i) (QT m sectors2 i) := by
  unfold J5 QT
  with_reducible repeat' (first | exact Le.refl _ | apply Le.bind | apply Le.ite | intro _)

noncomputable def Zbr (m : api_Memory) : Option api_Memory :=
  ((QK (t2 (J5 m)) ([], 0)) : Option (((List (List Int))))).bind (t1 fun (sectors : List (List Int)) =>
  (ZdU 8 m.Wear).bind fun y2 =>
  (ZdU 1 m.Bad).bind fun y3 =>
  some (api_Memory.mk m.Slots m.Limit sectors y2 y3))
theorem ZfZ (m : api_Memory) : Le (Zbr m) (Q8 m) := by
  unfold Zbr Q8
  with_reducible repeat' (first | exact Le.refl _ | apply Le.bind | apply Le.loop | apply Le.t1 | apply Le.t2 | apply ZeU | intro _)

noncomputable def ZbT (l : List api_Memory) (out2 : List api_Memory) (i : Int) : Option (((List api_Memory) × Int) ⊕ ((List api_Memory))) :=
  if (decide (i < (l.length : Int))) = true then
  (idx l i).bind fun x =>
  (Zbr x).bind fun y =>
  (app out2 [y]).bind fun l2 =>
  some (.inl (l2, (i64 (i + 1))))
  else
  some (.inr out2)
theorem Zf4 (l : List api_Memory) (out2 : List api_Memory) (i : Int) : Le (ZbT l out2 i) (JL l out2 i) := by
  unfold ZbT JL
  with_reducible repeat' (first | exact Le.refl _ | apply Le.bind | apply Le.ite | apply ZfZ | intro _)

noncomputable def Zbx (l : List api_Memory) : Option (List api_Memory) :=
  ((QK (t2 (ZbT l)) ([], 0)) : Option (((List api_Memory)))).bind (t1 fun (out : List api_Memory) =>
  some out)
theorem ZeG (l : List api_Memory) : Le (Zbx l) (Ja l) := by
  unfold Zbx Ja
  with_reducible repeat' (first | exact Le.refl _ | apply Le.bind | apply Le.loop | apply Le.t1 | apply Le.t2 | apply Zf4 | intro _)

noncomputable def Zb7 (sequence : Int) (out2 : List Int) (shift : Int) : Option (((List Int) × Int) ⊕ ((List Int))) :=
  if (decide (0 ≤ shift)) = true then
  (shr .i64 sequence shift).bind fun q =>
  (apz 1 out2 ([(u8 q)] : List Int)).bind fun l =>
  some (.inl (l, (i64 (shift - 8))))
  else
  some (.inr out2)
theorem ZgR (sequence : Int) (out2 : List Int) (shift : Int) : Le (Zb7 sequence out2 shift) (Q6 sequence out2 shift) := by
  unfold Zb7 Q6
  with_reducible repeat' (first | exact Le.refl _ | apply Le.bind | apply Le.ite | intro _)

noncomputable def Zcd (out : List Int) (out4 : List Int) (i : Int) : Option (((List Int) × Int) ⊕ ((List Int))) :=
  if (decide (i < ((Int.toNat (6 - 2) : Nat) : Int))) = true then
  (ck (decide ((0 : Int) ≤ i) && decide (i < ((Int.toNat (6 - 2) : Nat) : Int)))).bind fun u2 =>
  (idx out (2 + i)).bind fun x2 =>
  (apz 1 out4 ([(ZaZ .u8 255 x2)] : List Int)).bind fun l2 =>
  some (.inl (l2, (i64 (i + 1))))
  else
  some (.inr out4)
theorem Zgq (out : List Int) (out4 : List Int) (i : Int) : Le (Zcd out out4 i) (Q1 out out4 i) := by
  unfold Zcd Q1
  with_reducible repeat' (first | exact Le.refl _ | apply Le.bind | apply Le.ite | intro _)

noncomputable def Zcr (sequence : Int) : Option (List Int) :=
  ((QK (t2 (Zb7 sequence)) (([79, 66] : List Int), 24)) : Option (((List Int)))).bind (t1 fun (out : List Int) =>
  (((slp out 2 6).bind fun u =>
  QK (t2 (Zcd out)) (out, 0)) : Option (((List Int)))).bind (t1 fun (out3 : List Int) =>
  some out3))
theorem Zfk (sequence : Int) : Le (Zcr sequence) (Jv sequence) := by
  unfold Zcr Jv
  with_reducible repeat' (first | exact Le.refl _ | apply Le.bind | apply Le.loop | apply Le.t1 | apply Le.t2 | apply ZgR | apply Zgq | intro _)

noncomputable def XE (s1 : List Int) (s2 : List Int) (i : Int) : Option ((Int) ⊕ (Bool) ⊕ (Unit)) :=
  if (decide (i < (s1.length : Int))) = true then
  (idx s1 i).bind fun x =>
  (idx s2 i).bind fun x2 =>
  if (!decide (x = x2)) = true then
  some (.inr (.inl false))
  else
  some (.inl (i64 (i + 1)))
  else
  some (.inr (.inr ()))
theorem ZcQ (s1 : List Int) (s2 : List Int) (i : Int) : Le (XE s1 s2 i) (Qx s1 s2 i) := by
  unfold XE Qx
  with_reducible repeat' (first | exact Le.refl _ | apply Le.bind | apply Le.ite | intro _)

noncomputable def Jf (s1 : List Int) (s2 : List Int) : Option Bool :=
  if (!decide ((s1.length : Int) = (s2.length : Int))) = true then
  some false
  else
  ((QK (t1 (XE s1 s2)) 0) : Option ((Bool) ⊕ (Unit))).bind (Sum.elim (fun q' => some q') (t0 (some true)))
theorem Zdy (s1 : List Int) (s2 : List Int) : Le (Jf s1 s2) (Qy s1 s2) := by
  unfold Jf Qy
  with_reducible repeat' (first | exact Le.refl _ | apply Le.bind | apply Le.ite | apply Le.loop | apply Le.t0 | apply Le.t1 | apply Le.elim | apply ZcQ | intro _)

noncomputable def Zah (s : List Int) : Option (Int × Bool × Bool) :=
  if (decide ((s.length : Int) < 16)) = true then
  some (0, false, false)
  else
  (slc s 0 16).bind fun l =>
  (tov 16 l).bind fun v =>
  (ZZ v 2).bind fun x =>
  (shl .i64 (i64 x) 24).bind fun q =>
  (ZZ v 3).bind fun x2 =>
  (shl .i64 (i64 x2) 16).bind fun q2 =>
  (ZZ v 4).bind fun x3 =>
  (shl .i64 (i64 x3) 8).bind fun q3 =>
  (ZZ v 5).bind fun x4 =>
  (QE (bor .i64 (bor .i64 (bor .i64 q q2) q3) (i64 x4)) 1 1073741824).bind fun y =>
  (gd ((!y) == false) [] (slc v.toList 0 10)).bind fun l2 =>
  (gd ((!y) == false) [] (Zcr (bor .i64 (bor .i64 (bor .i64 q q2) q3) (i64 x4)))).bind fun y2 =>
  (gd ((!y) == false) false (Jf l2 y2)).bind fun y3 =>
  if ((!y) || (!y3)) = true then
  some (0, false, false)
  else
  (ZZ v 10).bind fun x5 =>
  some ((bor .i64 (bor .i64 (bor .i64 q q2) q3) (i64 x4)), (!decide (x5 = 255)), true)
theorem ZbF (s : List Int) : Le (Zah s) (Js s) := by
  unfold Zah Js
  with_reducible repeat' (first | exact Le.refl _ | apply Le.bind | apply Le.ite | apply Le.gd | apply XJ | apply Zfk | apply Zdy | intro _)

noncomputable def ZbG (m : api_Memory) (out2 : List Int) (i : Int) : Option (((List Int) × Int) ⊕ ((List Int))) :=
  if (decide (i < (m.Sectors.length : Int))) = true then
  (idx m.Sectors i).bind fun x =>
  (Zah x).bind fun y =>
  (gd (y.2.2 == true) false (idx m.Bad i)).bind fun x2 =>
  if (y.2.2 && (!x2)) = true then
  (apz 8 out2 ([i] : List Int)).bind fun l =>
  some (.inl (l, (i64 (i + 1))))
  else
  some (.inl (out2, (i64 (i + 1))))
  else
  some (.inr out2)
theorem ZfY (m : api_Memory) (out2 : List Int) (i : Int) : Le (ZbG m out2 i) (XD m out2 i) := by
  unfold ZbG XD
  with_reducible repeat' (first | exact Le.refl _ | apply Le.bind | apply Le.ite | apply Le.gd | apply ZbF | intro _)

noncomputable def QL (a : Int) (cmp : Int → Int → Option Int) (o3 : List Int) (j : Int) : Option (((List Int) × Int) ⊕ ((List Int))) :=
  (gd ((decide (a < j)) == true) 0 (idx o3 j)).bind fun x =>
  (gd ((decide (a < j)) == true) 0 (idx o3 (i64 (j - 1)))).bind fun x2 =>
  (gd ((decide (a < j)) == true) 0 (cmp x x2)).bind fun y =>
  if ((decide (a < j)) && (decide (y < 0))) = true then
  (idx o3 (i64 (j - 1))).bind fun x3 =>
  (idx o3 j).bind fun x4 =>
  (idx o3 j).bind fun x5 =>
  (idx (o3.set j.toNat x3) (i64 (j - 1))).bind fun x6 =>
  some (.inl (((o3.set j.toNat x3).set (i64 (j - 1)).toNat x4), (i64 (j - 1))))
  else
  some (.inr o3)
theorem Zal (a : Int) (cmp : Int → Int → Option Int) (o3 : List Int) (j : Int) (cmp' : Int → Int → Option Int) (h_cmp : ∀ z0 z1, Le (cmp z0 z1) (cmp' z0 z1)) : Le (QL a cmp o3 j) (Zu a cmp' o3 j) := by
  unfold QL Zu
  with_reducible repeat' (first | exact Le.refl _ | apply Le.bind | apply Le.ite | apply Le.gd | apply h_cmp | intro _)

noncomputable def QQ (a : Int) (b : Int) (cmp : Int → Int → Option Int) (o : List Int) (i : Int) : Option (((List Int) × Int) ⊕ ((List Int))) :=
  if (decide (i < b)) = true then
  ((QK (t2 (QL a cmp)) (o, i)) : Option (((List Int)))).bind (t1 fun (o2 : List Int) =>
  some (.inl (o2, (i64 (i + 1)))))
  else
  some (.inr o)
theorem Zan (a : Int) (b : Int) (cmp : Int → Int → Option Int) (o : List Int) (i : Int) (cmp' : Int → Int → Option Int) (h_cmp : ∀ z0 z1, Le (cmp z0 z1) (cmp' z0 z1)) : Le (QQ a b cmp o i) (Zt a b cmp' o i) := by
  unfold QQ Zt
  with_reducible repeat' (first | exact Le.refl _ | apply Le.bind | apply Le.ite | apply Le.loop | apply Le.t1 | apply Le.t2 | apply Zal | apply h_cmp | intro _)

noncomputable def QD (data : List Int) (a : Int) (b : Int) (cmp : Int → Int → Option Int) : Option (List Int) :=
  QK (t2 (QQ a b cmp)) (data, (i64 (a + 1)))
theorem XT (data : List Int) (a : Int) (b : Int) (cmp : Int → Int → Option Int) (cmp' : Int → Int → Option Int) (h_cmp : ∀ z0 z1, Le (cmp z0 z1) (cmp' z0 z1)) : Le (QD data a b cmp) (Zw data a b cmp') := by
  unfold QD Zw
  with_reducible repeat' (first | exact Le.refl _ | apply Le.bind | apply Le.loop | apply Le.t2 | apply Zan | apply h_cmp | intro _)

noncomputable def Xq (n : Int) (cmp : Int → Int → Option Int) (o2 : List Int) (a2 : Int) (b : Int) : Option (((List Int) × Int × Int) ⊕ ((List Int) × Int)) :=
  if (decide (b ≤ n)) = true then
  (QD o2 a2 b cmp).bind fun y =>
  some (.inl (y, b, (i64 (b + 20))))
  else
  some (.inr (o2, a2))
theorem Zcn (n : Int) (cmp : Int → Int → Option Int) (o2 : List Int) (a2 : Int) (b : Int) (cmp' : Int → Int → Option Int) (h_cmp : ∀ z0 z1, Le (cmp z0 z1) (cmp' z0 z1)) : Le (Xq n cmp o2 a2 b) (ZH n cmp' o2 a2 b) := by
  unfold Xq ZH
  with_reducible repeat' (first | exact Le.refl _ | apply Le.bind | apply Le.ite | apply XT | apply h_cmp | intro _)

noncomputable def XC (n_ : Nat) : List Int → Int → Int → Int → (Int → Int → Option Int) → Option (List Int) := fun _ _ _ _ _ => none
theorem Jx (n_ : Nat) {z0 : List Int} {z1 : Int} {z2 : Int} {z3 : Int} {z4 : (Int → Int → Option Int)} {z4' : (Int → Int → Option Int)} : Le (XC n_ z0 z1 z2 z3 z4) (ZF n_ z0 z1 z2 z3 z4') := fun r h => by cases h

noncomputable def Xt (n : Int) (cmp : Int → Int → Option Int) (blockSize : Int) (o5 : List Int) (a4 : Int) (b2 : Int) : Option (((List Int) × Int × Int) ⊕ ((List Int) × Int)) :=
  if (decide (b2 ≤ n)) = true then
  (XC 100 o5 a4 (i64 (a4 + blockSize)) b2 cmp).bind fun y3 =>
  some (.inl (y3, b2, (i64 (b2 + (i64 (2 * blockSize))))))
  else
  some (.inr (o5, a4))
theorem Zb8 (n : Int) (cmp : Int → Int → Option Int) (blockSize : Int) (o5 : List Int) (a4 : Int) (b2 : Int) (cmp' : Int → Int → Option Int) (h_cmp : ∀ z0 z1, Le (cmp z0 z1) (cmp' z0 z1)) : Le (Xt n cmp blockSize o5 a4 b2) (ZE n cmp' blockSize o5 a4 b2) := by
  unfold Xt ZE
  with_reducible repeat' (first | exact Le.refl _ | apply Le.bind | apply Le.ite | apply Jx | apply h_cmp | intro _)

noncomputable def Xu (n : Int) (cmp : Int → Int → Option Int) (o3 : List Int) (blockSize : Int) : Option (((List Int) × Int) ⊕ ((List Int))) :=
  if (decide (blockSize < n)) = true then
  ((QK (t3 (Xt n cmp blockSize)) (o3, 0, (i64 (2 * blockSize)))) : Option (((List Int) × Int))).bind (t2 fun (o4 : List Int) (a3 : Int) =>
  if (decide ((i64 (a3 + blockSize)) < n)) = true then
  (XC 100 o4 a3 (i64 (a3 + blockSize)) n cmp).bind fun y4 =>
  some (.inl (y4, (i64 (blockSize * 2))))
  else
  some (.inl (o4, (i64 (blockSize * 2)))))
  else
  some (.inr o3)
theorem Zcl (n : Int) (cmp : Int → Int → Option Int) (o3 : List Int) (blockSize : Int) (cmp' : Int → Int → Option Int) (h_cmp : ∀ z0 z1, Le (cmp z0 z1) (cmp' z0 z1)) : Le (Xu n cmp o3 blockSize) (ZC n cmp' o3 blockSize) := by
  unfold Xu ZC
  with_reducible repeat' (first | exact Le.refl _ | apply Le.bind | apply Le.ite | apply Le.loop | apply Le.t2 | apply Le.t3 | apply Zb8 | apply Jx | apply h_cmp | intro _)

noncomputable def XM (data : List Int) (n : Int) (cmp : Int → Int → Option Int) : Option (List Int) :=
  ((QK (t3 (Xq n cmp)) (data, 0, 20)) : Option (((List Int) × Int))).bind (t2 fun (o : List Int) (a : Int) =>
  (QD o a n cmp).bind fun y2 =>
  QK (t2 (Xu n cmp)) (y2, 20))
theorem Zda (data : List Int) (n : Int) (cmp : Int → Int → Option Int) (cmp' : Int → Int → Option Int) (h_cmp : ∀ z0 z1, Le (cmp z0 z1) (cmp' z0 z1)) : Le (XM data n cmp) (Z8 data n cmp') := by
  unfold XM Z8
  with_reducible repeat' (first | exact Le.refl _ | apply Le.bind | apply Le.loop | apply Le.t2 | apply Le.t3 | apply Zcn | apply XT | apply Zcl | apply h_cmp | intro _)

noncomputable def Xd (x : List Int) (cmp : Int → Int → Option Int) : Option (List Int) :=
  (XM x (x.length : Int) cmp).bind fun y =>
  some y
theorem ZbK (x : List Int) (cmp : Int → Int → Option Int) (cmp' : Int → Int → Option Int) (h_cmp : ∀ z0 z1, Le (cmp z0 z1) (cmp' z0 z1)) : Le (Xd x cmp) (ZM x cmp') := by
  unfold Xd ZM
  with_reducible repeat' (first | exact Le.refl _ | apply Le.bind | apply Zda | apply h_cmp | intro _)

noncomputable def Zav (i : Int) (c0 : api_Memory) : Option Int :=
  (idx c0.Sectors i).bind fun x =>
  (Zah x).bind fun y =>
  some y.1
theorem ZgF (i : Int) (c0 : api_Memory) : Le (Zav i c0) (Xw i c0) := by
  unfold Zav Xw
  with_reducible repeat' (first | exact Le.refl _ | apply Le.bind | apply ZbF | intro _)

noncomputable def Zch (a : Int) (b : Int) (k : api_Memory) : Option Int :=
  (Zav a k).bind fun y =>
  (Zav b k).bind fun y2 =>
  some (i64 (y - y2))
theorem ZgS (a : Int) (b : Int) (k : api_Memory) : Le (Zch a b k) (Xs a b k) := by
  unfold Zch Xs
  with_reducible repeat' (first | exact Le.refl _ | apply Le.bind | apply ZgF | intro _)

noncomputable def Zb1 (m : api_Memory) : Option (List Int) :=
  ((QK (t2 (ZbG m)) ([], 0)) : Option (((List Int)))).bind (t1 fun (out : List Int) =>
  (Xd out (fun z0 z1 => Zch z0 z1 m)).bind fun y2 =>
  some y2)
theorem ZeN (m : api_Memory) : Le (Zb1 m) (Xp m) := by
  unfold Zb1 Xp
  with_reducible repeat' (first | exact Le.refl _ | apply Le.bind | apply Le.loop | apply Le.t1 | apply Le.t2 | apply ZfY | apply ZbK | apply ZgS | intro _)

noncomputable def Zcv (s : List Int) (i : Int) : Option (Vector Int 97) :=
  (slc s (i64 (16 + (i64 (i * 97)))) (i64 ((i64 (16 + (i64 (i * 97)))) + 97))).bind fun l =>
  (tov 97 l).bind fun v =>
  some v
theorem Ze1 (s : List Int) (i : Int) : Le (Zcv s i) (Zbj s i) := by
  unfold Zcv Zbj
  with_reducible repeat' (first | exact Le.refl _ | apply Le.bind | intro _)

noncomputable def Xb (s : List Int) (f : Int → Option Bool) (i : Int) : Option ((Int) ⊕ (Int) ⊕ (Unit)) :=
  if (decide (i < (s.length : Int))) = true then
  (idx s i).bind fun x =>
  (f x).bind fun y =>
  if y = true then
  some (.inr (.inl i))
  else
  some (.inl (i64 (i + 1)))
  else
  some (.inr (.inr ()))
theorem Zbu (s : List Int) (f : Int → Option Bool) (i : Int) (f' : Int → Option Bool) (h_f : ∀ z0, Le (f z0) (f' z0)) : Le (Xb s f i) (QR s f' i) := by
  unfold Xb QR
  with_reducible repeat' (first | exact Le.refl _ | apply Le.bind | apply Le.ite | apply h_f | intro _)

noncomputable def XB (s : List Int) (f : Int → Option Bool) : Option Int :=
  ((QK (t1 (Xb s f)) 0) : Option ((Int) ⊕ (Unit))).bind (Sum.elim (fun q' => some q') (t0 (some (-1))))
theorem ZcE (s : List Int) (f : Int → Option Bool) (f' : Int → Option Bool) (h_f : ∀ z0, Le (f z0) (f' z0)) : Le (XB s f) (QJ s f') := by
  unfold XB QJ
  with_reducible repeat' (first | exact Le.refl _ | apply Le.bind | apply Le.loop | apply Le.t0 | apply Le.t1 | apply Le.elim | apply Zbu | apply h_f | intro _)

noncomputable def Xc (s : List Int) (f : Int → Option Bool) : Option Bool :=
  (XB s f).bind fun y =>
  some (decide (0 ≤ y))
theorem ZbQ (s : List Int) (f : Int → Option Bool) (f' : Int → Option Bool) (h_f : ∀ z0, Le (f z0) (f' z0)) : Le (Xc s f) (Qv s f') := by
  unfold Xc Qv
  with_reducible repeat' (first | exact Le.refl _ | apply Le.bind | apply ZcE | apply h_f | intro _)

noncomputable def Zci (b : Int) : Option Bool :=
  some (!decide (b = 255))
theorem ZgJ (b : Int) : Le (Zci b) (J7 b) := by
  unfold Zci J7
  with_reducible repeat' (first | exact Le.refl _ | apply Le.bind | intro _)

noncomputable def ZbY (p : Vector Int 97) : Option Int :=
  (ZZ p 96).bind fun x =>
  if (decide (x = 0)) = true then
  some 1
  else
  (slc p.toList 0 (97 : Int)).bind fun l =>
  (Xc l (fun z0 => Zci z0)).bind fun y =>
  if y = true then
  some 2
  else
  some 0
theorem ZeF (p : Vector Int 97) : Le (ZbY p) (Zao p) := by
  unfold ZbY Zao
  with_reducible repeat' (first | exact Le.refl _ | apply Le.bind | apply Le.ite | apply ZbQ | apply ZgJ | intro _)

noncomputable def Za8 (m : api_Memory) (x : Int) (slot2 : Int) (i : Int) : Option ((Int × Int) ⊕ (Int)) :=
  if (decide (i < m.Slots)) = true then
  (idx m.Sectors x).bind fun x2 =>
  (Zcv x2 i).bind fun y2 =>
  (ZbY y2).bind fun y3 =>
  if (!decide (y3 = 0)) = true then
  some (.inl ((i64 (i + 1)), (i64 (i + 1))))
  else
  some (.inl (slot2, (i64 (i + 1))))
  else
  some (.inr slot2)
theorem ZfJ (m : api_Memory) (x : Int) (slot2 : Int) (i : Int) : Le (Za8 m x slot2 i) (Zap m x slot2 i) := by
  unfold Za8 Zap
  with_reducible repeat' (first | exact Le.refl _ | apply Le.bind | apply Le.ite | apply Ze1 | apply ZeF | intro _)

noncomputable def ZcV (m : api_Memory) : Option ring_spot :=
  (Zb1 m).bind fun y =>
  if (decide ((y.length : Int) = 0)) = true then
  some (ring_spot.mk (-1) 0)
  else
  (idx y (i64 ((y.length : Int) - 1))).bind fun x =>
  ((QK (t2 (Za8 m x)) (0, 0)) : Option ((Int))).bind (t1 fun (slot : Int) =>
  some (ring_spot.mk x slot))
theorem Zhi (m : api_Memory) : Le (ZcV m) (ZaK m) := by
  unfold ZcV ZaK
  with_reducible repeat' (first | exact Le.refl _ | apply Le.bind | apply Le.ite | apply Le.loop | apply Le.t1 | apply Le.t2 | apply ZeN | apply ZfJ | intro _)

noncomputable def ZcP (y3 : (List api_Memory)) (spots2 : List ring_spot) (frozen2 : Bool) (i : Int) : Option (((List ring_spot) × Bool × Int) ⊕ ((List ring_spot) × Bool)) :=
  if (decide (i < (y3.length : Int))) = true then
  (idx y3 i).bind fun x =>
  (ZcV x).bind fun y4 =>
  (apz 16 spots2 ([y4] : List ring_spot)).bind fun l2 =>
  if (decide (0 ≤ y4.sector)) = true then
  (idx x.Sectors y4.sector).bind fun x2 =>
  (Zah x2).bind fun y5 =>
  some (.inl (l2, (frozen2 || y5.2.1), (i64 (i + 1))))
  else
  some (.inl (l2, frozen2, (i64 (i + 1))))
  else
  some (.inr (spots2, frozen2))
theorem ZgU (y3 : (List api_Memory)) (spots2 : List ring_spot) (frozen2 : Bool) (i : Int) : Le (ZcP y3 spots2 frozen2 i) (Zcw y3 spots2 frozen2 i) := by
  unfold ZcP Zcw
  with_reducible repeat' (first | exact Le.refl _ | apply Le.bind | apply Le.ite | apply Zhi | apply ZbF | intro _)

noncomputable def Zes (l : List api_Memory) (copies : Int) : Option ((Int) ⊕ (ring_Recorder × Int)) :=
  (ZaX l).bind fun y =>
  if (!decide (y = 0)) = true then
  some (Sum.inl y)
  else
  (QE copies 1 (l.length : Int)).bind fun y2 =>
  if (!y2) = true then
  some (Sum.inl 9)
  else
  (Zbx l).bind fun y3 =>
  ((QK (t3 (ZcP y3)) ([], false, 0)) : Option (((List ring_spot) × Bool))).bind (t2 fun (spots : List ring_spot) (frozen : Bool) =>
  some (Sum.inr ((ring_Recorder.mk (ring_bank.mk y3 spots) copies frozen false 0 false), 0)))
theorem Ziz (l : List api_Memory) (copies : Int) : Le (Zes l copies) (Za1 l copies) := by
  unfold Zes Za1
  with_reducible repeat' (first | exact Le.refl _ | apply Le.bind | apply Le.ite | apply Le.loop | apply Le.t2 | apply Le.t3 | apply Le.elim | apply Zeg | apply XJ | apply ZeG | apply ZgU | intro _)

noncomputable def Zad (r_ : ring_Recorder) (power : Int) : Option Int :=
  if r_.stopped = true then
  some 15
  else
  if r_.frozen = true then
  some 11
  else
  (QE power 0 1000000000).bind fun y =>
  if (!y) = true then
  some 9
  else
  some 0
theorem ZeT (r_ : ring_Recorder) (power : Int) : Le (Zad r_ power) (XO r_ power) := by
  unfold Zad XO
  with_reducible repeat' (first | exact Le.refl _ | apply Le.bind | apply Le.ite | apply XJ | intro _)

noncomputable def Zb9 (f : Vector Int 64) (out2 : List api_Flaw) (i : Int) : Option (((List api_Flaw) × Int) ⊕ ((List api_Flaw))) :=
  if (decide (i < 64)) = true then
  (ZZ f i).bind fun x =>
  if (decide (4095 < x)) = true then
  (app out2 ([(api_Flaw.mk i 5)] : List api_Flaw)).bind fun l =>
  some (.inl (l, (i64 (i + 1))))
  else
  some (.inl (out2, (i64 (i + 1))))
  else
  some (.inr out2)
theorem Zgt (f : Vector Int 64) (out2 : List api_Flaw) (i : Int) : Le (Zb9 f out2 i) (ZbZ f out2 i) := by
  unfold Zb9 ZbZ
  with_reducible repeat' (first | exact Le.refl _ | apply Le.bind | apply Le.ite | intro _)

noncomputable def X9 (w : Int) : Option Int :=
  some (i64 (XS .u16 w 2047))
theorem Zd2 (w : Int) : Le (X9 w) (Jd w) := by
  unfold X9 Jd
  with_reducible repeat' (first | exact Le.refl _ | apply Le.bind | intro _)

noncomputable def Zak (f : Vector Int 64) : Option Int :=
  (ZZ f 1).bind fun x =>
  (X9 x).bind fun y =>
  (ZZ f 2).bind fun x2 =>
  (X9 x2).bind fun y2 =>
  (shl .i64 y2 11).bind fun q =>
  some (bor .i64 y q)
theorem ZdI (f : Vector Int 64) : Le (Zak f) (Jq f) := by
  unfold Zak Jq
  with_reducible repeat' (first | exact Le.refl _ | apply Le.bind | apply Zd2 | intro _)

noncomputable def ZaY (x : Int) : Option Int :=
  (shr .u16 x 8).bind fun q =>
  (ZkE [0, 1, 1, 2, 1, 2, 2, 3, 1, 2, 2, 3, 2, 3, 3, 4, 1, 2, 2, 3, 2, 3, 3, 4, 2, 3, 3, 4, 3, 4, 4, 5, 1, 2, 2, 3, 2, 3, 3, 4, 2, 3, 3, 4, 3, 4, 4, 5, 2, 3, 3, 4, 3, 4, 4, 5, 3, 4, 4, 5, 4, 5, 5, 6, 1, 2, 2, 3, 2, 3, 3, 4, 2, 3, 3, 4, 3, 4, 4, 5, 2, 3, 3, 4, 3, 4, 4, 5, 3, 4, 4, 5, 4, 5, 5, 6, 2, 3, 3, 4, 3, 4, 4, 5, 3, 4, 4, 5, 4, 5, 5, 6, 3, 4, 4, 5, 4, 5, 5, 6, 4, 5, 5, 6, 5, 6, 6, 7, 1, 2, 2, 3, 2, 3, 3, 4, 2, 3, 3, 4, 3, 4, 4, 5, 2, 3, 3, 4, 3, 4, 4, 5, 3, 4, 4, 5, 4, 5, 5, 6, 2, 3, 3, 4, 3, 4, 4, 5, 3, 4, 4, 5, 4, 5, 5, 6, 3, 4, 4, 5, 4, 5, 5, 6, 4, 5, 5, 6, 5, 6, 6, 7, 2, 3, 3, 4, 3, 4, 4, 5, 3, 4, 4, 5, 4, 5, 5, 6, 3, 4, 4, 5, 4, 5, 5, 6, 4, 5, 5, 6, 5, 6, 6, 7, 3, 4, 4, 5, 4, 5, 5, 6, 4, 5, 5, 6, 5, 6, 6, 7, 4, 5, 5, 6, 5, 6, 6, 7, 5, 6, 6, 7, 6, 7, 7, 8] q).bind fun b =>
  (ZkE [0, 1, 1, 2, 1, 2, 2, 3, 1, 2, 2, 3, 2, 3, 3, 4, 1, 2, 2, 3, 2, 3, 3, 4, 2, 3, 3, 4, 3, 4, 4, 5, 1, 2, 2, 3, 2, 3, 3, 4, 2, 3, 3, 4, 3, 4, 4, 5, 2, 3, 3, 4, 3, 4, 4, 5, 3, 4, 4, 5, 4, 5, 5, 6, 1, 2, 2, 3, 2, 3, 3, 4, 2, 3, 3, 4, 3, 4, 4, 5, 2, 3, 3, 4, 3, 4, 4, 5, 3, 4, 4, 5, 4, 5, 5, 6, 2, 3, 3, 4, 3, 4, 4, 5, 3, 4, 4, 5, 4, 5, 5, 6, 3, 4, 4, 5, 4, 5, 5, 6, 4, 5, 5, 6, 5, 6, 6, 7, 1, 2, 2, 3, 2, 3, 3, 4, 2, 3, 3, 4, 3, 4, 4, 5, 2, 3, 3, 4, 3, 4, 4, 5, 3, 4, 4, 5, 4, 5, 5, 6, 2, 3, 3, 4, 3, 4, 4, 5, 3, 4, 4, 5, 4, 5, 5, 6, 3, 4, 4, 5, 4, 5, 5, 6, 4, 5, 5, 6, 5, 6, 6, 7, 2, 3, 3, 4, 3, 4, 4, 5, 3, 4, 4, 5, 4, 5, 5, 6, 3, 4, 4, 5, 4, 5, 5, 6, 4, 5, 5, 6, 5, 6, 6, 7, 3, 4, 4, 5, 4, 5, 5, 6, 4, 5, 5, 6, 5, 6, 6, 7, 4, 5, 5, 6, 5, 6, 6, 7, 5, 6, 6, 7, 6, 7, 7, 8] (XS .u16 x 255)).bind fun b2 =>
  some (i64 (u8 (b + b2)))
theorem Zfz (x : Int) : Le (ZaY x) (Jo x) := by
  unfold ZaY Jo
  with_reducible repeat' (first | exact Le.refl _ | apply Le.bind | intro _)

noncomputable def ZcG (w : Int) : Option Bool :=
  (gd ((decide (w ≤ 4095)) == true) 0 (ZaY w)).bind fun y =>
  (gd ((decide (w ≤ 4095)) == true) 0 (rem y 2)).bind fun q =>
  some ((decide (w ≤ 4095)) && (decide (q = 1)))
theorem Zgx (w : Int) : Le (ZcG w) (Zca w) := by
  unfold ZcG Zca
  with_reducible repeat' (first | exact Le.refl _ | apply Le.bind | apply Le.gd | apply Zfz | intro _)

noncomputable def Zcg (f : Vector Int 64) (out5 : List api_Flaw) (i2 : Int) : Option (((List api_Flaw) × Int) ⊕ ((List api_Flaw))) :=
  if (decide (i2 < 64)) = true then
  (ZZ f i2).bind fun x4 =>
  (ZcG x4).bind fun y2 =>
  if (!y2) = true then
  (app out5 ([(api_Flaw.mk i2 2)] : List api_Flaw)).bind fun l3 =>
  some (.inl (l3, (i64 (i2 + 1))))
  else
  some (.inl (out5, (i64 (i2 + 1))))
  else
  some (.inr out5)
theorem ZgL (f : Vector Int 64) (out5 : List api_Flaw) (i2 : Int) : Le (Zcg f out5 i2) (ZbW f out5 i2) := by
  unfold Zcg ZbW
  with_reducible repeat' (first | exact Le.refl _ | apply Le.bind | apply Le.ite | apply Zgx | intro _)

noncomputable def Zcj (f : Vector Int 64) (n2 : Int) (i : Int) : Option ((Int × Int) ⊕ (Int)) :=
  if (decide (i < 60)) = true then
  (ZZ f (i64 (i + 1))).bind fun x =>
  (X9 x).bind fun y =>
  some (.inl ((ZaZ .i64 n2 y), (i64 (i + 1))))
  else
  some (.inr n2)
theorem ZgO (f : Vector Int 64) (n2 : Int) (i : Int) : Le (Zcj f n2 i) (ZbN f n2 i) := by
  unfold Zcj ZbN
  with_reducible repeat' (first | exact Le.refl _ | apply Le.bind | apply Le.ite | apply Zd2 | intro _)

noncomputable def ZdT (f : Vector Int 64) : Option Int :=
  ((QK (t2 (Zcj f)) (0, 0)) : Option ((Int))).bind (t1 fun (n : Int) =>
  some n)
theorem ZhX (f : Vector Int 64) : Le (ZdT f) (ZcC f) := by
  unfold ZdT ZcC
  with_reducible repeat' (first | exact Le.refl _ | apply Le.bind | apply Le.loop | apply Le.t1 | apply Le.t2 | apply ZgO | intro _)

noncomputable def Za3 (f : Vector Int 64) (i : Int) (n4 : Int) (k : Int) : Option ((Int × Int) ⊕ (Int)) :=
  if (decide (0 ≤ k)) = true then
  (shl .i64 n4 1).bind fun q =>
  (ZZ f i).bind fun x =>
  (shr .u16 x k).bind fun q2 =>
  if (!((!decide ((XS .i64 n4 2097152) = 0)) == (decide ((XS .u16 q2 1) = 1)))) = true then
  some (.inl ((ZaZ .i64 (XS .i64 q 4194303) 2097167), (i64 (k - 1))))
  else
  some (.inl ((XS .i64 q 4194303), (i64 (k - 1))))
  else
  some (.inr n4)
theorem ZfH (f : Vector Int 64) (i : Int) (n4 : Int) (k : Int) : Le (Za3 f i n4 k) (Zau f i n4 k) := by
  unfold Za3 Zau
  with_reducible repeat' (first | exact Le.refl _ | apply Le.bind | apply Le.ite | intro _)

noncomputable def Za6 (f : Vector Int 64) (n2 : Int) (i : Int) : Option ((Int × Int) ⊕ (Int)) :=
  if (decide (i < 62)) = true then
  ((QK (t2 (Za3 f i)) (n2, 11)) : Option ((Int))).bind (t1 fun (n3 : Int) =>
  some (.inl (n3, (i64 (i + 1)))))
  else
  some (.inr n2)
theorem ZfC (f : Vector Int 64) (n2 : Int) (i : Int) : Le (Za6 f n2 i) (Zas f n2 i) := by
  unfold Za6 Zas
  with_reducible repeat' (first | exact Le.refl _ | apply Le.bind | apply Le.ite | apply Le.loop | apply Le.t1 | apply Le.t2 | apply ZfH | intro _)

noncomputable def ZcN (f : Vector Int 64) : Option Int :=
  ((QK (t2 (Za6 f)) (0, 0)) : Option ((Int))).bind (t1 fun (n : Int) =>
  some n)
theorem Zg9 (f : Vector Int 64) : Le (ZcN f) (ZaL f) := by
  unfold ZcN ZaL
  with_reducible repeat' (first | exact Le.refl _ | apply Le.bind | apply Le.loop | apply Le.t1 | apply Le.t2 | apply ZfC | intro _)

noncomputable def Zcp (f : Vector Int 64) : Option (List api_Flaw) :=
  ((QK (t2 (Zb9 f)) ([], 0)) : Option (((List api_Flaw)))).bind (t1 fun (out : List api_Flaw) =>
  if (decide (0 < (out.length : Int))) = true then
  some out
  else
  (((ZZ f 0).bind fun x2 =>
  (Zak f).bind fun y =>
  (rem y 4).bind fun q =>
  (ZZ gv_frame_syncs q).bind fun x3 =>
  if (!decide (x2 = x3)) = true then
  (app out ([(api_Flaw.mk 0 1)] : List api_Flaw)).bind fun l2 =>
  some l2
  else
  some out) : Option (((List api_Flaw)))).bind (t1 fun (out3 : List api_Flaw) =>
  ((QK (t2 (Zcg f)) (out3, 1)) : Option (((List api_Flaw)))).bind (t1 fun (out4 : List api_Flaw) =>
  (((ZZ f 61).bind fun x5 =>
  (X9 x5).bind fun y3 =>
  (ZdT f).bind fun y4 =>
  if (!decide (y3 = y4)) = true then
  (app out4 ([(api_Flaw.mk 61 3)] : List api_Flaw)).bind fun l4 =>
  some l4
  else
  some out4) : Option (((List api_Flaw)))).bind (t1 fun (out6 : List api_Flaw) =>
  (ZZ f 62).bind fun x6 =>
  (X9 x6).bind fun y5 =>
  (shl .i64 y5 11).bind fun q2 =>
  (ZZ f 63).bind fun x7 =>
  (X9 x7).bind fun y6 =>
  (ZcN f).bind fun y7 =>
  if (!decide ((bor .i64 q2 y6) = y7)) = true then
  (app out6 ([(api_Flaw.mk 62 4)] : List api_Flaw)).bind fun l5 =>
  some l5
  else
  some out6))))
theorem Ze6 (f : Vector Int 64) : Le (Zcp f) (Zbe f) := by
  unfold Zcp Zbe
  with_reducible repeat' (first | exact Le.refl _ | apply Le.bind | apply Le.ite | apply Le.loop | apply Le.t1 | apply Le.t2 | apply Zgt | apply ZdI | apply ZgL | apply Zd2 | apply ZhX | apply Zg9 | intro _)

noncomputable def ZbB (f : Vector Int 64) : Option (Int × Bool) :=
  (ZZ f 1).bind fun x =>
  (ZcG x).bind fun y =>
  (gd ((!y) == false) 0 (ZZ f 2)).bind fun x2 =>
  (gd ((!y) == false) false (ZcG x2)).bind fun y2 =>
  if ((!y) || (!y2)) = true then
  some (0, false)
  else
  (Zak f).bind fun y3 =>
  some (y3, true)
theorem ZeM (f : Vector Int 64) : Le (ZbB f) (Zaq f) := by
  unfold ZbB Zaq
  with_reducible repeat' (first | exact Le.refl _ | apply Le.bind | apply Le.ite | apply Le.gd | apply Zgx | apply ZdI | intro _)

noncomputable def ZbL (number : Int) (memories : Int) (copies : Int) (out2 : List Int) (i : Int) : Option (((List Int) × Int) ⊕ ((List Int))) :=
  if (decide (i < copies)) = true then
  (rem (i64 (number + i)) memories).bind fun q =>
  (apz 8 out2 ([q] : List Int)).bind fun l =>
  some (.inl (l, (i64 (i + 1))))
  else
  some (.inr out2)
theorem ZfX (number : Int) (memories : Int) (copies : Int) (out2 : List Int) (i : Int) : Le (ZbL number memories copies out2 i) (ZaU number memories copies out2 i) := by
  unfold ZbL ZaU
  with_reducible repeat' (first | exact Le.refl _ | apply Le.bind | apply Le.ite | intro _)

noncomputable def Zdj (number : Int) (memories : Int) (copies : Int) : Option (List Int) :=
  ((QK (t2 (ZbL number memories copies)) ([], 0)) : Option (((List Int)))).bind (t1 fun (out : List Int) =>
  some out)
theorem Zhz (number : Int) (memories : Int) (copies : Int) : Le (Zdj number memories copies) (Zbv number memories copies) := by
  unfold Zdj Zbv
  with_reducible repeat' (first | exact Le.refl _ | apply Le.bind | apply Le.loop | apply Le.t1 | apply Le.t2 | apply ZfX | intro _)

noncomputable def XN (b : ring_bank) (k : Int) : Option Bool :=
  (idx b.spots k).bind fun x =>
  (gd ((decide (x.sector < 0)) == false) (ring_spot.mk 0 0) (idx b.spots k)).bind fun x2 =>
  (gd ((decide (x.sector < 0)) == false) (api_Memory.mk 0 0 [] [] []) (idx b.memories k)).bind fun x3 =>
  some ((decide (x.sector < 0)) || (decide (x2.slot = x3.Slots)))
theorem ZaF (b : ring_bank) (k : Int) : Le (XN b k) (Xm b k) := by
  unfold XN Xm
  with_reducible repeat' (first | exact Le.refl _ | apply Le.bind | apply Le.gd | intro _)

noncomputable def ZaB (b : ring_bank) (k : Int) (x : api_Memory) (i : Int) : Option ((Int) ⊕ (Int) ⊕ (Unit)) :=
  if (decide (i < (x.Sectors.length : Int))) = true then
  (idx b.spots k).bind fun x2 =>
  (rem (i64 ((i64 (x2.sector + 1)) + i)) (x.Sectors.length : Int)).bind fun q =>
  (idx x.Bad q).bind fun x3 =>
  (gd ((!x3) == true) 0 (idx x.Wear q)).bind fun x4 =>
  if ((!x3) && (decide (x4 < x.Limit))) = true then
  some (.inr (.inl q))
  else
  some (.inl (i64 (i + 1)))
  else
  some (.inr (.inr ()))
theorem Ze5 (b : ring_bank) (k : Int) (x : api_Memory) (i : Int) : Le (ZaB b k x i) (JX b k x i) := by
  unfold ZaB JX
  with_reducible repeat' (first | exact Le.refl _ | apply Le.bind | apply Le.ite | apply Le.gd | intro _)

noncomputable def Jp (b : ring_bank) (k : Int) : Option Int :=
  (idx b.memories k).bind fun x =>
  ((QK (t1 (ZaB b k x)) 0) : Option ((Int) ⊕ (Unit))).bind (Sum.elim (fun q' => some q') (t0 (some (-1))))
theorem Zbw (b : ring_bank) (k : Int) : Le (Jp b k) (XP b k) := by
  unfold Jp XP
  with_reducible repeat' (first | exact Le.refl _ | apply Le.bind | apply Le.loop | apply Le.t0 | apply Le.t1 | apply Le.elim | apply Ze5 | intro _)

noncomputable def Zaj (b : ring_bank) (l : List Int) (i : Int) : Option ((Int) ⊕ (Int) ⊕ (Unit)) :=
  if (decide (i < (l.length : Int))) = true then
  (idx l i).bind fun x =>
  (XN b x).bind fun y =>
  (gd (y == true) 0 (Jp b x)).bind fun y2 =>
  if (y && (decide (y2 < 0))) = true then
  some (.inr (.inl 4))
  else
  some (.inl (i64 (i + 1)))
  else
  some (.inr (.inr ()))
theorem ZeR (b : ring_bank) (l : List Int) (i : Int) : Le (Zaj b l i) (JF b l i) := by
  unfold Zaj JF
  with_reducible repeat' (first | exact Le.refl _ | apply Le.bind | apply Le.ite | apply Le.gd | apply ZaF | apply Zbw | intro _)

noncomputable def Jr (sector : Int) (x : api_Memory) (most2 : Int) (i : Int) : Option ((Int × Int) ⊕ (Int)) :=
  if (decide (i < (x.Sectors.length : Int))) = true then
  (idx x.Sectors i).bind fun x2 =>
  (Zah x2).bind fun y =>
  if (y.2.2 && (!decide (i = sector))) = true then
  some (.inl ((max most2 y.1), (i64 (i + 1))))
  else
  some (.inl (most2, (i64 (i + 1))))
  else
  some (.inr most2)
theorem Zd4 (sector : Int) (x : api_Memory) (most2 : Int) (i : Int) : Le (Jr sector x most2 i) (XY sector x most2 i) := by
  unfold Jr XY
  with_reducible repeat' (first | exact Le.refl _ | apply Le.bind | apply Le.ite | apply ZbF | intro _)

noncomputable def X8 (b : ring_bank) (k : Int) (sector : Int) : Option Int :=
  (((idx b.memories k).bind fun x =>
  QK (t2 (Jr sector x)) (0, 0)) : Option ((Int))).bind (t1 fun (most : Int) =>
  some (i64 (most + 1)))
theorem Zb5 (b : ring_bank) (k : Int) (sector : Int) : Le (X8 b k sector) (Xk b k sector) := by
  unfold X8 Xk
  with_reducible repeat' (first | exact Le.refl _ | apply Le.bind | apply Le.loop | apply Le.t1 | apply Le.t2 | apply Zd4 | intro _)

noncomputable def Zaa (b : ring_bank) (l : List Int) (i2 : Int) : Option ((Int) ⊕ (Int) ⊕ (Unit)) :=
  if (decide (i2 < (l.length : Int))) = true then
  (idx l i2).bind fun x2 =>
  (XN b x2).bind fun y3 =>
  (gd (y3 == true) 0 (Jp b x2)).bind fun y4 =>
  (gd (y3 == true) 0 (X8 b x2 y4)).bind fun y5 =>
  if (y3 && (decide (1073741824 < y5))) = true then
  some (.inr (.inl 3))
  else
  some (.inl (i64 (i2 + 1)))
  else
  some (.inr (.inr ()))
theorem ZeS (b : ring_bank) (l : List Int) (i2 : Int) : Le (Zaa b l i2) (Jz b l i2) := by
  unfold Zaa Jz
  with_reducible repeat' (first | exact Le.refl _ | apply Le.bind | apply Le.ite | apply Le.gd | apply ZaF | apply Zbw | apply Zb5 | intro _)

noncomputable def Zbt (b : ring_bank) (l : List Int) : Option Int :=
  ((QK (t1 (Zaj b l)) 0) : Option ((Int) ⊕ (Unit))).bind (Sum.elim (fun q' => some q') (t0 (((QK (t1 (Zaa b l)) 0) : Option ((Int) ⊕ (Unit))).bind (Sum.elim (fun q' => some q') (t0 (some 0))))))
theorem ZfR (b : ring_bank) (l : List Int) : Le (Zbt b l) (JP b l) := by
  unfold Zbt JP
  with_reducible repeat' (first | exact Le.refl _ | apply Le.bind | apply Le.loop | apply Le.t0 | apply Le.t1 | apply Le.elim | apply ZeR | apply ZeS | intro _)

noncomputable def ZcM (f : Vector Int 64) (i : Int) : Option ((Int) ⊕ (Bool) ⊕ (Unit)) :=
  if (decide (i < 64)) = true then
  (ZZ f i).bind fun x =>
  if (decide (4095 < x)) = true then
  some (.inr (.inl true))
  else
  some (.inl (i64 (i + 1)))
  else
  some (.inr (.inr ()))
theorem ZgY (f : Vector Int 64) (i : Int) : Le (ZcM f i) (Zcs f i) := by
  unfold ZcM Zcs
  with_reducible repeat' (first | exact Le.refl _ | apply Le.bind | apply Le.ite | intro _)

noncomputable def Zeo (f : Vector Int 64) : Option Bool :=
  ((QK (t1 (ZcM f)) 0) : Option ((Bool) ⊕ (Unit))).bind (Sum.elim (fun q' => some q') (t0 (some false)))
theorem ZiC (f : Vector Int 64) : Le (Zeo f) (Zdr f) := by
  unfold Zeo Zdr
  with_reducible repeat' (first | exact Le.refl _ | apply Le.bind | apply Le.loop | apply Le.t0 | apply Le.t1 | apply Le.elim | apply ZgY | intro _)

noncomputable def ZbM (p : Vector Int 96) (i : Int) (w : Int) : Option (Vector Int 96) :=
  (quo .i64 i 2).bind fun q =>
  (rem i 2).bind fun q2 =>
  if (decide (q2 = 0)) = true then
  (shr .u16 w 4).bind fun q3 =>
  (ZZ p (i64 ((i64 (q * 3)) + 1))).bind fun x =>
  (ZZ p (i64 (q * 3))).bind fun x2 =>
  (shl .u16 (XS .u16 w 15) 4).bind fun q4 =>
  (ZZ (Jt p (i64 (q * 3)) (u8 q3)) (i64 ((i64 (q * 3)) + 1))).bind fun x3 =>
  some (Jt (Jt p (i64 (q * 3)) (u8 q3)) (i64 ((i64 (q * 3)) + 1)) (bor .u8 (u8 q4) (XS .u8 x 15)))
  else
  (ZZ p (i64 ((i64 (q * 3)) + 1))).bind fun x4 =>
  (shr .u16 w 8).bind fun q5 =>
  (ZZ p (i64 ((i64 (q * 3)) + 1))).bind fun x5 =>
  (ZZ (Jt p (i64 ((i64 (q * 3)) + 1)) (bor .u8 (XS .u8 x4 240) (u8 q5))) (i64 ((i64 (q * 3)) + 2))).bind fun x6 =>
  some (Jt (Jt p (i64 ((i64 (q * 3)) + 1)) (bor .u8 (XS .u8 x4 240) (u8 q5))) (i64 ((i64 (q * 3)) + 2)) (u8 w))
theorem ZfU (p : Vector Int 96) (i : Int) (w : Int) : Le (ZbM p i w) (JI p i w) := by
  unfold ZbM JI
  with_reducible repeat' (first | exact Le.refl _ | apply Le.bind | apply Le.ite | intro _)

noncomputable def ZcR (f : Vector Int 64) (o : Vector Int 96) (i : Int) : Option (((Vector Int 96) × Int) ⊕ ((Vector Int 96))) :=
  if (decide (i < 64)) = true then
  (ZZ f i).bind fun x =>
  (ZbM o i x).bind fun y =>
  some (.inl (y, (i64 (i + 1))))
  else
  some (.inr o)
theorem Zg7 (f : Vector Int 64) (o : Vector Int 96) (i : Int) : Le (ZcR f o i) (Zcu f o i) := by
  unfold ZcR Zcu
  with_reducible repeat' (first | exact Le.refl _ | apply Le.bind | apply Le.ite | apply ZfU | intro _)

noncomputable def Zeq (p : Vector Int 96) (f : Vector Int 64) : Option (Vector Int 96) :=
  QK (t2 (ZcR f)) (p, 0)
theorem Zis (p : Vector Int 96) (f : Vector Int 64) : Le (Zeq p f) (Zdu p f) := by
  unfold Zeq Zdu
  with_reducible repeat' (first | exact Le.refl _ | apply Le.bind | apply Le.loop | apply Le.t2 | apply Zg7 | intro _)

noncomputable def ZcU (f : Vector Int 64) : Option ((List Int) × Int) :=
  (Zeo f).bind fun y =>
  if y = true then
  some ([], 9)
  else
  (Zeq (Vector.replicate 96 0) f).bind fun y2 =>
  (slc y2.toList 0 (96 : Int)).bind fun l =>
  some (l, 0)
theorem Zhd (f : Vector Int 64) : Le (ZcU f) (ZaM f) := by
  unfold ZcU ZaM
  with_reducible repeat' (first | exact Le.refl _ | apply Le.bind | apply Le.ite | apply ZiC | apply Zis | intro _)

noncomputable def JT (q : Int) (o2 : List Int) (i : Int) : Option (((List Int) × Int) ⊕ ((List Int))) :=
  if (decide (i < ((Int.toNat (q - 0) : Nat) : Int))) = true then
  (ck (decide ((0 : Int) ≤ i) && decide (i < ((Int.toNat (q - 0) : Nat) : Int)))).bind fun u2 =>
  (idx o2 (0 + i)).bind fun x2 =>
  some (.inl ((o2.set (0 + i).toNat 255), (i64 (i + 1))))
  else
  some (.inr o2)
theorem Zer (q : Int) (o2 : List Int) (i : Int) : Le (JT q o2 i) (QO q o2 i) := by
  unfold JT QO
  with_reducible repeat' (first | exact Le.refl _ | apply Le.bind | apply Le.ite | intro _)

noncomputable def JU (s : List Int) (o4 : List Int) (i2 : Int) : Option (((List Int) × Int) ⊕ ((List Int))) :=
  if (decide (i2 < (s.length : Int))) = true then
  (idx o4 i2).bind fun x3 =>
  some (.inl ((o4.set i2.toNat 255), (i64 (i2 + 1))))
  else
  some (.inr o4)
theorem ZeD (s : List Int) (o4 : List Int) (i2 : Int) : Le (JU s o4 i2) (QM s o4 i2) := by
  unfold JU QM
  with_reducible repeat' (first | exact Le.refl _ | apply Le.bind | apply Le.ite | intro _)

noncomputable def Za9 (s : List Int) (power : Int) : Option (Int × Bool × (List Int)) :=
  if (decide (power = 0)) = true then
  (quo .i64 (s.length : Int) 2).bind fun q =>
  (slp s 0 q).bind fun u =>
  ((QK (t2 (JT q)) (s, 0)) : Option (((List Int)))).bind (t1 fun (o : List Int) =>
  some ((max (i64 (power - 1)) 0), (decide (0 < power)), o))
  else
  ((QK (t2 (JU s)) (s, 0)) : Option (((List Int)))).bind (t1 fun (o3 : List Int) =>
  some ((max (i64 (power - 1)) 0), (decide (0 < power)), o3))
theorem ZfK (s : List Int) (power : Int) : Le (Za9 s power) (Xn s power) := by
  unfold Za9 Xn
  with_reducible repeat' (first | exact Le.refl _ | apply Le.bind | apply Le.ite | apply Le.loop | apply Le.t1 | apply Le.t2 | apply Zer | apply ZeD | intro _)

noncomputable def Za2 (at_ : Int) (data : List Int) (o2 : List Int) (power3 : Int) (i : Int) : Option (((List Int) × Int × Int) ⊕ (Int × Bool × (List Int)) ⊕ ((List Int) × Int)) :=
  if (decide (i < (data.length : Int))) = true then
  (idx data i).bind fun x =>
  if (decide (power3 = 0)) = true then
  (idx o2 (i64 (at_ + i))).bind fun x2 =>
  (idx o2 (i64 (at_ + i))).bind fun x3 =>
  some (.inr (.inl (0, false, (o2.set (i64 (at_ + i)).toNat (XS .u8 x2 (bor .u8 x 15))))))
  else
  (idx o2 (i64 (at_ + i))).bind fun x4 =>
  (idx o2 (i64 (at_ + i))).bind fun x5 =>
  some (.inl ((o2.set (i64 (at_ + i)).toNat (XS .u8 x4 x)), (i64 (power3 - 1)), (i64 (i + 1))))
  else
  some (.inr (.inr (o2, power3)))
theorem ZfI (at_ : Int) (data : List Int) (o2 : List Int) (power3 : Int) (i : Int) : Le (Za2 at_ data o2 power3 i) (Xj at_ data o2 power3 i) := by
  unfold Za2 Xj
  with_reducible repeat' (first | exact Le.refl _ | apply Le.bind | apply Le.ite | intro _)

noncomputable def ZaT (s : List Int) (at_ : Int) (data : List Int) (power : Int) : Option (Int × Bool × (List Int)) :=
  ((QK (t3 (Za2 at_ data)) (s, power, 0)) : Option ((Int × Bool × (List Int)) ⊕ ((List Int) × Int))).bind (Sum.elim (fun q' => some q') (t2 fun (o : List Int) (power2 : Int) =>
  some (power2, true, o)))
theorem Zee (s : List Int) (at_ : Int) (data : List Int) (power : Int) : Le (ZaT s at_ data power) (XI s at_ data power) := by
  unfold ZaT XI
  with_reducible repeat' (first | exact Le.refl _ | apply Le.bind | apply Le.loop | apply Le.t2 | apply Le.t3 | apply Le.elim | apply ZfI | intro _)

noncomputable def ZaD (b : ring_Recorder) (k : Int) (power : Int) : Option (Int × Bool × ring_Recorder) :=
  (idx b.bank.memories k).bind fun x =>
  (Jp b.bank k).bind fun y =>
  (X8 b.bank k y).bind fun y2 =>
  (idx x.Wear y).bind fun x2 =>
  (idx x.Wear y).bind fun x3 =>
  (idx x.Sectors y).bind fun x8 =>
  (Za9 x8 power).bind fun y3 =>
  if (!y3.2.1) = true then
  some (y3.1, false, (ring_Recorder.mk (ring_bank.mk ((b.bank.memories.set k.toNat (api_Memory.mk x.Slots x.Limit x.Sectors (x.Wear.set y.toNat (i64 (x2 + 1))) x.Bad)).set k.toNat (api_Memory.mk x.Slots x.Limit (x.Sectors.set y.toNat y3.2.2) (x.Wear.set y.toNat (i64 (x2 + 1))) x.Bad)) b.bank.spots) b.copies b.frozen b.stopped b.last b.some_))
  else
  (((idx ((b.bank.memories.set k.toNat (api_Memory.mk x.Slots x.Limit x.Sectors (x.Wear.set y.toNat (i64 (x2 + 1))) x.Bad)).set k.toNat (api_Memory.mk x.Slots x.Limit (x.Sectors.set y.toNat y3.2.2) (x.Wear.set y.toNat (i64 (x2 + 1))) x.Bad)) k).bind fun x14 =>
  (idx x14.Sectors y).bind fun x15 =>
  (idx x14.Sectors y).bind fun x16 =>
  (Zcr y2).bind fun y4 =>
  (ZaT x15 0 y4 y3.1).bind fun y5 =>
  if y5.2.1 = true then
  (idx b.bank.spots k).bind fun x22 =>
  some ((((b.bank.memories.set k.toNat (api_Memory.mk x.Slots x.Limit x.Sectors (x.Wear.set y.toNat (i64 (x2 + 1))) x.Bad)).set k.toNat (api_Memory.mk x.Slots x.Limit (x.Sectors.set y.toNat y3.2.2) (x.Wear.set y.toNat (i64 (x2 + 1))) x.Bad)).set k.toNat (api_Memory.mk x14.Slots x14.Limit (x14.Sectors.set y.toNat y5.2.2) x14.Wear x14.Bad)), (b.bank.spots.set k.toNat (ring_spot.mk y 0)), y5.1, y5.2.1)
  else
  some ((((b.bank.memories.set k.toNat (api_Memory.mk x.Slots x.Limit x.Sectors (x.Wear.set y.toNat (i64 (x2 + 1))) x.Bad)).set k.toNat (api_Memory.mk x.Slots x.Limit (x.Sectors.set y.toNat y3.2.2) (x.Wear.set y.toNat (i64 (x2 + 1))) x.Bad)).set k.toNat (api_Memory.mk x14.Slots x14.Limit (x14.Sectors.set y.toNat y5.2.2) x14.Wear x14.Bad)), b.bank.spots, y5.1, y5.2.1)) : Option (((List api_Memory) × (List ring_spot) × Int × Bool))).bind (t4 fun (memories : List api_Memory) (spots : List ring_spot) (power2 : Int) (all : Bool) =>
  some (power2, all, (ring_Recorder.mk (ring_bank.mk memories spots) b.copies b.frozen b.stopped b.last b.some_)))
theorem Zfb (b : ring_Recorder) (k : Int) (power : Int) : Le (ZaD b k power) (X6 b k power) := by
  unfold ZaD X6
  with_reducible repeat' (first | exact Le.refl _ | apply Le.bind | apply Le.ite | apply Le.t4 | apply Zbw | apply Zb5 | apply ZfK | apply Zfk | apply Zee | intro _)

noncomputable def Zb0 (b : ring_Recorder) (k : Int) (data : List Int) (power : Int) : Option (Int × Bool × ring_Recorder) :=
  (((XN b.bank k).bind fun y =>
  if y = true then
  (ZaD b k power).bind fun y2 =>
  if (!y2.2.1) = true then
  some (.inl (y2.1, false, y2.2.2))
  else
  some (.inr (y2.2.2.bank.memories, y2.2.2.bank.spots, y2.2.2.copies, y2.2.2.frozen, y2.2.2.stopped, y2.2.2.last, y2.2.2.some_, y2.1))
  else
  some (.inr (b.bank.memories, b.bank.spots, b.copies, b.frozen, b.stopped, b.last, b.some_, power))) : Option ((Int × Bool × ring_Recorder) ⊕ ((List api_Memory) × (List ring_spot) × Int × Bool × Bool × Int × Bool × Int))).bind (Sum.elim (fun q' => some q') (t8 fun (memories : List api_Memory) (spots : List ring_spot) (copies : Int) (frozen : Bool) (stopped : Bool) (last : Int) (some_ : Bool) (power2 : Int) =>
  (idx spots k).bind fun x =>
  (idx memories k).bind fun x2 =>
  (idx x2.Sectors x.sector).bind fun x3 =>
  (idx memories k).bind fun x4 =>
  (idx x2.Sectors x.sector).bind fun x5 =>
  (apz 1 data ([0] : List Int)).bind fun l =>
  (ZaT x3 (i64 (16 + (i64 (x.slot * 97)))) l power2).bind fun y3 =>
  some (y3.1, y3.2.1, (ring_Recorder.mk (ring_bank.mk (memories.set k.toNat (api_Memory.mk x2.Slots x2.Limit (x2.Sectors.set x.sector.toNat y3.2.2) x2.Wear x2.Bad)) (spots.set k.toNat (ring_spot.mk x.sector (i64 (x.slot + 1))))) copies frozen stopped last some_))))
theorem Zf0 (b : ring_Recorder) (k : Int) (data : List Int) (power : Int) : Le (Zb0 b k data power) (JO b k data power) := by
  unfold Zb0 JO
  with_reducible repeat' (first | exact Le.refl _ | apply Le.bind | apply Le.ite | apply Le.t8 | apply Le.elim | apply ZaF | apply Zfb | apply Zee | intro _)

noncomputable def X3 (y4 : (List Int)) (y6 : (List Int) × Int) (memories2 : List api_Memory) (spots2 : List ring_spot) (copies2 : Int) (frozen2 : Bool) (stopped2 : Bool) (last2 : Int) (some_2 : Bool) (power3 : Int) (i : Int) : Option (((List api_Memory) × (List ring_spot) × Int × Bool × Bool × Int × Bool × Int × Int) ⊕ (Int × Bool × Int × ring_Recorder) ⊕ ((List api_Memory) × (List ring_spot) × Int × Bool × Bool × Int × Bool × Int)) :=
  if (decide (i < (y4.length : Int))) = true then
  (idx y4 i).bind fun x =>
  (slc y6.1 0 (y6.1.length : Int)).bind fun l =>
  (Zb0 (ring_Recorder.mk (ring_bank.mk memories2 spots2) copies2 frozen2 stopped2 last2 some_2) x l power3).bind fun y7 =>
  if (!y7.2.1) = true then
  some (.inr (.inl (y7.1, false, 0, (ring_Recorder.mk y7.2.2.bank y7.2.2.copies y7.2.2.frozen true y7.2.2.last y7.2.2.some_))))
  else
  some (.inl (y7.2.2.bank.memories, y7.2.2.bank.spots, y7.2.2.copies, y7.2.2.frozen, y7.2.2.stopped, y7.2.2.last, y7.2.2.some_, y7.1, (i64 (i + 1))))
  else
  some (.inr (.inr (memories2, spots2, copies2, frozen2, stopped2, last2, some_2, power3)))
theorem Zdk (y4 : (List Int)) (y6 : (List Int) × Int) (memories2 : List api_Memory) (spots2 : List ring_spot) (copies2 : Int) (frozen2 : Bool) (stopped2 : Bool) (last2 : Int) (some_2 : Bool) (power3 : Int) (i : Int) : Le (X3 y4 y6 memories2 spots2 copies2 frozen2 stopped2 last2 some_2 power3 i) (Xy y4 y6 memories2 spots2 copies2 frozen2 stopped2 last2 some_2 power3 i) := by
  unfold X3 Xy
  with_reducible repeat' (first | exact Le.refl _ | apply Le.bind | apply Le.ite | apply Zf0 | intro _)

noncomputable def JD (r_ : ring_Recorder) (f : Vector Int 64) (power : Int) : Option (Int × Bool × Int × ring_Recorder) :=
  (Zad r_ power).bind fun y =>
  if (!decide (y = 0)) = true then
  some (0, false, y, r_)
  else
  (Zcp f).bind fun y2 =>
  if (decide (0 < (y2.length : Int))) = true then
  some (0, false, 2, r_)
  else
  (ZbB f).bind fun y3 =>
  (Zdj y3.1 (r_.bank.memories.length : Int) r_.copies).bind fun y4 =>
  (Zbt r_.bank y4).bind fun y5 =>
  if (!decide (y5 = 0)) = true then
  some (0, false, y5, r_)
  else
  (ZcU f).bind fun y6 =>
  ((QK (t9 (X3 y4 y6)) (r_.bank.memories, r_.bank.spots, r_.copies, r_.frozen, r_.stopped, r_.last, r_.some_, power, 0)) : Option ((Int × Bool × Int × ring_Recorder) ⊕ ((List api_Memory) × (List ring_spot) × Int × Bool × Bool × Int × Bool × Int))).bind (Sum.elim (fun q' => some q') (t8 fun (memories : List api_Memory) (spots : List ring_spot) (copies : Int) (frozen : Bool) (stopped : Bool) (last : Int) (some_ : Bool) (power2 : Int) =>
  some (power2, true, 0, (ring_Recorder.mk (ring_bank.mk memories spots) copies frozen stopped y3.1 true))))
theorem Zea (r_ : ring_Recorder) (f : Vector Int 64) (power : Int) : Le (JD r_ f power) (Xv r_ f power) := by
  unfold JD Xv
  with_reducible repeat' (first | exact Le.refl _ | apply Le.bind | apply Le.ite | apply Le.loop | apply Le.t8 | apply Le.t9 | apply Le.elim | apply ZeT | apply Ze6 | apply ZeM | apply Zhz | apply ZfR | apply Zhd | apply Zdk | intro _)

noncomputable def Jg (r_ : ring_Recorder) : Option (List api_Memory) :=
  (Zbx r_.bank.memories).bind fun y =>
  some y
theorem ZdC (r_ : ring_Recorder) : Le (Jg r_) (Q5 r_) := by
  unfold Jg Q5
  with_reducible repeat' (first | exact Le.refl _ | apply Le.bind | apply ZeG | intro _)

noncomputable def Zdm (p : Vector Int 96) (i : Int) : Option Int :=
  (quo .i64 i 2).bind fun q =>
  (rem i 2).bind fun q2 =>
  if (decide (q2 = 0)) = true then
  (ZZ p (i64 (q * 3))).bind fun x =>
  (shl .u16 (u16 x) 4).bind fun q3 =>
  (ZZ p (i64 ((i64 (q * 3)) + 1))).bind fun x2 =>
  (shr .u16 (u16 x2) 4).bind fun q4 =>
  some (bor .u16 q3 q4)
  else
  (ZZ p (i64 ((i64 (q * 3)) + 1))).bind fun x3 =>
  (shl .u16 (XS .u16 (u16 x3) 15) 8).bind fun q5 =>
  (ZZ p (i64 ((i64 (q * 3)) + 2))).bind fun x4 =>
  some (bor .u16 q5 (u16 x4))
theorem ZhE (p : Vector Int 96) (i : Int) : Le (Zdm p i) (ZbO p i) := by
  unfold Zdm ZbO
  with_reducible repeat' (first | exact Le.refl _ | apply Le.bind | apply Le.ite | intro _)

noncomputable def ZcW (p : Vector Int 96) (f2 : Vector Int 64) (i : Int) : Option (((Vector Int 64) × Int) ⊕ ((Vector Int 64))) :=
  if (decide (i < 64)) = true then
  (Zdm p i).bind fun y =>
  (ZZ f2 i).bind fun x =>
  some (.inl ((Jt f2 i y), (i64 (i + 1))))
  else
  some (.inr f2)
theorem ZgV (p : Vector Int 96) (f2 : Vector Int 64) (i : Int) : Le (ZcW p f2 i) (Zct p f2 i) := by
  unfold ZcW Zct
  with_reducible repeat' (first | exact Le.refl _ | apply Le.bind | apply Le.ite | apply ZhE | intro _)

noncomputable def Zeu (p : Vector Int 96) : Option (Vector Int 64) :=
  ((QK (t2 (ZcW p)) ((Vector.replicate 64 0), 0)) : Option (((Vector Int 64)))).bind (t1 fun (f : Vector Int 64) =>
  some f)
theorem Ziv (p : Vector Int 96) : Le (Zeu p) (Zdn p) := by
  unfold Zeu Zdn
  with_reducible repeat' (first | exact Le.refl _ | apply Le.bind | apply Le.loop | apply Le.t1 | apply Le.t2 | apply ZgV | intro _)

noncomputable def Zbs (b : List Int) : Option ((Vector Int 64) × Int) :=
  if (decide ((b.length : Int) < 96)) = true then
  some ((#v[0, 0, 0, 0, 0, 0, 0, 0, 0, 0, 0, 0, 0, 0, 0, 0, 0, 0, 0, 0, 0, 0, 0, 0, 0, 0, 0, 0, 0, 0, 0, 0, 0, 0, 0, 0, 0, 0, 0, 0, 0, 0, 0, 0, 0, 0, 0, 0, 0, 0, 0, 0, 0, 0, 0, 0, 0, 0, 0, 0, 0, 0, 0, 0] : Vector Int 64), 3)
  else
  (slc b 0 96).bind fun l =>
  (tov 96 l).bind fun v =>
  (Zeu v).bind fun y =>
  some (y, 0)
theorem Zgf (b : List Int) : Le (Zbs b) (JQ b) := by
  unfold Zbs JQ
  with_reducible repeat' (first | exact Le.refl _ | apply Le.bind | apply Le.ite | apply Ziv | intro _)

noncomputable def ZbI (i : Int) (x : api_Memory) (x2 : Int) (y3 : Int × Bool × Bool) (out6 : List api_Kept) (i3 : Int) : Option (((List api_Kept) × Int) ⊕ ((List api_Kept))) :=
  if (decide (i3 < x.Slots)) = true then
  (idx x.Sectors x2).bind fun x4 =>
  (Zcv x4 i3).bind fun y4 =>
  (ZbY y4).bind fun y5 =>
  if (decide (y5 = 1)) = true then
  (slc y4.toList 0 (97 : Int)).bind fun l2 =>
  (Zbs l2).bind fun y6 =>
  (apz 160 out6 ([(api_Kept.mk i x2 y3.1 i3 y6.1)] : List api_Kept)).bind fun l3 =>
  some (.inl (l3, (i64 (i3 + 1))))
  else
  some (.inl (out6, (i64 (i3 + 1))))
  else
  some (.inr out6)
theorem Zgd (i : Int) (x : api_Memory) (x2 : Int) (y3 : Int × Bool × Bool) (out6 : List api_Kept) (i3 : Int) : Le (ZbI i x x2 y3 out6 i3) (ZaV i x x2 y3 out6 i3) := by
  unfold ZbI ZaV
  with_reducible repeat' (first | exact Le.refl _ | apply Le.bind | apply Le.ite | apply Ze1 | apply ZeF | apply Zgf | intro _)

noncomputable def Zbq (i : Int) (x : api_Memory) (y2 : (List Int)) (out4 : List api_Kept) (i2 : Int) : Option (((List api_Kept) × Int) ⊕ ((List api_Kept))) :=
  if (decide (i2 < (y2.length : Int))) = true then
  (((idx y2 i2).bind fun x2 =>
  (idx x.Sectors x2).bind fun x3 =>
  (Zah x3).bind fun y3 =>
  QK (t2 (ZbI i x x2 y3)) (out4, 0)) : Option (((List api_Kept)))).bind (t1 fun (out5 : List api_Kept) =>
  some (.inl (out5, (i64 (i2 + 1)))))
  else
  some (.inr out4)
theorem Zf8 (i : Int) (x : api_Memory) (y2 : (List Int)) (out4 : List api_Kept) (i2 : Int) : Le (Zbq i x y2 out4 i2) (ZaS i x y2 out4 i2) := by
  unfold Zbq ZaS
  with_reducible repeat' (first | exact Le.refl _ | apply Le.bind | apply Le.ite | apply Le.loop | apply Le.t1 | apply Le.t2 | apply ZbF | apply Zgd | intro _)

noncomputable def ZbJ (l : List api_Memory) (out2 : List api_Kept) (i : Int) : Option (((List api_Kept) × Int) ⊕ ((List api_Kept))) :=
  if (decide (i < (l.length : Int))) = true then
  (((idx l i).bind fun x =>
  (Zb1 x).bind fun y2 =>
  QK (t2 (Zbq i x y2)) (out2, 0)) : Option (((List api_Kept)))).bind (t1 fun (out3 : List api_Kept) =>
  some (.inl (out3, (i64 (i + 1)))))
  else
  some (.inr out2)
theorem ZfW (l : List api_Memory) (out2 : List api_Kept) (i : Int) : Le (ZbJ l out2 i) (ZaW l out2 i) := by
  unfold ZbJ ZaW
  with_reducible repeat' (first | exact Le.refl _ | apply Le.bind | apply Le.ite | apply Le.loop | apply Le.t1 | apply Le.t2 | apply ZeN | apply Zf8 | intro _)

noncomputable def Zds (l : List api_Memory) : Option ((List api_Kept) × Int) :=
  (ZaX l).bind fun y =>
  if (!decide (y = 0)) = true then
  some ([], y)
  else
  ((QK (t2 (ZbJ l)) ([], 0)) : Option (((List api_Kept)))).bind (t1 fun (out : List api_Kept) =>
  some (out, 0))
theorem ZhF (l : List api_Memory) : Le (Zds l) (ZbR l) := by
  unfold Zds ZbR
  with_reducible repeat' (first | exact Le.refl _ | apply Le.bind | apply Le.ite | apply Le.loop | apply Le.t1 | apply Le.t2 | apply Zeg | apply ZfW | intro _)

noncomputable def Zcc (y : (List api_Kept) × Int) (best2 : List (Int × api_Kept)) (numbers2 : List Int) (i : Int) : Option (((List (Int × api_Kept)) × (List Int) × Int) ⊕ ((List (Int × api_Kept)) × (List Int))) :=
  if (decide (i < (y.1.length : Int))) = true then
  (idx y.1 i).bind fun x =>
  (Zcp x.Frame).bind fun y2 =>
  if (decide (0 < (y2.length : Int))) = true then
  some (.inl (best2, numbers2, (i64 (i + 1))))
  else
  (ZbB x.Frame).bind fun y3 =>
  (some (Zgn kqI best2 y3.1)).bind fun o =>
  ((if (!o.isSome) = true then
  (apz 8 numbers2 ([y3.1] : List Int)).bind fun l2 =>
  some l2
  else
  some numbers2) : Option (((List Int)))).bind (t1 fun (numbers3 : List Int) =>
  if ((!o.isSome) || (decide (((o.getD (api_Kept.mk 0 0 0 0 (Vector.replicate 64 0))).Sequence) < x.Sequence))) = true then
  some (.inl ((Zji kqI best2 y3.1 x), numbers3, (i64 (i + 1))))
  else
  some (.inl (best2, numbers3, (i64 (i + 1)))))
  else
  some (.inr (best2, numbers2))
theorem ZgG (y : (List api_Kept) × Int) (best2 : List (Int × api_Kept)) (numbers2 : List Int) (i : Int) : Le (Zcc y best2 numbers2 i) (Zbm y best2 numbers2 i) := by
  unfold Zcc Zbm
  with_reducible repeat' (first | exact Le.refl _ | apply Le.bind | apply Le.ite | apply Le.t1 | apply Ze6 | apply ZeM | intro _)

noncomputable def Zcf (best : List (Int × api_Kept)) (y4 : List Int) (out2 : List (Vector Int 64)) (i2 : Int) : Option (((List (Vector Int 64)) × Int) ⊕ ((List (Vector Int 64)))) :=
  if (decide (i2 < (y4.length : Int))) = true then
  (idx y4 i2).bind fun x2 =>
  (some ((Zgn kqI best x2).getD (api_Kept.mk 0 0 0 0 (Vector.replicate 64 0)))).bind fun o2 =>
  (apz 128 out2 ([o2.Frame] : List (Vector Int 64))).bind fun l3 =>
  some (.inl (l3, (i64 (i2 + 1))))
  else
  some (.inr out2)
theorem ZgP (best : List (Int × api_Kept)) (y4 : List Int) (out2 : List (Vector Int 64)) (i2 : Int) : Le (Zcf best y4 out2 i2) (ZbU best y4 out2 i2) := by
  unfold Zcf ZbU
  with_reducible repeat' (first | exact Le.refl _ | apply Le.bind | apply Le.ite | intro _)

noncomputable def Zd0 (l : List api_Memory) : Option ((List (Vector Int 64)) × Int) :=
  (Zds l).bind fun y =>
  if (!decide (y.2 = 0)) = true then
  some ([], y.2)
  else
  ((QK (t3 (Zcc y)) (([] : List (Int × api_Kept)), [], 0)) : Option (((List (Int × api_Kept)) × (List Int)))).bind (t2 fun (best : List (Int × api_Kept)) (numbers : List Int) =>
  (Zms numbers).bind fun y4 =>
  ((QK (t2 (Zcf best y4)) ([], 0)) : Option (((List (Vector Int 64))))).bind (t1 fun (out : List (Vector Int 64)) =>
  some (out, 0)))
theorem Zij (l : List api_Memory) : Le (Zd0 l) (Zcz l) := by
  unfold Zd0 Zcz
  with_reducible repeat' (first | exact Le.refl _ | apply Le.bind | apply Le.ite | apply Le.loop | apply Le.t1 | apply Le.t2 | apply Le.t3 | apply ZhF | apply ZgG | apply ZgP | apply Zlf | intro _)

noncomputable def Zff : Option Bool :=
  (mkz 8 58 0).bind fun l =>
  (Zf6 4 l).bind fun y =>
  (Zcm 2 1 3).bind fun y2 =>
  if (!decide (y2.2 = 0)) = true then
  some false
  else
  (Zes ([y2.1] : List api_Memory) 1).bind (Sum.elim (fun y3 =>
  if (!decide (y3 = 0)) = true then
  some false
  else
  none) (fun y3 =>
  if (!decide (y3.2 = 0)) = true then
  some false
  else
  (JD y3.1 y.1 109).bind fun y4 =>
  (Jg y4.2.2.2).bind fun y5 =>
  (Zd0 y5).bind fun y6 =>
  (gd ((((((decide (y4.1 = 1)) && y4.2.1) && (decide (y4.2.2.1 = 0))) && (decide (y6.2 = 0))) && (decide ((y6.1.length : Int) = 1))) == true) (Vector.replicate 64 0) (idx y6.1 0)).bind fun x =>
  some ((((((decide (y4.1 = 1)) && y4.2.1) && (decide (y4.2.2.1 = 0))) && (decide (y6.2 = 0))) && (decide ((y6.1.length : Int) = 1))) && (decide (x = y.1)))))
theorem Zi3 : Le (Zff ) (Zdf ) := by
  unfold Zff Zdf
  with_reducible repeat' (first | exact Le.refl _ | apply Le.bind | apply Le.ite | apply Le.gd | apply Le.elim | apply Zjw | apply Zgv | apply Ziz | apply Zea | apply ZdC | apply Zij | intro _)
end Go.Vx

namespace Go.Vx
open Go Go.RowKit
theorem ZmM : Zff = some true := by decide +kernel
theorem Zj9 : Zdf = some true := Zi3 true ZmM
end Go.Vx

namespace Go.Vx
open Go Go.RowKit
theorem Zem {α : Type} {s : Nat} {xs ys : List α} (h : xs.length + ys.length ≤ 140737488355328 / s) : apz s xs ys = some (xs ++ ys) := by unfold apz; rw [if_pos h]
theorem Zm1 {α : Type} {s n : Nat} (h : n ≤ 140737488355328 / s) (z : α) : mkz s (n : Int) z = some (List.replicate n z) := by
  unfold mkz; rw [if_pos ⟨by omega, by simpa using h⟩]; simp
theorem ZhM {α : Type} [DecidableEq α] {a b : List α} {body : Int → Option (Int ⊕ (Bool ⊕ Unit))} (hl : a.length = b.length)
    (h : ∀ (k : Nat) x y, a[k]? = some x → b[k]? = some y → body k = if x = y then some (.inl ((k : Int) + 1)) else some (.inr (.inl false)))
    (hend : body a.length = some (.inr (.inr ()))) : loop (t1 body) 0 = some (if a = b then .inr () else .inl false) := by
  refine (ZlO (xs := a) (fun k => if a.drop k = b.drop k then (.inr () : Bool ⊕ Unit) else .inl false) (fun k x hx => ?_) ?_).trans (by simp)
  · have hk := (List.getElem?_eq_some_iff.1 hx).1
    obtain ⟨y, hy⟩ := Zke (xs := b) (k := k) (by omega)
    rw [h k x y hx hy, ZiK hx, ZiK hy]
    by_cases e : x = y
    · left; subst e; refine ⟨by rw [if_pos rfl], ?_⟩
      simp
    · right; rw [if_neg e, if_neg (by simp [e])]
  · rw [hend, if_pos (by rw [List.drop_length, hl, List.drop_length])]
theorem eqI {a b : List Int} (ha : a.length ≤ 9223372036854775807) : QX a b = some (decide (a = b)) := by
  unfold QX
  by_cases hl : a.length = b.length
  · rw [if_neg (by simp [hl]), ZhM (a := a) (b := b) hl (fun k x y hx hy => ?_) (by simp [Xx])]
    · by_cases e : a = b <;> simp [e]
    · have hlt := Zko hx
      simp only [Xx, hlt, decide_true, if_true, Qr hx, Qr hy, Option.bind_some]
      rw [show i64 ((k : Int) + 1) = (k : Int) + 1 from ZN (by omega) (by omega)]
      by_cases e : x = y <;> simp [e]
  · rw [if_pos (by simpa using fun e => hl (by omega))]
    rw [decide_eq_false (fun e => hl (by rw [e]))]
theorem eqY {a b : List Int} (ha : a.length ≤ 9223372036854775807) : Qy a b = some (decide (a = b)) := by
  unfold Qy
  by_cases hl : a.length = b.length
  · rw [if_neg (by simp [hl]), ZhM (a := a) (b := b) hl (fun k x y hx hy => ?_) (by simp [Qx])]
    · by_cases e : a = b <;> simp [e]
    · have hlt := Zko hx
      simp only [Qx, hlt, decide_true, if_true, Qr hx, Qr hy, Option.bind_some]
      rw [show i64 ((k : Int) + 1) = (k : Int) + 1 from ZN (by omega) (by omega)]
      by_cases e : x = y <;> simp [e]
  · rw [if_pos (by simpa using fun e => hl (by omega))]
    rw [decide_eq_false (fun e => hl (by rw [e]))]
theorem eqB {a b : List Bool} (ha : a.length ≤ 9223372036854775807) : Q0 a b = some (decide (a = b)) := by
  unfold Q0
  by_cases hl : a.length = b.length
  · rw [if_neg (by simp [hl]), ZhM (a := a) (b := b) hl (fun k x y hx hy => ?_) (by simp [Xg])]
    · by_cases e : a = b <;> simp [e]
    · have hlt := Zko hx
      simp only [Xg, hlt, decide_true, if_true, Qr hx, Qr hy, Option.bind_some]
      rw [show i64 ((k : Int) + 1) = (k : Int) + 1 from ZN (by omega) (by omega)]
      by_cases e : x = y <;> simp [e]
  · rw [if_pos (by simpa using fun e => hl (by omega))]
    rw [decide_eq_false (fun e => hl (by rw [e]))]
theorem eqF {a : List (List Int)} (ha : a.length ≤ 9223372036854775807) : Z5 a a (fun z0 z1 => ZcH z0 z1) = some true := by
  unfold Z5
  rw [if_neg (by simp), ZhM (a := a) (b := a) rfl (fun k x y hx hy => ?_) (by simp [Qe])]
  · simp
  · have hlt := Zko hx
    rw [hx] at hy; cases hy
    simp only [Qe, hlt, decide_true, if_true, Qr hx, Option.bind_some, ZcH]
    rw [show i64 ((k : Int) + 1) = (k : Int) + 1 from ZN (by omega) (by omega)]
    simp
theorem ZjZ (m : api_Memory) (h1 : m.Sectors.length ≤ 9223372036854775807) (h2 : m.Wear.length ≤ 9223372036854775807) (h3 : m.Bad.length ≤ 9223372036854775807) : JJ m m = some true := by
  unfold JJ
  simp [eqF h1, eqI h2, eqB h3, gd]
end Go.Vx

namespace Go.Vx
open Go Go.RowKit
end Go.Vx

namespace Go.Vx
open Go Go.RowKit
theorem Zb4 {α : Type} {s : List α} {k : Nat} (h : k < s.length) (d : α) : s[k]? = some (s.getD k d) := by
  rw [List.getD_eq_getElem?_getD, List.getElem?_eq_getElem h]; rfl
theorem ZmX (w : Nat) (X : BitVec w) : BitVec.ofInt w (X.toNat : Int) = X := by
  apply BitVec.eq_of_toNat_eq; simp [BitVec.toNat_ofInt]
theorem Zmv (X : BitVec 8) : IntKind.u8.wrap (X.toNat : Int) = (X.toNat : Int) := by
  have h := X.isLt
  have : ∀ n : Nat, n < 256 → IntKind.u8.wrap (n : Int) = (n : Int) := by
    intro n hn
    show ((n : Int) % 256) = n
    omega
  exact this _ h
theorem Znm (a b : Int) : XS .u8 a b = ((BitVec.ofInt 8 a &&& BitVec.ofInt 8 b).toNat : Int) := Zmv _
theorem ZkY (a b : Int) : ZjD .u8 a b = ((BitVec.ofInt 8 a &&& ~~~ BitVec.ofInt 8 b).toNat : Int) := Zmv _
theorem Zki (a : Int) : ZjD .u8 a a = 0 := by
  rw [ZkY]; simp
theorem ZjW {x y b : Int} (h : ZjD .u8 x y = 0) : ZjD .u8 (XS .u8 x b) y = 0 := by
  rw [ZkY] at h ⊢
  rw [Znm, ZmX]
  have h' : (BitVec.ofInt 8 x &&& ~~~ BitVec.ofInt 8 y) = 0#8 := by
    apply BitVec.eq_of_toNat_eq; simpa using h
  have : (BitVec.ofInt 8 x &&& BitVec.ofInt 8 b) &&& ~~~ BitVec.ofInt 8 y = (BitVec.ofInt 8 x &&& ~~~ BitVec.ofInt 8 y) &&& BitVec.ofInt 8 b := by
    rw [BitVec.and_assoc, BitVec.and_comm (BitVec.ofInt 8 b), ← BitVec.and_assoc]
  rw [this, h']; simp
def SubB (t s : List Int) : Prop := ∀ (k : Nat) x y, t[k]? = some x → s[k]? = some y → ZjD .u8 x y = 0
theorem SubB.refl (s : List Int) : SubB s s := fun k x y hx hy => by rw [hx] at hy; cases hy; exact Zki x
theorem SubB.set {t s : List Int} (h : SubB t s) (a : Nat) (b : Int) : SubB (t.set a (XS .u8 (t.getD a 0) b)) s := by
  intro k x y hx hy
  rw [List.getElem?_set] at hx
  split at hx
  · rename_i e
    subst e
    split at hx
    · rename_i hl
      cases hx
      exact ZjW (h a _ y (Zb4 hl 0) hy)
    · cases hx
  · exact h k x y hx hy
end Go.Vx

namespace Go.Vx
open Go Go.RowKit
section
variable {σ ρ : Type} {body : σ → Option (σ ⊕ ρ)} {s s' : σ} {r : ρ}
theorem XX (h : body s = some (.inl s')) (k : loop body s' = some r) : loop body s = some r := by
  obtain ⟨n, hn⟩ := Zcb k
  exact Zev (n := n + 1) (by simp only [ZaO, h, Option.bind_some]; exact hn)
theorem ZeY (h : body s = some (.inr r)) : loop body s = some r := Zev (n := 1) (by simp only [ZaO, h, Option.bind_some]; rfl)
end
def u8R (l : List Int) : Prop := ∀ x ∈ l, 0 ≤ x ∧ x ≤ 255
theorem ZmU {l : List Int} (h : u8R l) {k : Nat} {x : Int} (hx : l[k]? = some x) : 0 ≤ x ∧ x ≤ 255 := h x (List.mem_of_getElem? hx)
theorem Zgw {l : List Int} (h : u8R l) (k : Nat) : 0 ≤ l.getD k 0 ∧ l.getD k 0 ≤ 255 := by
  by_cases hk : k < l.length
  · exact ZmU h (Zb4 hk 0)
  · rw [List.getD_eq_getElem?_getD, List.getElem?_eq_none (by omega)]; decide
theorem Znf {a b s : Nat} (hb : b < 2 ^ s) (h : a * 2 ^ s + b < 2 ^ 62) : bor .i64 ((a * 2 ^ s : Nat) : Int) (b : Int) = ((a * 2 ^ s + b : Nat) : Int) := by
  unfold bor
  have e : (BitVec.ofInt IntKind.i64.bits ((a * 2 ^ s : Nat) : Int) ||| BitVec.ofInt IntKind.i64.bits (b : Int)).toNat = a * 2 ^ s + b := by
    have h1 : ∀ n : Nat, BitVec.ofInt IntKind.i64.bits (n : Int) = BitVec.ofNat 64 n := fun n => BitVec.ofInt_natCast ..
    rw [h1, h1]
    show (BitVec.ofNat 64 (a * 2 ^ s) ||| BitVec.ofNat 64 b).toNat = _
    rw [BitVec.toNat_or, BitVec.toNat_ofNat, BitVec.toNat_ofNat, Nat.mod_eq_of_lt (by omega), Nat.mod_eq_of_lt (by omega), ← Nat.shiftLeft_eq, ← Nat.shiftLeft_add_eq_or_of_lt hb]
  rw [e]
  exact ZN (by omega) (by omega)
def Zkf (a b c d : Int) : Int := a * 16777216 + b * 65536 + c * 256 + d
theorem Zng {n j : Nat} (h1 : n ≤ 255) (h2 : j ≤ 24) : shl .i64 (n : Int) (j : Int) = some ((n * 2 ^ j : Nat) : Int) := by
  unfold shl
  rw [if_neg (by omega)]
  have e1 : min (Int.toNat (j : Int)) IntKind.i64.bits = j := by
    show min (Int.toNat (j : Int)) 64 = j
    simp; omega
  have e2 : (2 : Nat) ^ j ≤ 2 ^ 24 := Nat.pow_le_pow_right (by omega) h2
  have e3 : n * 2 ^ j ≤ 255 * 2 ^ 24 := Nat.mul_le_mul h1 e2
  rw [e1]
  have e4 : ((n : Int) * 2 ^ j) = ((n * 2 ^ j : Nat) : Int) := by push_cast; rfl
  rw [e4, ZN (by omega) (by omega)]
theorem Znj {m n : Nat} (h : m = n) : (m : Int) = (n : Int) := congrArg _ h
theorem Zm5 {a b c d : Int} (ha : 0 ≤ a ∧ a ≤ 255) (hb : 0 ≤ b ∧ b ≤ 255) (hc : 0 ≤ c ∧ c ≤ 255) (hd : 0 ≤ d ∧ d ≤ 255) :
    ∃ q q2 q3, shl .i64 (i64 a) 24 = some q ∧ shl .i64 (i64 b) 16 = some q2 ∧ shl .i64 (i64 c) 8 = some q3 ∧ bor .i64 (bor .i64 (bor .i64 q q2) q3) (i64 d) = Zkf a b c d := by
  obtain ⟨a, rfl⟩ := Int.eq_ofNat_of_zero_le ha.1
  obtain ⟨b, rfl⟩ := Int.eq_ofNat_of_zero_le hb.1
  obtain ⟨c, rfl⟩ := Int.eq_ofNat_of_zero_le hc.1
  obtain ⟨d, rfl⟩ := Int.eq_ofNat_of_zero_le hd.1
  have e : ∀ n : Nat, n ≤ 255 → i64 (n : Int) = n := fun n h => ZN (by omega) (by omega)
  rw [e a (by omega), e b (by omega), e c (by omega), e d (by omega)]
  refine ⟨_, _, _, Zng (j := 24) (by omega) (by omega), Zng (j := 16) (by omega) (by omega), Zng (j := 8) (by omega) (by omega), ?_⟩
  have b1 : bor .i64 ((a * 2 ^ 24 : Nat) : Int) ((b * 2 ^ 16 : Nat) : Int) = (((a * 2 ^ 8 + b) * 2 ^ 16 : Nat) : Int) :=
    (Znf (s := 24) (by omega) (by omega)).trans (Znj (by omega))
  have b2 : bor .i64 (((a * 2 ^ 8 + b) * 2 ^ 16 : Nat) : Int) ((c * 2 ^ 8 : Nat) : Int) = ((((a * 2 ^ 8 + b) * 2 ^ 8 + c) * 2 ^ 8 : Nat) : Int) :=
    (Znf (s := 16) (by omega) (by omega)).trans (Znj (by omega))
  rw [b1, b2]
  refine (Znf (s := 8) (by omega) (by omega)).trans ?_
  unfold Zkf; omega
def hdL (n : Int) : List Int := [79, 66, n / 16777216 % 256, n / 65536 % 256, n / 256 % 256, n % 256, 255 - n / 16777216 % 256, 255 - n / 65536 % 256, 255 - n / 256 % 256, 255 - n % 256]
theorem ZmQ (n : Int) : u8R (hdL n) := by
  intro x hx
  simp only [hdL, List.mem_cons, List.not_mem_nil, or_false] at hx
  rcases hx with h | h | h | h | h | h | h | h | h | h <;> omega
theorem ZmF {k : IntKind} {n : Int} {j : Nat} (h : j ≤ k.bits) : shr k n (j : Int) = some (n / (2 : Int) ^ j) := by
  unfold shr
  rw [if_neg (by omega)]
  have e1 : min (Int.toNat (j : Int)) k.bits = j := by simp; omega
  rw [e1, Int.fdiv_eq_ediv_of_nonneg _ (Int.pow_nonneg (by decide))]
theorem u8m (z : Int) : u8 z = z % 256 := rfl
theorem ZlQ {n : Int} (h : 1 ≤ n ∧ n ≤ 1073741824) : Jv n = some (hdL n) := by
  have st : ∀ (o : List Int) (j : Nat), j ≤ 24 → o.length ≤ 10 → Q6 n o (j : Int) = some (.inl (o ++ [n / (2 : Int) ^ j % 256], (j : Int) - 8)) := by
    intro o j hj ho
    unfold Q6
    rw [if_pos (by simp), ZmF (by show j ≤ 64; omega), Option.bind_some, Zem (by simp; omega), Option.bind_some, show i64 ((j : Int) - 8) = (j : Int) - 8 from ZN (by omega) (by omega), u8m]
  have h1 : loop (t2 (Q6 n)) ([79, 66], 24) = some [79, 66, n / 16777216 % 256, n / 65536 % 256, n / 256 % 256, n % 256] := by
    refine XX (st [79, 66] 24 (by omega) (by simp)) ?_
    refine XX (st _ 16 (by omega) (by simp)) ?_
    refine XX (st _ 8 (by omega) (by simp)) ?_
    refine XX (st _ 0 (by omega) (by simp)) ?_
    refine ZeY ?_
    show Q6 n _ (((0 : Nat) : Int) - 8) = _
    unfold Q6
    rw [if_neg (by decide)]
    simp
  have bx : ∀ x : Int, 0 ≤ x → x ≤ 255 → ZaZ .u8 255 x = 255 - x := by
    have key : (List.range 256).all (fun n => decide (ZaZ .u8 255 (n : Int) = 255 - (n : Int))) = true := by decide +kernel
    intro x h0 h1
    obtain ⟨m, rfl⟩ := Int.eq_ofNat_of_zero_le h0
    exact of_decide_eq_true (List.all_eq_true.1 key m (List.mem_range.2 (by omega)))
  unfold Jv
  rw [h1]
  simp only [Option.bind_some, Zbg]
  rw [show slp [79, 66, n / 16777216 % 256, n / 65536 % 256, n / 256 % 256, n % 256] 2 6 = some () from rfl, Option.bind_some]
  have st2 : ∀ (o : List Int) (j : Nat) (x : Int), j < 4 → o.length ≤ 10 → idx [79, 66, n / 16777216 % 256, n / 65536 % 256, n / 256 % 256, n % 256] (2 + (j : Int)) = some x → 0 ≤ x → x ≤ 255 →
      Q1 [79, 66, n / 16777216 % 256, n / 65536 % 256, n / 256 % 256, n % 256] o (j : Int) = some (.inl (o ++ [255 - x], (j : Int) + 1)) := by
    intro o j x hj ho hx h0 h1
    unfold Q1
    have e4 : (decide ((j : Int) < ((Int.toNat (6 - 2) : Nat) : Int))) = true := by simp; omega
    have e5 : (decide ((0 : Int) ≤ (j : Int))) = true := by simp
    rw [if_pos e4, e4, e5]
    simp only [Bool.and_self, ck, if_true, Option.bind_some, hx]
    rw [Zem (by simp; omega), Option.bind_some, show i64 ((j : Int) + 1) = (j : Int) + 1 from ZN (by omega) (by omega), bx x h0 h1]
  have h2 : loop (t2 (Q1 [79, 66, n / 16777216 % 256, n / 65536 % 256, n / 256 % 256, n % 256])) ([79, 66, n / 16777216 % 256, n / 65536 % 256, n / 256 % 256, n % 256], 0) = some (hdL n) := by
    refine XX (st2 _ 0 (n / 16777216 % 256) (by omega) (by simp) rfl (by omega) (by omega)) ?_
    refine XX (st2 _ 1 (n / 65536 % 256) (by omega) (by simp) rfl (by omega) (by omega)) ?_
    refine XX (st2 _ 2 (n / 256 % 256) (by omega) (by simp) rfl (by omega) (by omega)) ?_
    refine XX (st2 _ 3 (n % 256) (by omega) (by simp) rfl (by omega) (by omega)) ?_
    refine ZeY ?_
    show Q1 _ _ (((3 : Nat) : Int) + 1) = _
    unfold Q1
    rw [if_neg (by decide)]
    rfl
  rw [h2]; rfl
theorem ZnL {n : Nat} (h : n < 4294967296) : ZaZ .u32 4294967295 (n : Int) = 4294967295 - (n : Int) := by
  unfold ZaZ
  have e : (BitVec.ofInt IntKind.u32.bits 4294967295 ^^^ BitVec.ofInt IntKind.u32.bits (n : Int)).toNat = 4294967295 - n := by
    have h1 : BitVec.ofInt IntKind.u32.bits (n : Int) = BitVec.ofNat 32 n := BitVec.ofInt_natCast ..
    have h2 : BitVec.ofInt IntKind.u32.bits 4294967295 = BitVec.allOnes 32 := by
      show BitVec.ofInt 32 4294967295 = BitVec.allOnes 32
      decide
    rw [h1, h2]
    show (BitVec.allOnes 32 ^^^ BitVec.ofNat 32 n).toNat = _
    rw [BitVec.allOnes_xor, BitVec.toNat_not, BitVec.toNat_ofNat, Nat.mod_eq_of_lt (by omega)]
    try omega
  rw [e]
  have w : ∀ z : Int, 0 ≤ z → z < 4294967296 → IntKind.u32.wrap z = z := fun z h0 h1 => by
    show z % 4294967296 = z
    omega
  rw [w _ (by omega) (by omega)]; omega
theorem Zlw {n : Int} (h : 1 ≤ n ∧ n ≤ 1073741824) : ZcJ n = some (hdL n) := by
  have eu : u32 n = n := by
    show n % 4294967296 = n
    omega
  have ex : ZaZ .u32 4294967295 (u32 n) = 4294967295 - n := by
    rw [eu]
    obtain ⟨m, rfl⟩ := Int.eq_ofNat_of_zero_le (show 0 ≤ n by omega)
    exact ZnL (by omega)
  have st : ∀ (x : Int) (o : List Int) (j : Nat), j ≤ 24 → o.length ≤ 10 → XL x o (j : Int) = some (.inl (o ++ [x / (2 : Int) ^ j % 256], (j : Int) - 8)) := by
    intro x o j hj ho
    unfold XL
    rw [if_pos (by simp), ZmF (by show j ≤ 32; omega), Option.bind_some, Zem (by simp; omega), Option.bind_some, show i64 ((j : Int) - 8) = (j : Int) - 8 from ZN (by omega) (by omega), u8m]
  have lp : ∀ (x : Int) (o : List Int), o.length ≤ 6 → loop (t2 (XL x)) (o, 24) = some (o ++ [x / 16777216 % 256, x / 65536 % 256, x / 256 % 256, x % 256]) := by
    intro x o ho
    refine XX (st x o 24 (by omega) (by omega)) ?_
    refine XX (st x _ 16 (by omega) (by simp; omega)) ?_
    refine XX (st x _ 8 (by omega) (by simp; omega)) ?_
    refine XX (st x _ 0 (by omega) (by simp; omega)) ?_
    refine ZeY ?_
    show XL x _ (((0 : Nat) : Int) - 8) = _
    unfold XL
    rw [if_neg (by decide)]
    simp
  have st1 : ∀ (o : List Int) (j : Nat) (x : Int), j < 2 → o.length ≤ 6 → idx [n, 4294967295 - n] (j : Int) = some x → XW n o (j : Int) = some (.inl (o ++ [x / 16777216 % 256, x / 65536 % 256, x / 256 % 256, x % 256], (j : Int) + 1)) := by
    intro o j x hj ho hx
    unfold XW
    rw [ex, eu, if_pos (by simp; omega), hx, Option.bind_some, lp x o ho]
    simp only [Option.bind_some, Zbg]
    rw [show i64 ((j : Int) + 1) = (j : Int) + 1 from ZN (by omega) (by omega)]
  have h1 : loop (t2 (XW n)) ([79, 66], 0) = some (hdL n) := by
    refine XX (st1 _ 0 n (by omega) (by simp) rfl) ?_
    refine XX (st1 _ 1 (4294967295 - n) (by omega) (by simp) rfl) ?_
    refine ZeY ?_
    show XW n _ (((1 : Nat) : Int) + 1) = _
    unfold XW
    rw [ex, eu, if_neg (by simp)]
    unfold hdL
    congr 2
    simp only [List.append_assoc, List.cons_append, List.nil_append, List.cons.injEq, true_and, and_true]
    refine ⟨?_, ?_, ?_, ?_⟩ <;> omega
  unfold ZcJ
  rw [h1]; rfl
theorem Zkn : ∀ {l m : List Int}, u8R l → u8R m → (Jm l = Jm m ↔ l = m)
  | [], [], _, _ => by simp
  | [], y :: m, _, _ => by simp [Jm]
  | x :: l, [], _, _ => by simp [Jm]
  | x :: l, y :: m, h1, h2 => by
    have hx := h1 x (List.mem_cons_self ..)
    have hy := h2 y (List.mem_cons_self ..)
    have ih := Zkn (l := l) (m := m) (fun z hz => h1 z (List.mem_cons_of_mem _ hz)) (fun z hz => h2 z (List.mem_cons_of_mem _ hz))
    unfold Jm at ih ⊢
    simp only [List.map_cons, List.cons.injEq, ih]
    have : UInt8.ofNat x.toNat = UInt8.ofNat y.toNat ↔ x = y := by
      constructor
      · intro e
        have := congrArg UInt8.toNat e
        simp at this
        omega
      · rintro rfl; rfl
    rw [this]
def Zbz (s : List Int) : Int × Bool × Bool :=
  if s.length < 16 then (0, false, false) else
  let n := Zkf (s.getD 2 0) (s.getD 3 0) (s.getD 4 0) (s.getD 5 0)
  if 1 ≤ n ∧ n ≤ 1073741824 ∧ s.take 10 = hdL n then (n, !decide (s.getD 10 0 = 255), true) else (0, false, false)
theorem Zma {α : Type} {n : Nat} {v : Vector α n} {k : Nat} {x : α} (h : v.toList[k]? = some x) : ZZ v (k : Int) = some x := by
  unfold ZZ; rw [if_pos (by omega)]; simpa using h
theorem Zj8 {α : Type} {xs : List α} {a b : Nat} (h1 : a ≤ b) (h2 : b ≤ xs.length) : slc xs (a : Int) (b : Int) = some ((xs.take b).drop a) := by
  unfold slc; rw [if_pos ⟨by omega, by omega, by omega⟩]; simp
theorem Zm0 {α : Type} {m : Nat} {xs : List α} (h : m ≤ xs.length) : ∃ v : Vector α m, tov m xs = some v ∧ v.toList = xs.take m := by
  have : tov m xs = some ⟨(xs.take m).toArray, by simp; omega⟩ := by unfold tov; rw [dif_pos h]
  exact ⟨_, this, by simp⟩
theorem Zlo {s : List Int} (hs : u8R s) : Js s = some (Zbz s) := by
  unfold Js Zbz
  by_cases hl : s.length < 16
  · rw [if_pos (by simp; omega), if_pos hl]
  · rw [if_neg (by simp; omega), if_neg hl]
    rw [show slc s 0 16 = some (s.take 16) from (Zj8 (a := 0) (b := 16) (by omega) (by omega)).trans (by simp), Option.bind_some]
    obtain ⟨v, hv, hvl⟩ := Zm0 (m := 16) (xs := s.take 16) (by simp; omega)
    rw [List.take_take, Nat.min_self] at hvl
    rw [hv, Option.bind_some]
    have hg : ∀ (z : Int) (k : Nat), z = (k : Int) → k < 16 → ZZ v z = some (s.getD k 0) := fun z k hz hk => by
      subst hz
      exact Zma (by rw [hvl, List.getElem?_take_of_lt hk]; exact Zb4 (by omega) 0)
    obtain ⟨q, q2, q3, e1, e2, e3, e4⟩ := Zm5 (Zgw hs 2) (Zgw hs 3) (Zgw hs 4) (Zgw hs 5)
    rw [hg 2 2 rfl (by omega), Option.bind_some, e1, Option.bind_some, hg 3 3 rfl (by omega), Option.bind_some, e2, Option.bind_some, hg 4 4 rfl (by omega), Option.bind_some, e3, Option.bind_some, hg 5 5 rfl (by omega), Option.bind_some, e4, hg 10 10 rfl (by omega)]
    generalize Zkf (s.getD 2 0) (s.getD 3 0) (s.getD 4 0) (s.getD 5 0) = n
    unfold Qi
    simp only [Option.bind_some]
    by_cases hn : 1 ≤ n ∧ n ≤ 1073741824
    · have hy : (decide (1 ≤ n) && decide (n ≤ 1073741824)) = true := by simpa using hn
      rw [hy]
      simp only [Bool.not_true, gd, beq_self_eq_true, if_true, Bool.false_or]
      rw [show slc v.toList 0 10 = some (s.take 10) from (Zj8 (a := 0) (b := 10) (by omega) (by simp)).trans (by rw [hvl]; simp [List.take_take])]
      simp only [Option.bind_some, ZlQ hn]
      have hlen : (s.take 10).length ≤ 10 := by rw [List.length_take]; omega
      rw [eqY (by omega), Option.bind_some]
      by_cases e : s.take 10 = hdL n
      · rw [if_neg (by simp [e]), if_pos ⟨hn.1, hn.2, e⟩]
      · rw [if_pos (by simp [e]), if_neg (fun q => e q.2.2)]
    · have hy : (decide (1 ≤ n) && decide (n ≤ 1073741824)) = false := by simpa using hn
      rw [hy]
      simp only [gd, Bool.not_false, Bool.true_eq_false, beq_iff_eq, if_false, Option.bind_some]
      rw [if_pos (by simp), if_neg (fun q => hn ⟨q.1, q.2.1⟩)]
theorem ZlC {s : List Int} (hs : u8R s) : Zdd s = some (Zbz s) := by
  unfold Zdd Zbz
  by_cases hl : s.length < 16
  · rw [if_pos (by simp; omega), if_pos hl]
  · rw [if_neg (by simp; omega), if_neg hl]
    have hg : ∀ k : Nat, k < 16 → idx s (k : Int) = some (s.getD k 0) := fun k hk => Qr (Zb4 (by omega) 0)
    have st : ∀ (q : Int) (k : Nat), 0 ≤ q → q ≤ 4294967295 → k < 6 → JH s q (k : Int) = some (.inl (q * 256 + s.getD k 0, (k : Int) + 1)) := by
      intro q k h0 h1 hk
      have hb := Zgw hs k
      unfold JH
      rw [if_pos (by simp; omega), hg k (by omega), Option.bind_some, show i64 (s.getD k 0) = s.getD k 0 from ZN (by omega) (by omega), show i64 (q * 256) = q * 256 from ZN (by omega) (by omega),
        show i64 (q * 256 + s.getD k 0) = q * 256 + s.getD k 0 from ZN (by omega) (by omega), show i64 ((k : Int) + 1) = (k : Int) + 1 from ZN (by omega) (by omega)]
    have b2 := Zgw hs 2
    have b3 := Zgw hs 3
    have b4 := Zgw hs 4
    have b5 := Zgw hs 5
    have lp : loop (t2 (JH s)) (0, 2) = some (Zkf (s.getD 2 0) (s.getD 3 0) (s.getD 4 0) (s.getD 5 0)) := by
      refine XX (st 0 2 (by omega) (by omega) (by omega)) ?_
      refine XX (st _ 3 (by omega) (by omega) (by omega)) ?_
      refine XX (st _ 4 (by omega) (by omega) (by omega)) ?_
      refine XX (st _ 5 (by omega) (by omega) (by omega)) ?_
      refine ZeY ?_
      show JH s _ (((5 : Nat) : Int) + 1) = _
      unfold JH
      rw [if_neg (by decide)]
      congr 2
      unfold Zkf; omega
    rw [lp]
    simp only [Option.bind_some, Zbg]
    generalize Zkf (s.getD 2 0) (s.getD 3 0) (s.getD 4 0) (s.getD 5 0) = n
    unfold Q2
    simp only [Option.bind_some]
    rw [show idx s 10 = some (s.getD 10 0) from hg 10 (by omega)]
    by_cases hn : 1 ≤ n ∧ n ≤ 1073741824
    · have hy : (decide (n < 1) || decide (1073741824 < n)) = false := by simp; omega
      rw [hy]
      simp only [gd, beq_self_eq_true, if_true, Bool.false_or, Zlw hn]
      rw [show slc s 0 10 = some (s.take 10) from (Zj8 (a := 0) (b := 10) (by omega) (by omega)).trans (by simp)]
      simp only [Option.bind_some]
      have hiff := Zkn (l := hdL n) (m := s.take 10) (ZmQ n) (fun x hx => hs x (List.mem_of_mem_take hx))
      by_cases e : s.take 10 = hdL n
      · rw [if_neg (by simp [e]), if_pos ⟨hn.1, hn.2, e⟩]
      · rw [if_pos (by simp; intro q; exact e (hiff.1 q).symm), if_neg (fun q => e q.2.2)]
    · have hy : (decide (n < 1) || decide (1073741824 < n)) = true := by simp; omega
      rw [hy]
      simp only [gd, Bool.true_eq_false, beq_iff_eq, if_false, Option.bind_some]
      rw [if_pos (by simp), if_neg (fun q => hn ⟨q.1, q.2.1⟩)]
end Go.Vx

namespace Go.Vx
open Go Go.RowKit
section
variable {key : Int → Int} {D : Int → Prop} {cmp : Int → Int → Option Int}
theorem ZjF {L A M B R : List Int} (h : A.length = B.length) (hb : (L ++ A ++ M ++ B ++ R).length ≤ 4611686018427387904) :
    ZI (L ++ A ++ M ++ B ++ R) (L.length : Int) ((L.length + A.length + M.length : Nat) : Int) (A.length : Int) cmp = some (L ++ B ++ M ++ A ++ R) := by
  unfold ZI
  have hb' : L.length + A.length + M.length + B.length + R.length ≤ 4611686018427387904 := by simpa [Nat.add_assoc] using hb
  refine ZnA (a := L.length) (b := L.length + A.length + M.length) (n := A.length) (fun L' M' R' x y i hi h1 h2 => ?_) (fun d => ?_) A B L M R 0 h (by omega) (by omega) (by omega)
  · unfold ZV
    have e1 : i64 ((L.length : Int) + (i : Int)) = ((L'.length : Nat) : Int) := (ZN (by omega) (by omega)).trans (by omega)
    have e2 : i64 (((L.length + A.length + M.length : Nat) : Int) + (i : Int)) = ((L'.length + 1 + M'.length : Nat) : Int) := (ZN (by omega) (by omega)).trans (by omega)
    have g1 : (L' ++ x :: M' ++ y :: R')[L'.length]? = some x := by simp
    have g2 : (L' ++ x :: M' ++ y :: R')[L'.length + 1 + M'.length]? = some y := by
      rw [List.getElem?_append_right (by simp; omega)]; simp; rw [show L'.length + 1 + M'.length - (L'.length + (M'.length + 1)) = 0 by omega]; rfl
    have g3 : ((L' ++ x :: M' ++ y :: R').set L'.length y)[L'.length + 1 + M'.length]? = some y := by
      rw [List.getElem?_set_ne (by omega)]; exact g2
    rw [if_pos (by simpa using hi), e1, e2, Qr g2, Option.bind_some, Qr g1, Option.bind_some, Option.bind_some]
    simp only [Int.toNat_natCast]
    rw [Qr g3, Option.bind_some, ZhJ, show i64 ((i : Int) + 1) = (i : Int) + 1 from ZN (by omega) (by omega)]
  · unfold ZV
    rw [if_neg (by simp)]
theorem Zly {L X Y R : List Int} (hX : X ≠ []) (hY : Y ≠ []) (hb : (L ++ X ++ Y ++ R).length ≤ 4611686018427387904) :
    Z7 (L ++ X ++ Y ++ R) (L.length : Int) ((L.length + X.length : Nat) : Int) ((L.length + X.length + Y.length : Nat) : Int) cmp = some (L ++ Y ++ X ++ R) := by
  have hb' : L.length + X.length + Y.length + R.length ≤ 4611686018427387904 := by simpa [Nat.add_assoc] using hb
  unfold Z7
  obtain ⟨o', i', h1, h2, h3⟩ := ZnT (body := Z6 ((L.length + X.length : Nat) : Int) cmp) (sr := fun d a b n => ZI d a b n cmp)
    (m := L.length + X.length) (N := L.length + X.length + Y.length + R.length) (fun L A M B R h hN => ZjF h (by simp only [List.length_append]; omega)) (fun o i j hi hj => by
      unfold Z6
      have e1 : i64 (((L.length + X.length : Nat) : Int) - (i : Int)) = ((L.length + X.length - i : Nat) : Int) := (ZN (by omega) (by omega)).trans (by omega)
      have e2 : i64 (((L.length + X.length : Nat) : Int) + (j : Int)) = ((L.length + X.length + j : Nat) : Int) := (ZN (by omega) (by omega)).trans (by omega)
      have e3 : i64 (((L.length + X.length + j : Nat) : Int) - (i : Int)) = ((L.length + X.length + j - i : Nat) : Int) := (ZN (by omega) (by omega)).trans (by omega)
      rw [e1, e2, e3]
      by_cases h : i = j
      · rw [if_neg (by simp [h]), if_pos h]
      · rw [if_pos (by simp; omega), if_neg h]
        by_cases h' : j < i
        · rw [if_pos (by simpa using h'), if_pos h', show i64 ((i : Int) - (j : Int)) = ((i - j : Nat) : Int) from (ZN (by omega) (by omega)).trans (by omega)]
        · rw [if_neg (by simpa using h'), if_neg h', show i64 ((j : Int) - (i : Int)) = ((j - i : Nat) : Int) from (ZN (by omega) (by omega)).trans (by omega)]) _ X Y L R rfl hX hY rfl rfl
  have f1 : i64 (((L.length + X.length : Nat) : Int) - (L.length : Int)) = (X.length : Int) := (ZN (by omega) (by omega)).trans (by omega)
  have f2 : i64 (((L.length + X.length + Y.length : Nat) : Int) - ((L.length + X.length : Nat) : Int)) = (Y.length : Int) := (ZN (by omega) (by omega)).trans (by omega)
  have f3 : i64 (((L.length + X.length : Nat) : Int) - (i' : Int)) = ((L.length + X.length - i' : Nat) : Int) := (ZN (by omega) (by omega)).trans (by omega)
  rw [f1, f2, h1]
  simp only [Option.bind_some, QS]
  rw [f3, h3]; rfl
theorem Zjb {n : Nat} (h : n ≤ 4611686018427387904) : shr .u64 (u64 (i64 (n : Int))) 1 = some ((n / 2 : Nat) : Int) := by
  rw [show i64 (n : Int) = (n : Int) from ZN (by omega) (by omega), show u64 (n : Int) = (n : Int) from Znb (by omega) (by omega)]
  rw [show (1 : Int) = ((1 : Nat) : Int) from rfl, ZmF (by decide)]
  congr 1
end
end Go.Vx

namespace Go.Vx
open Go Go.RowKit
section
variable {key : Int → Int} {D : Int → Prop} {cmp : Int → Int → Option Int}
theorem Zi1 {L X R : List Int} {c : Nat} (h1 : L.length ≤ c) (h2 : c < L.length + X.length) : (L ++ X ++ R)[c]? = some (X.getD (c - L.length) 0) := by
  obtain ⟨t, rfl⟩ : ∃ t, c = L.length + t := ⟨c - L.length, by omega⟩
  rw [ZmE (by omega), show L.length + t - L.length = t by omega]
  exact Zb4 (by omega) 0
theorem Zeb {X : List Int} {t : Nat} (h : t < X.length) : X.getD t 0 ∈ X := by
  rw [List.getD_eq_getElem?_getD, List.getElem?_eq_getElem h]; exact List.getElem_mem h
theorem Zme (hc : ∀ x y, D x → D y → ∃ c, cmp x y = some c ∧ (c < 0 ↔ key x < key y)) {L Y R : List Int} {x : Int} (hN : L.length + 1 + Y.length + R.length ≤ 1000000) (hY : Srt key Y) (hlt : ∀ y ∈ Y, x < y) (hD : ∀ z ∈ x :: Y, D z) :
    ∃ Z, ((loop (t2 (Qc (L ++ [x] ++ Y ++ R) (L.length : Int) cmp)) (((L.length + 1 : Nat) : Int), ((L.length + 1 + Y.length : Nat) : Int))) : Option Int).bind (t1 fun (i : Int) =>
      (loop (t2 (ZL i)) (L ++ [x] ++ Y ++ R, (L.length : Int))).bind (t1 fun (o : List Int) => some o)) = some (L ++ Z ++ R) ∧ Z.Perm (x :: Y) ∧ Srt key Z := by
  obtain ⟨s, h1, h2, h3, h4, h5⟩ := ZiU (body := Qc (L ++ [x] ++ Y ++ R) (L.length : Int) cmp) (fun c => decide (key (Y.getD (c - (L.length + 1)) 0) < key x)) (lo := L.length + 1) (hi := L.length + 1 + Y.length) (by omega) (fun i j a1 a2 a3 => by
      have e1 : i64 ((i : Int) + (j : Int)) = i64 ((i + j : Nat) : Int) := by push_cast; rfl
      have e2 : i64 (((i + j) / 2 : Nat) : Int) = (((i + j) / 2 : Nat) : Int) := ZN (by omega) (by omega)
      have e3 : i64 ((((i + j) / 2 : Nat) : Int) + 1) = (((i + j) / 2 + 1 : Nat) : Int) := (ZN (by omega) (by omega)).trans (by omega)
      have g1 : (L ++ [x] ++ Y ++ R)[(i + j) / 2]? = some (Y.getD ((i + j) / 2 - (L.length + 1)) 0) := by
        have := Zi1 (L := L ++ [x]) (X := Y) (R := R) (c := (i + j) / 2) (by simp; omega) (by simp; omega)
        simpa using this
      have g2 : (L ++ [x] ++ Y ++ R)[L.length]? = some x := by simp
      unfold Qc
      rw [if_pos (by simpa using a2), e1, Zjb (by omega), Option.bind_some, e2, Qr g1, Option.bind_some, Qr g2, Option.bind_some]
      obtain ⟨c, c1, c2⟩ := hc (Y.getD ((i + j) / 2 - (L.length + 1)) 0) x (hD _ (List.mem_cons_of_mem _ (Zeb (by omega)))) (hD _ (List.mem_cons_self ..))
      rw [c1, Option.bind_some, e3]
      by_cases q : key (Y.getD ((i + j) / 2 - (L.length + 1)) 0) < key x
      · rw [if_pos (by simpa using c2.2 q), if_pos (by simpa using q)]
      · rw [if_neg (by simpa using fun w => q (c2.1 w)), if_neg (by simpa using q)]) (fun i a1 a2 => by
      unfold Qc
      rw [if_neg (by simp)])
  rw [h3, Option.bind_some, Zbg]
  have sU := Znl (body := ZL (s : Int)) (e := s - 1) (fun L' R' p q hl => by
      unfold ZL
      have e1 : i64 ((s : Int) - 1) = ((s - 1 : Nat) : Int) := (ZN (by omega) (by omega)).trans (by omega)
      have e2 : i64 ((L'.length : Int) + 1) = ((L'.length + 1 : Nat) : Int) := (ZN (by omega) (by omega)).trans (by omega)
      have g1 : (L' ++ p :: q :: R')[L'.length + 1]? = some q := by
        rw [List.getElem?_append_right (by omega)]; simp
      have g2 : (L' ++ p :: q :: R')[L'.length]? = some p := by simp
      have g3 : ((L' ++ p :: q :: R').set L'.length q)[L'.length + 1]? = some q := by rw [List.getElem?_set_ne (by omega)]; exact g1
      rw [e1, e2, if_pos (by simpa using hl), Qr g1, Option.bind_some, Qr g2, Option.bind_some, Option.bind_some]
      simp only [Int.toNat_natCast]
      rw [Qr g3, Option.bind_some]
      have := ZhJ (L := L') (M := []) (R := R') (x := p) (y := q)
      simp only [List.length_nil, Nat.add_zero, List.append_nil] at this
      rw [show L' ++ p :: q :: R' = L' ++ [p] ++ q :: R' by simp, this]
      simp) (fun d => by
      unfold ZL
      have e1 : i64 ((s : Int) - 1) = ((s - 1 : Nat) : Int) := (ZN (by omega) (by omega)).trans (by omega)
      rw [e1, if_neg (by simp)]) (Y.take (s - (L.length + 1))) L (Y.drop (s - (L.length + 1)) ++ R) x (by rw [List.length_take]; omega)
  have ed : L ++ [x] ++ Y ++ R = L ++ x :: (Y.take (s - (L.length + 1)) ++ (Y.drop (s - (L.length + 1)) ++ R)) := by
    rw [← List.append_assoc (Y.take _), List.take_append_drop]; simp
  rw [ed, sU]
  refine ⟨Y.take (s - (L.length + 1)) ++ x :: Y.drop (s - (L.length + 1)), by simp, ?_, ?_⟩
  · refine List.perm_middle.trans ?_
    rw [List.take_append_drop]
  · have hA : Srt key (Y.take (s - (L.length + 1))) := hY.sublist (List.take_sublist ..)
    have hB : Srt key (Y.drop (s - (L.length + 1))) := hY.sublist (List.drop_sublist ..)
    have hAx : ∀ a ∈ Y.take (s - (L.length + 1)), LtK key a x := by
      have := Ze3 (key := key) (m := [x]) hA (List.pairwise_singleton ..) (fun a b ha hb => by
        cases hb
        rw [List.getLast?_eq_getElem?, List.length_take] at ha
        have l2 := (List.getElem?_eq_some_iff.1 ha).1
        rw [List.length_take] at l2
        rw [List.getElem?_take_of_lt (by omega)] at ha
        have q := h4 (by omega)
        rw [show s - 1 - (L.length + 1) = min (s - (L.length + 1)) Y.length - 1 by omega, List.getD_eq_getElem?_getD, ha] at q
        exact .inl (by simpa using q))
      exact fun a ha => this a ha x (List.mem_singleton.2 rfl)
    have hxB : ∀ b ∈ Y.drop (s - (L.length + 1)), LtK key x b := by
      have := Ze3 (key := key) (l := [x]) (List.pairwise_singleton ..) hB (fun a b ha hb => by
        simp only [List.getLast?_singleton, Option.some.injEq] at ha
        subst ha
        rw [List.head?_drop] at hb
        have l1 := (List.getElem?_eq_some_iff.1 hb).1
        have q := h5 (by omega)
        rw [List.getD_eq_getElem?_getD, hb] at q
        simp only [Option.getD_some, decide_eq_false_iff_not] at q
        have : x < b := hlt b (List.mem_of_getElem? hb)
        unfold LtK; omega)
      exact fun b hb => this x (List.mem_singleton.2 rfl) b hb
    refine hA.app (List.pairwise_cons.2 ⟨hxB, hB⟩) fun a ha b hb => ?_
    rcases List.mem_cons.1 hb with rfl | hb
    · exact hAx a ha
    · exact (hAx a ha).trans (hxB b hb)
theorem ZlD (hc : ∀ x y, D x → D y → ∃ c, cmp x y = some c ∧ (c < 0 ↔ key x < key y)) {L X R : List Int} {y : Int} (hN : L.length + X.length + 1 + R.length ≤ 1000000) (hX : Srt key X) (hlt : ∀ x ∈ X, x < y) (hD : ∀ z ∈ y :: X, D z) :
    ∃ Z, ((loop (t2 (Qa (L ++ X ++ [y] ++ R) ((L.length + X.length : Nat) : Int) cmp)) ((L.length : Int), ((L.length + X.length : Nat) : Int))) : Option Int).bind (t1 fun (i : Int) =>
      (loop (t2 (ZK i)) (L ++ X ++ [y] ++ R, ((L.length + X.length : Nat) : Int))).bind (t1 fun (o : List Int) => some o)) = some (L ++ Z ++ R) ∧ Z.Perm (X ++ [y]) ∧ Srt key Z := by
  obtain ⟨s, h1, h2, h3, h4, h5⟩ := ZiU (body := Qa (L ++ X ++ [y] ++ R) ((L.length + X.length : Nat) : Int) cmp) (fun c => !decide (key y < key (X.getD (c - L.length) 0))) (lo := L.length) (hi := L.length + X.length) (by omega) (fun i j a1 a2 a3 => by
      have e1 : i64 ((i : Int) + (j : Int)) = i64 ((i + j : Nat) : Int) := by push_cast; rfl
      have e2 : i64 (((i + j) / 2 : Nat) : Int) = (((i + j) / 2 : Nat) : Int) := ZN (by omega) (by omega)
      have e3 : i64 ((((i + j) / 2 : Nat) : Int) + 1) = (((i + j) / 2 + 1 : Nat) : Int) := (ZN (by omega) (by omega)).trans (by omega)
      have g1 : (L ++ X ++ [y] ++ R)[(i + j) / 2]? = some (X.getD ((i + j) / 2 - L.length) 0) := by
        have := Zi1 (L := L) (X := X) (R := [y] ++ R) (c := (i + j) / 2) (by omega) (by omega)
        simpa using this
      have g2 : (L ++ X ++ [y] ++ R)[L.length + X.length]? = some y := by
        rw [List.append_assoc, List.getElem?_append_right (by simp)]; simp
      unfold Qa
      rw [if_pos (by simpa using a2), e1, Zjb (by omega), Option.bind_some, e2, Qr g2, Option.bind_some, Qr g1, Option.bind_some]
      obtain ⟨c, c1, c2⟩ := hc y (X.getD ((i + j) / 2 - L.length) 0) (hD _ (List.mem_cons_self ..)) (hD _ (List.mem_cons_of_mem _ (Zeb (by omega))))
      rw [c1, Option.bind_some, e3]
      by_cases q : key y < key (X.getD ((i + j) / 2 - L.length) 0)
      · rw [if_neg (by simpa using c2.2 q), if_neg (by simpa using q)]
      · rw [if_pos (by simpa using fun w => q (c2.1 w)), if_pos (by simpa using q)]) (fun i a1 a2 => by
      unfold Qa
      rw [if_neg (by simp)])
  rw [h3, Option.bind_some, Zbg]
  have hdl : (X.drop (s - L.length)).length = L.length + X.length - s := by rw [List.length_drop]; omega
  have htl : (X.take (s - L.length)).length = s - L.length := by rw [List.length_take]; omega
  have sD := ZnF (body := ZK (s : Int)) (e := s) (N := 1000000) (fun L' R' p q hl hl2 => by
      unfold ZK
      have e1 : i64 ((L'.length : Int) + 1 - 1) = ((L'.length : Nat) : Int) := (ZN (by omega) (by omega)).trans (by omega)
      have e2 : (L'.length : Int) + 1 = ((L'.length + 1 : Nat) : Int) := by omega
      have g1 : (L' ++ p :: q :: R')[L'.length + 1]? = some q := by
        rw [List.getElem?_append_right (by omega)]; simp
      have g2 : (L' ++ p :: q :: R')[L'.length]? = some p := by simp
      have g3 : ((L' ++ p :: q :: R').set (L'.length + 1) p)[L'.length]? = some p := by rw [List.getElem?_set_ne (by omega)]; exact g2
      rw [e1, e2, if_pos (by simp; omega), Qr g2, Option.bind_some, Qr g1, Option.bind_some, Option.bind_some]
      simp only [Int.toNat_natCast]
      rw [Qr g3, Option.bind_some]
      have := ZhJ (L := L') (M := []) (R := R') (x := p) (y := q)
      simp only [List.length_nil, Nat.add_zero, List.append_nil] at this
      rw [show L' ++ p :: q :: R' = L' ++ [p] ++ q :: R' by simp, List.set_comm _ _ (by omega), this]
      simp) (fun d => by
      unfold ZK
      rw [if_neg (by simp)]) _ (X.drop (s - L.length)) (L ++ X.take (s - L.length)) R y rfl (by rw [List.length_append]; omega) (by rw [List.length_append]; omega)
  have ed : L ++ X ++ [y] ++ R = L ++ X.take (s - L.length) ++ X.drop (s - L.length) ++ y :: R := by
    rw [List.append_assoc L (X.take _), List.take_append_drop]; simp
  have el : ((L.length + X.length : Nat) : Int) = ((L ++ X.take (s - L.length)).length : Int) + ((X.drop (s - L.length)).length : Int) := by
    rw [List.length_append]; omega
  rw [ed, el, sD]
  refine ⟨X.take (s - L.length) ++ y :: X.drop (s - L.length), by simp, ?_, ?_⟩
  · refine List.perm_middle.trans ?_
    rw [List.take_append_drop]
    exact (List.perm_append_comm (l₁ := X) (l₂ := [y])).symm
  · have hA : Srt key (X.take (s - L.length)) := hX.sublist (List.take_sublist ..)
    have hB : Srt key (X.drop (s - L.length)) := hX.sublist (List.drop_sublist ..)
    have hAy : ∀ a ∈ X.take (s - L.length), LtK key a y := by
      have := Ze3 (key := key) (m := [y]) hA (List.pairwise_singleton ..) (fun a b ha hb => by
        cases hb
        rw [List.getLast?_eq_getElem?, htl] at ha
        have l2 := (List.getElem?_eq_some_iff.1 ha).1
        rw [htl] at l2
        rw [List.getElem?_take_of_lt (by omega)] at ha
        have q := h4 (by omega)
        rw [show s - 1 - L.length = s - L.length - 1 by omega, List.getD_eq_getElem?_getD, ha] at q
        simp only [Option.getD_some, Bool.not_eq_true', decide_eq_false_iff_not] at q
        have : a < y := hlt a (List.mem_of_getElem? ha)
        unfold LtK; omega)
      exact fun a ha => this a ha y (List.mem_singleton.2 rfl)
    have hyB : ∀ b ∈ X.drop (s - L.length), LtK key y b := by
      have := Ze3 (key := key) (l := [y]) (List.pairwise_singleton ..) hB (fun a b ha hb => by
        simp only [List.getLast?_singleton, Option.some.injEq] at ha
        subst ha
        rw [List.head?_drop] at hb
        have l1 := (List.getElem?_eq_some_iff.1 hb).1
        have q := h5 (by omega)
        rw [List.getD_eq_getElem?_getD, hb] at q
        exact .inl (by simpa using q))
      exact fun b hb => this y (List.mem_singleton.2 rfl) b hb
    refine hA.app (List.pairwise_cons.2 ⟨hyB, hB⟩) fun a ha b hb => ?_
    rcases List.mem_cons.1 hb with rfl | hb
    · exact hAy a ha
    · exact (hAy a ha).trans (hyB b hb)
end
end Go.Vx
