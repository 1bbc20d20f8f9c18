/- A text of the proof: a verified executor of the program form, or the contracts of the functions that the law reaches. -/
import Derived.Test.YtnlmjeleocelgaaDoorPA
import Derived.Test.YtnlmjeleocelgaaDoorShT
set_option linter.all false
namespace Go.Vx
open Go Go.RowKit
set_option linter.unusedVariables false

noncomputable def ZeC (data : List Int) (f2 : Vector Int 64) (i : Int) : Option (((Vector Int 64) × Int) ⊕ ((Vector Int 64) × Int) ⊕ ((Vector Int 64))) :=
  if (decide (i < (data.length : Int))) = true then
  (idx data i).bind fun x3 =>
  if ((decide (x3 < 0)) || (decide (2047 < x3))) = true then
  some (.inr (.inl ((#v[0, 0, 0, 0, 0, 0, 0, 0, 0, 0, 0, 0, 0, 0, 0, 0, 0, 0, 0, 0, 0, 0, 0, 0, 0, 0, 0, 0, 0, 0, 0, 0, 0, 0, 0, 0, 0, 0, 0, 0, 0, 0, 0, 0, 0, 0, 0, 0, 0, 0, 0, 0, 0, 0, 0, 0, 0, 0, 0, 0, 0, 0, 0, 0] : Vector Int 64), 9)))
  else
  (ZI f2 (i64 (3 + i))).bind fun x4 =>
  some (.inl ((XN f2 (i64 (3 + i)) (u16 x3)), (i64 (i + 1))))
  else
  some (.inr (.inr f2))
theorem Zjn (data : List Int) (f2 : Vector Int 64) (i : Int) : Le (ZeC data f2 i) (Zer data f2 i) := by
  unfold ZeC Zer
  with_reducible repeat' (first | exact Le.refl _ | apply Le.bind | apply Le.ite | intro _)

noncomputable def Zez (n2 : Int) (ones2 : Int) : Option ((Int × Int) ⊕ (Int)) :=
  if (decide (0 < n2)) = true then
  (rem n2 2).bind fun q =>
  (quo .i64 n2 2).bind fun q2 =>
  some (.inl (q2, (i64 (ones2 + q))))
  else
  some (.inr ones2)
theorem Zjs (n2 : Int) (ones2 : Int) : Le (Zez n2 ones2) (Zem n2 ones2) := by
  unfold Zez Zem
  with_reducible repeat' (first | exact Le.refl _ | apply Le.bind | apply Le.ite | intro _)

noncomputable def ZcM (n : Int) : Option Bool :=
  ((QV (t2 (Zez)) (n, 0)) : Option ((Int))).bind (t1 fun (ones : Int) =>
  (rem ones 2).bind fun q3 =>
  some (decide (q3 = 1)))
theorem Ziw (n : Int) : Le (ZcM n) (Zcj n) := by
  unfold ZcM Zcj
  with_reducible repeat' (first | exact Le.refl _ | apply Le.bind | apply Le.loop | apply Le.t1 | apply Le.t2 | apply Zjs | intro _)

noncomputable def ZbJ (data : Int) : Option Int :=
  (ZcM data).bind fun y =>
  if y = true then
  some data
  else
  some (i64 (data + 2048))
theorem Ze1 (data : Int) : Le (ZbJ data) (ZbI data) := by
  unfold ZbJ ZbI
  with_reducible repeat' (first | exact Le.refl _ | apply Le.bind | apply Le.ite | apply Ziw | intro _)

noncomputable def Zcx (f3 : Vector Int 64) (i : Int) : Option (((Vector Int 64) × Int) ⊕ ((Vector Int 64))) :=
  if (decide (i ≤ 60)) = true then
  (ZI f3 i).bind fun x =>
  (rem (i64 x) 2048).bind fun q =>
  (ZbJ q).bind fun y =>
  (ZI f3 i).bind fun x2 =>
  some (.inl ((XN f3 i (u16 y)), (i64 (i + 1))))
  else
  some (.inr f3)
theorem ZhP (f3 : Vector Int 64) (i : Int) : Le (Zcx f3 i) (ZbO f3 i) := by
  unfold Zcx ZbO
  with_reducible repeat' (first | exact Le.refl _ | apply Le.bind | apply Le.ite | apply Ze1 | intro _)

noncomputable def Zdk (f : Vector Int 64) : Option Int :=
  (ZI f 1).bind fun x =>
  (rem (i64 x) 2048).bind fun q =>
  (ZI f 2).bind fun x2 =>
  (rem (i64 x2) 2048).bind fun q2 =>
  some (i64 (q + (i64 (q2 * 2048))))
theorem ZhR (f : Vector Int 64) : Le (Zdk f) (XF f) := by
  unfold Zdk XF
  with_reducible repeat' (first | exact Le.refl _ | apply Le.bind | intro _)

noncomputable def ZeF (number : Int) : Option Int :=
  (rem number 4).bind fun q =>
  (ZI (#v[583, 1464, 2631, 3512] : Vector Int 4) q).bind fun x =>
  some x
theorem ZjB (number : Int) : Le (ZeF number) (Zak number) := by
  unfold ZeF Zak
  with_reducible repeat' (first | exact Le.refl _ | apply Le.bind | intro _)

noncomputable def Zet (f : Vector Int 64) (x2 : Int) (i : Int) : Option ((Int × Int) ⊕ (Int)) :=
  if (decide (i ≤ 60)) = true then
  (ZI f i).bind fun x3 =>
  (rem (i64 x3) 2048).bind fun q =>
  some (.inl ((ZbY .i64 x2 q), (i64 (i + 1))))
  else
  some (.inr x2)
theorem ZjQ (f : Vector Int 64) (x2 : Int) (i : Int) : Le (Zet f x2 i) (ZaT f x2 i) := by
  unfold Zet ZaT
  with_reducible repeat' (first | exact Le.refl _ | apply Le.bind | apply Le.ite | intro _)

noncomputable def Zg8 (f : Vector Int 64) : Option Int :=
  ((QV (t2 (Zet f)) (0, 1)) : Option ((Int))).bind (t1 fun (x : Int) =>
  some x)
theorem ZkZ (f : Vector Int 64) : Le (Zg8 f) (Zc6 f) := by
  unfold Zg8 Zc6
  with_reducible repeat' (first | exact Le.refl _ | apply Le.bind | apply Le.loop | apply Le.t1 | apply Le.t2 | apply ZjQ | intro _)

noncomputable def Zdm (f : Vector Int 64) (rest2 : Int) (i : Int) : Option ((Int × Int) ⊕ (Int)) :=
  if (decide (i < 766)) = true then
  ((if (decide (i < 744)) = true then
  (quo .i64 i 12).bind fun q =>
  (ZI f q).bind fun x =>
  (rem i 12).bind fun q2 =>
  (shr .i64 (i64 x) (i64 (11 - q2))).bind fun q3 =>
  some (Qn .i64 q3 1)
  else
  some 0) : Option ((Int))).bind (t1 fun (bit : Int) =>
  if (decide (4194304 ≤ (i64 ((i64 (rest2 * 2)) + bit)))) = true then
  some (.inl ((ZbY .i64 (i64 ((i64 (rest2 * 2)) + bit)) 6291471), (i64 (i + 1))))
  else
  some (.inl ((i64 ((i64 (rest2 * 2)) + bit)), (i64 (i + 1)))))
  else
  some (.inr rest2)
theorem Zh6 (f : Vector Int 64) (rest2 : Int) (i : Int) : Le (Zdm f rest2 i) (JM f rest2 i) := by
  unfold Zdm JM
  with_reducible repeat' (first | exact Le.refl _ | apply Le.bind | apply Le.ite | apply Le.t1 | intro _)

noncomputable def Ze0 (f : Vector Int 64) : Option Int :=
  ((QV (t2 (Zdm f)) (0, 0)) : Option ((Int))).bind (t1 fun (rest : Int) =>
  some rest)
theorem Zj6 (f : Vector Int 64) : Le (Ze0 f) (ZaM f) := by
  unfold Ze0 ZaM
  with_reducible repeat' (first | exact Le.refl _ | apply Le.bind | apply Le.loop | apply Le.t1 | apply Le.t2 | apply Zh6 | intro _)

noncomputable def Zd6 (f : Vector Int 64) : Option (Vector Int 64) :=
  (Ze0 f).bind fun y =>
  (quo .i64 y 2048).bind fun q =>
  (ZbJ q).bind fun y2 =>
  (rem y 2048).bind fun q2 =>
  (ZbJ q2).bind fun y3 =>
  (ZI f 62).bind fun x =>
  (ZI (XN f 62 (u16 y2)) 63).bind fun x2 =>
  some (XN (XN f 62 (u16 y2)) 63 (u16 y3))
theorem ZiR (f : Vector Int 64) : Le (Zd6 f) (Zb9 f) := by
  unfold Zd6 Zb9
  with_reducible repeat' (first | exact Le.refl _ | apply Le.bind | apply Zj6 | apply Ze1 | intro _)

noncomputable def Zes (f : Vector Int 64) : Option (Vector Int 64) :=
  ((QV (t2 (Zcx)) (f, 1)) : Option (((Vector Int 64)))).bind (t1 fun (f2 : Vector Int 64) =>
  (Zdk f2).bind fun y2 =>
  (ZeF y2).bind fun y3 =>
  (ZI f2 0).bind fun x3 =>
  (Zg8 (XN f2 0 (u16 y3))).bind fun y4 =>
  (ZbJ y4).bind fun y5 =>
  (ZI (XN f2 0 (u16 y3)) 61).bind fun x4 =>
  (Zd6 (XN (XN f2 0 (u16 y3)) 61 (u16 y5))).bind fun y6 =>
  some y6)
theorem Zjb (f : Vector Int 64) : Le (Zes f) (Zda f) := by
  unfold Zes Zda
  with_reducible repeat' (first | exact Le.refl _ | apply Le.bind | apply Le.loop | apply Le.t1 | apply Le.t2 | apply ZhP | apply ZhR | apply ZjB | apply ZkZ | apply Ze1 | apply ZiR | intro _)

noncomputable def Zg0 (number : Int) (data : List Int) : Option ((Vector Int 64) × Int) :=
  if ((decide (number < 0)) || (decide (4194304 ≤ number))) = true then
  some ((#v[0, 0, 0, 0, 0, 0, 0, 0, 0, 0, 0, 0, 0, 0, 0, 0, 0, 0, 0, 0, 0, 0, 0, 0, 0, 0, 0, 0, 0, 0, 0, 0, 0, 0, 0, 0, 0, 0, 0, 0, 0, 0, 0, 0, 0, 0, 0, 0, 0, 0, 0, 0, 0, 0, 0, 0, 0, 0, 0, 0, 0, 0, 0, 0] : Vector Int 64), 9)
  else
  if (!decide ((data.length : Int) = 58)) = true then
  some ((#v[0, 0, 0, 0, 0, 0, 0, 0, 0, 0, 0, 0, 0, 0, 0, 0, 0, 0, 0, 0, 0, 0, 0, 0, 0, 0, 0, 0, 0, 0, 0, 0, 0, 0, 0, 0, 0, 0, 0, 0, 0, 0, 0, 0, 0, 0, 0, 0, 0, 0, 0, 0, 0, 0, 0, 0, 0, 0, 0, 0, 0, 0, 0, 0] : Vector Int 64), 3)
  else
  (rem number 2048).bind fun q =>
  (quo .i64 number 2048).bind fun q2 =>
  (ZI (#v[0, 0, 0, 0, 0, 0, 0, 0, 0, 0, 0, 0, 0, 0, 0, 0, 0, 0, 0, 0, 0, 0, 0, 0, 0, 0, 0, 0, 0, 0, 0, 0, 0, 0, 0, 0, 0, 0, 0, 0, 0, 0, 0, 0, 0, 0, 0, 0, 0, 0, 0, 0, 0, 0, 0, 0, 0, 0, 0, 0, 0, 0, 0, 0] : Vector Int 64) 1).bind fun x =>
  (ZI (XN (#v[0, 0, 0, 0, 0, 0, 0, 0, 0, 0, 0, 0, 0, 0, 0, 0, 0, 0, 0, 0, 0, 0, 0, 0, 0, 0, 0, 0, 0, 0, 0, 0, 0, 0, 0, 0, 0, 0, 0, 0, 0, 0, 0, 0, 0, 0, 0, 0, 0, 0, 0, 0, 0, 0, 0, 0, 0, 0, 0, 0, 0, 0, 0, 0] : Vector Int 64) 1 (u16 q)) 2).bind fun x2 =>
  ((QV (t2 (ZeC data)) ((XN (XN (#v[0, 0, 0, 0, 0, 0, 0, 0, 0, 0, 0, 0, 0, 0, 0, 0, 0, 0, 0, 0, 0, 0, 0, 0, 0, 0, 0, 0, 0, 0, 0, 0, 0, 0, 0, 0, 0, 0, 0, 0, 0, 0, 0, 0, 0, 0, 0, 0, 0, 0, 0, 0, 0, 0, 0, 0, 0, 0, 0, 0, 0, 0, 0, 0] : Vector Int 64) 1 (u16 q)) 2 (u16 q2)), 0)) : Option (((Vector Int 64) × Int) ⊕ ((Vector Int 64)))).bind (Sum.elim (fun q' => some q') (t1 fun (f : Vector Int 64) =>
  (Zes f).bind fun y =>
  some (y, 0)))
theorem ZlL (number : Int) (data : List Int) : Le (Zg0 number data) (Zf5 number data) := by
  unfold Zg0 Zf5
  with_reducible repeat' (first | exact Le.refl _ | apply Le.bind | apply Le.ite | apply Le.loop | apply Le.t1 | apply Le.t2 | apply Le.elim | apply Zjn | apply Zjb | intro _)

noncomputable def QK (n : Int) (low : Int) (high : Int) : Option Bool :=
  some ((decide (low ≤ n)) && (decide (n ≤ high)))
theorem Jj (n : Int) (low : Int) (high : Int) : Le (QK n low high) (Z9 n low high) := by
  unfold QK Z9
  with_reducible repeat' (first | exact Le.refl _ | apply Le.bind | intro _)

noncomputable def Zao (slots : Int) : Option Int :=
  some (i64 (16 + (i64 (slots * 97))))
theorem ZdB (slots : Int) : Le (Zao slots) (Xa slots) := by
  unfold Zao Xa
  with_reducible repeat' (first | exact Le.refl _ | apply Le.bind | intro _)

noncomputable def Ze9 (x : Int) (y : Int) : Option (Int × Int) :=
  (shr .u64 x 32).bind fun q =>
  (shr .u64 y 32).bind fun q2 =>
  (shr .u64 (u64 ((Qn .u64 x 4294967295) * (Qn .u64 y 4294967295))) 32).bind fun q3 =>
  (shr .u64 (u64 ((u64 (q * (Qn .u64 y 4294967295))) + q3)) 32).bind fun q4 =>
  (shr .u64 (u64 ((Qn .u64 (u64 ((u64 (q * (Qn .u64 y 4294967295))) + q3)) 4294967295) + (u64 ((Qn .u64 x 4294967295) * q2)))) 32).bind fun q5 =>
  some ((u64 ((u64 ((u64 (q * q2)) + q4)) + q5)), (u64 (x * y)))
theorem ZjX (x : Int) (y : Int) : Le (Ze9 x y) (ZdU x y) := by
  unfold Ze9 ZdU
  with_reducible repeat' (first | exact Le.refl _ | apply Le.bind | intro _)

noncomputable def Zg4 (x : Int) (y : Int) : Option (Int × Int) :=
  (Ze9 x y).bind fun y2 =>
  some (y2.1, y2.2)
theorem ZlH (x : Int) (y : Int) : Le (Zg4 x y) (ZfN x y) := by
  unfold Zg4 ZfN
  with_reducible repeat' (first | exact Le.refl _ | apply Le.bind | apply ZjX | intro _)

noncomputable def X9 (newslice2 : List Int) (n : Int) : Option (((List Int) × Int) ⊕ ((List Int))) :=
  if (decide (n < (newslice2.length : Int))) = true then
  (slq newslice2 n (newslice2.length : Int)).bind fun u =>
  (slq newslice2 0 n).bind fun u2 =>
  some (.inl ((cpy newslice2 n.toNat (Int.toNat ((newslice2.length : Int) - n)) (Int.toNat 0) (Int.toNat (n - 0))), (i64 (n + ((min (Int.toNat (n - 0)) (Int.toNat ((newslice2.length : Int) - n)) : Nat) : Int)))))
  else
  some (.inr newslice2)
theorem Zc3 (newslice2 : List Int) (n : Int) : Le (X9 newslice2 n) (Xj newslice2 n) := by
  unfold X9 Xj
  with_reducible repeat' (first | exact Le.refl _ | apply Le.bind | apply Le.ite | intro _)

noncomputable def Jy (x : List Int) (count : Int) : Option (List Int) :=
  if (decide (count < 0)) = true then
  none
  else
  (Zg4 (u64 (x.length : Int)) (u64 count)).bind fun y =>
  if ((decide (0 < y.1)) || (decide (9223372036854775807 < y.2))) = true then
  none
  else
  (mks (i64 y.2) 0).bind fun l =>
  ((QV (t2 (X9)) ((ZiQ l x), ((min x.length l.length : Nat) : Int))) : Option (((List Int)))).bind (t1 fun (newslice : List Int) =>
  some newslice)
theorem Zd1 (x : List Int) (count : Int) : Le (Jy x count) (Xb x count) := by
  unfold Jy Xb
  with_reducible repeat' (first | exact Le.refl _ | apply Le.bind | apply Le.ite | apply Le.loop | apply Le.t1 | apply Le.t2 | apply ZlH | apply Zc3 | intro _)

noncomputable def Zbg (sectors : Int) (slots : Int) (Sectors2 : List (List Int)) (i : Int) : Option (((List (List Int)) × Int) ⊕ ((List (List Int)))) :=
  if (decide (i < sectors)) = true then
  (((Zao slots).bind fun y4 =>
  (Jy ([255] : List Int) y4).bind fun y5 =>
  (app Sectors2 [y5]).bind fun l3 =>
  some l3) : Option (((List (List Int))))).bind (t1 fun (Sectors3 : List (List Int)) =>
  some (.inl (Sectors3, (i64 (i + 1)))))
  else
  some (.inr Sectors2)
theorem Zga (sectors : Int) (slots : Int) (Sectors2 : List (List Int)) (i : Int) : Le (Zbg sectors slots Sectors2 i) (ZaK sectors slots Sectors2 i) := by
  unfold Zbg ZaK
  with_reducible repeat' (first | exact Le.refl _ | apply Le.bind | apply Le.ite | apply Le.t1 | apply ZdB | apply Zd1 | intro _)

noncomputable def ZcI (sectors : Int) (slots : Int) (limit : Int) : Option (api_Memory × Int) :=
  (QK sectors 2 64).bind fun y =>
  (gd ((!y) == false) false (QK slots 1 64)).bind fun y2 =>
  (gd (((!y) || (!y2)) == false) false (QK limit 1 1000000)).bind fun y3 =>
  if (((!y) || (!y2)) || (!y3)) = true then
  some ((api_Memory.mk 0 0 [] [] []), 9)
  else
  (((mkz 8 sectors 0).bind fun l =>
  (mkz 1 sectors false).bind fun l2 =>
  some (l, l2)) : Option (((List Int) × (List Bool)))).bind (t2 fun (Wear : List Int) (Bad : List Bool) =>
  ((QV (t2 (Zbg sectors slots)) ([], 0)) : Option (((List (List Int))))).bind (t1 fun (Sectors : List (List Int)) =>
  some ((api_Memory.mk slots limit Sectors Wear Bad), 0)))
theorem Zhm (sectors : Int) (slots : Int) (limit : Int) : Le (ZcI sectors slots limit) (ZaP sectors slots limit) := by
  unfold ZcI ZaP
  with_reducible repeat' (first | exact Le.refl _ | apply Le.bind | apply Le.ite | apply Le.gd | apply Le.loop | apply Le.t1 | apply Le.t2 | apply Jj | apply Zga | intro _)

noncomputable def ZaB (m : api_Memory) (i : Int) : Option ((Int) ⊕ (Int) ⊕ (Unit)) :=
  if (decide (i < (m.Sectors.length : Int))) = true then
  (idx m.Sectors i).bind fun x =>
  (Zao m.Slots).bind fun y4 =>
  if (!decide ((x.length : Int) = y4)) = true then
  some (.inr (.inl 3))
  else
  (idx m.Wear i).bind fun x2 =>
  (QK x2 0 m.Limit).bind fun y5 =>
  if (!y5) = true then
  some (.inr (.inl 9))
  else
  some (.inl (i64 (i + 1)))
  else
  some (.inr (.inr ()))
theorem Zfi (m : api_Memory) (i : Int) : Le (ZaB m i) (Qe m i) := by
  unfold ZaB Qe
  with_reducible repeat' (first | exact Le.refl _ | apply Le.bind | apply Le.ite | apply ZdB | apply Jj | intro _)

noncomputable def ZbF (m : api_Memory) : Option Int :=
  (QK m.Slots 1 64).bind fun y =>
  (gd ((!y) == false) false (QK m.Limit 1 1000000)).bind fun y2 =>
  (gd (((!y) || (!y2)) == false) false (QK (m.Sectors.length : Int) 2 64)).bind fun y3 =>
  if (((!y) || (!y2)) || (!y3)) = true then
  some 9
  else
  if ((!decide ((m.Wear.length : Int) = (m.Sectors.length : Int))) || (!decide ((m.Bad.length : Int) = (m.Sectors.length : Int)))) = true then
  some 2
  else
  ((QV (t1 (ZaB m)) 0) : Option ((Int) ⊕ (Unit))).bind (Sum.elim (fun q' => some q') (t0 (some 0)))
theorem Zgv (m : api_Memory) : Le (ZbF m) (QY m) := by
  unfold ZbF QY
  with_reducible repeat' (first | exact Le.refl _ | apply Le.bind | apply Le.ite | apply Le.gd | apply Le.loop | apply Le.t0 | apply Le.t1 | apply Le.elim | apply Jj | apply Zfi | intro _)

noncomputable def ZbG (l : List api_Memory) (i : Int) : Option ((Int) ⊕ (Int) ⊕ (Unit)) :=
  if (decide (i < (l.length : Int))) = true then
  (idx l i).bind fun x =>
  (ZbF x).bind fun y2 =>
  if (!decide (y2 = 0)) = true then
  some (.inr (.inl y2))
  else
  some (.inl (i64 (i + 1)))
  else
  some (.inr (.inr ()))
theorem ZgC (l : List api_Memory) (i : Int) : Le (ZbG l i) (ring_checkAll_L1 l i) := by
  unfold ZbG ring_checkAll_L1
  with_reducible repeat' (first | exact Le.refl _ | apply Le.bind | apply Le.ite | apply Zgv | intro _)

noncomputable def Zbt (l : List api_Memory) : Option Int :=
  (QK (l.length : Int) 1 8).bind fun y =>
  if (!y) = true then
  some 3
  else
  ((QV (t1 (ZbG l)) 0) : Option ((Int) ⊕ (Unit))).bind (Sum.elim (fun q' => some q') (t0 (some 0)))
theorem ZeM (l : List api_Memory) : Le (Zbt l) (Xh l) := by
  unfold Zbt Xh
  with_reducible repeat' (first | exact Le.refl _ | apply Le.bind | apply Le.ite | apply Le.loop | apply Le.t0 | apply Le.t1 | apply Le.elim | apply Jj | apply ZgC | intro _)

noncomputable def ZaX (m : api_Memory) (sectors2 : List (List Int)) (i : Int) : Option (((List (List Int)) × Int) ⊕ ((List (List Int)))) :=
  if (decide (i < (m.Sectors.length : Int))) = true then
  (idx m.Sectors i).bind fun x =>
  (ZeH 1 x).bind fun y =>
  (app sectors2 [y]).bind fun l =>
  some (.inl (l, (i64 (i + 1))))
  else
  some (.inr sectors2)
theorem ZfI (m : api_Memory) (sectors2 : List (List Int)) (i : Int) : Le (ZaX m sectors2 i) (Q7 m sectors2 i) := by
  unfold ZaX Q7
  with_reducible repeat' (first | exact Le.refl _ | apply Le.bind | apply Le.ite | intro _)

noncomputable def Zb7 (m : api_Memory) : Option api_Memory :=
  ((QV (t2 (ZaX m)) ([], 0)) : Option (((List (List Int))))).bind (t1 fun (sectors : List (List Int)) =>
  (ZeH 8 m.Wear).bind fun y2 =>
  (ZeH 1 m.Bad).bind fun y3 =>
  some (api_Memory.mk m.Slots m.Limit sectors y2 y3))
theorem Zhd (m : api_Memory) : Le (Zb7 m) (Ja m) := by
  unfold Zb7 Ja
  with_reducible repeat' (first | exact Le.refl _ | apply Le.bind | apply Le.loop | apply Le.t1 | apply Le.t2 | apply ZfI | intro _)

noncomputable def Zcn (l : List api_Memory) (out2 : List api_Memory) (i : Int) : Option (((List api_Memory) × Int) ⊕ ((List api_Memory))) :=
  if (decide (i < (l.length : Int))) = true then
  (idx l i).bind fun x =>
  (Zb7 x).bind fun y =>
  (app out2 [y]).bind fun l2 =>
  some (.inl (l2, (i64 (i + 1))))
  else
  some (.inr out2)
theorem Zg5 (l : List api_Memory) (out2 : List api_Memory) (i : Int) : Le (Zcn l out2 i) (Xr l out2 i) := by
  unfold Zcn Xr
  with_reducible repeat' (first | exact Le.refl _ | apply Le.bind | apply Le.ite | apply Zhd | intro _)

noncomputable def Zb6 (l : List api_Memory) : Option (List api_Memory) :=
  ((QV (t2 (Zcn l)) ([], 0)) : Option (((List api_Memory)))).bind (t1 fun (out : List api_Memory) =>
  some out)
theorem Zfs (l : List api_Memory) : Le (Zb6 l) (XD l) := by
  unfold Zb6 XD
  with_reducible repeat' (first | exact Le.refl _ | apply Le.bind | apply Le.loop | apply Le.t1 | apply Le.t2 | apply Zg5 | intro _)

noncomputable def ZcB (sequence : Int) (out2 : List Int) (shift : Int) : Option (((List Int) × Int) ⊕ ((List Int))) :=
  if (decide (0 ≤ shift)) = true then
  (shr .i64 sequence shift).bind fun q =>
  (apz 1 out2 ([(u8 q)] : List Int)).bind fun l =>
  some (.inl (l, (i64 (shift - 8))))
  else
  some (.inr out2)
theorem Zhy (sequence : Int) (out2 : List Int) (shift : Int) : Le (ZcB sequence out2 shift) (Xk sequence out2 shift) := by
  unfold ZcB Xk
  with_reducible repeat' (first | exact Le.refl _ | apply Le.bind | apply Le.ite | intro _)

noncomputable def ZcA (out : List Int) (out4 : List Int) (i : Int) : Option (((List Int) × Int) ⊕ ((List Int))) :=
  if (decide (i < ((Int.toNat (6 - 2) : Nat) : Int))) = true then
  (ck (decide ((0 : Int) ≤ i) && decide (i < ((Int.toNat (6 - 2) : Nat) : Int)))).bind fun u2 =>
  (idx out (2 + i)).bind fun x2 =>
  (apz 1 out4 ([(ZbY .u8 255 x2)] : List Int)).bind fun l2 =>
  some (.inl (l2, (i64 (i + 1))))
  else
  some (.inr out4)
theorem Zhs (out : List Int) (out4 : List Int) (i : Int) : Le (ZcA out out4 i) (Xq out out4 i) := by
  unfold ZcA Xq
  with_reducible repeat' (first | exact Le.refl _ | apply Le.bind | apply Le.ite | intro _)

noncomputable def ZcX (sequence : Int) : Option (List Int) :=
  ((QV (t2 (ZcB sequence)) (([79, 66] : List Int), 24)) : Option (((List Int)))).bind (t1 fun (out : List Int) =>
  (((slp out 2 6).bind fun u =>
  QV (t2 (ZcA out)) (out, 0)) : Option (((List Int)))).bind (t1 fun (out3 : List Int) =>
  some out3))
theorem ZfW (sequence : Int) : Le (ZcX sequence) (Zal sequence) := by
  unfold ZcX Zal
  with_reducible repeat' (first | exact Le.refl _ | apply Le.bind | apply Le.loop | apply Le.t1 | apply Le.t2 | apply Zhy | apply Zhs | intro _)

noncomputable def Je (s1 : List Int) (s2 : List Int) (i : Int) : Option ((Int) ⊕ (Bool) ⊕ (Unit)) :=
  if (decide (i < (s1.length : Int))) = true then
  (idx s1 i).bind fun x =>
  (idx s2 i).bind fun x2 =>
  if (!decide (x = x2)) = true then
  some (.inr (.inl false))
  else
  some (.inl (i64 (i + 1)))
  else
  some (.inr (.inr ()))
theorem Zdu (s1 : List Int) (s2 : List Int) (i : Int) : Le (Je s1 s2 i) (Qv s1 s2 i) := by
  unfold Je Qv
  with_reducible repeat' (first | exact Le.refl _ | apply Le.bind | apply Le.ite | intro _)

noncomputable def JU (s1 : List Int) (s2 : List Int) : Option Bool :=
  if (!decide ((s1.length : Int) = (s2.length : Int))) = true then
  some false
  else
  ((QV (t1 (Je s1 s2)) 0) : Option ((Bool) ⊕ (Unit))).bind (Sum.elim (fun q' => some q') (t0 (some true)))
theorem Zeh (s1 : List Int) (s2 : List Int) : Le (JU s1 s2) (Qy s1 s2) := by
  unfold JU Qy
  with_reducible repeat' (first | exact Le.refl _ | apply Le.bind | apply Le.ite | apply Le.loop | apply Le.t0 | apply Le.t1 | apply Le.elim | apply Zdu | intro _)

noncomputable def ZaQ (s : List Int) : Option (Int × Bool × Bool) :=
  if (decide ((s.length : Int) < 16)) = true then
  some (0, false, false)
  else
  (slc s 0 16).bind fun l =>
  (tov 16 l).bind fun v =>
  (ZI v 2).bind fun x =>
  (shl .i64 (i64 x) 24).bind fun q =>
  (ZI v 3).bind fun x2 =>
  (shl .i64 (i64 x2) 16).bind fun q2 =>
  (ZI v 4).bind fun x3 =>
  (shl .i64 (i64 x3) 8).bind fun q3 =>
  (ZI v 5).bind fun x4 =>
  (QK (bor .i64 (bor .i64 (bor .i64 q q2) q3) (i64 x4)) 1 1073741824).bind fun y =>
  (gd ((!y) == false) [] (slc v.toList 0 10)).bind fun l2 =>
  (gd ((!y) == false) [] (ZcX (bor .i64 (bor .i64 (bor .i64 q q2) q3) (i64 x4)))).bind fun y2 =>
  (gd ((!y) == false) false (JU l2 y2)).bind fun y3 =>
  if ((!y) || (!y3)) = true then
  some (0, false, false)
  else
  (ZI v 10).bind fun x5 =>
  some ((bor .i64 (bor .i64 (bor .i64 q q2) q3) (i64 x4)), (!decide (x5 = 255)), true)
theorem ZbP (s : List Int) : Le (ZaQ s) (J5 s) := by
  unfold ZaQ J5
  with_reducible repeat' (first | exact Le.refl _ | apply Le.bind | apply Le.ite | apply Le.gd | apply Jj | apply ZfW | apply Zeh | intro _)

noncomputable def Zce (m : api_Memory) (out2 : List Int) (i : Int) : Option (((List Int) × Int) ⊕ ((List Int))) :=
  if (decide (i < (m.Sectors.length : Int))) = true then
  (idx m.Sectors i).bind fun x =>
  (ZaQ x).bind fun y =>
  (gd (y.2.2 == true) false (idx m.Bad i)).bind fun x2 =>
  if (y.2.2 && (!x2)) = true then
  (apz 8 out2 ([i] : List Int)).bind fun l =>
  some (.inl (l, (i64 (i + 1))))
  else
  some (.inl (out2, (i64 (i + 1))))
  else
  some (.inr out2)
theorem ZgO (m : api_Memory) (out2 : List Int) (i : Int) : Le (Zce m out2 i) (X6 m out2 i) := by
  unfold Zce X6
  with_reducible repeat' (first | exact Le.refl _ | apply Le.bind | apply Le.ite | apply Le.gd | apply ZbP | intro _)

noncomputable def Q1 (a : Int) (cmp : Int → Int → Option Int) (o3 : List Int) (j : Int) : Option (((List Int) × Int) ⊕ ((List Int))) :=
  (gd ((decide (a < j)) == true) 0 (idx o3 j)).bind fun x =>
  (gd ((decide (a < j)) == true) 0 (idx o3 (i64 (j - 1)))).bind fun x2 =>
  (gd ((decide (a < j)) == true) 0 (cmp x x2)).bind fun y =>
  if ((decide (a < j)) && (decide (y < 0))) = true then
  (idx o3 (i64 (j - 1))).bind fun x3 =>
  (idx o3 j).bind fun x4 =>
  (idx o3 j).bind fun x5 =>
  (idx (o3.set j.toNat x3) (i64 (j - 1))).bind fun x6 =>
  some (.inl (((o3.set j.toNat x3).set (i64 (j - 1)).toNat x4), (i64 (j - 1))))
  else
  some (.inr o3)
theorem Za2 (a : Int) (cmp : Int → Int → Option Int) (o3 : List Int) (j : Int) (cmp' : Int → Int → Option Int) (h_cmp : ∀ z0 z1, Le (cmp z0 z1) (cmp' z0 z1)) : Le (Q1 a cmp o3 j) (Zw a cmp' o3 j) := by
  unfold Q1 Zw
  with_reducible repeat' (first | exact Le.refl _ | apply Le.bind | apply Le.ite | apply Le.gd | apply h_cmp | intro _)

noncomputable def Q4 (a : Int) (b : Int) (cmp : Int → Int → Option Int) (o : List Int) (i : Int) : Option (((List Int) × Int) ⊕ ((List Int))) :=
  if (decide (i < b)) = true then
  ((QV (t2 (Q1 a cmp)) (o, i)) : Option (((List Int)))).bind (t1 fun (o2 : List Int) =>
  some (.inl (o2, (i64 (i + 1)))))
  else
  some (.inr o)
theorem ZaZ (a : Int) (b : Int) (cmp : Int → Int → Option Int) (o : List Int) (i : Int) (cmp' : Int → Int → Option Int) (h_cmp : ∀ z0 z1, Le (cmp z0 z1) (cmp' z0 z1)) : Le (Q4 a b cmp o i) (Zr a b cmp' o i) := by
  unfold Q4 Zr
  with_reducible repeat' (first | exact Le.refl _ | apply Le.bind | apply Le.ite | apply Le.loop | apply Le.t1 | apply Le.t2 | apply Za2 | apply h_cmp | intro _)

noncomputable def QG (data : List Int) (a : Int) (b : Int) (cmp : Int → Int → Option Int) : Option (List Int) :=
  QV (t2 (Q4 a b cmp)) (data, (i64 (a + 1)))
theorem Ju (data : List Int) (a : Int) (b : Int) (cmp : Int → Int → Option Int) (cmp' : Int → Int → Option Int) (h_cmp : ∀ z0 z1, Le (cmp z0 z1) (cmp' z0 z1)) : Le (QG data a b cmp) (Zx data a b cmp') := by
  unfold QG Zx
  with_reducible repeat' (first | exact Le.refl _ | apply Le.bind | apply Le.loop | apply Le.t2 | apply ZaZ | apply h_cmp | intro _)

noncomputable def XJ (n : Int) (cmp : Int → Int → Option Int) (o2 : List Int) (a2 : Int) (b : Int) : Option (((List Int) × Int × Int) ⊕ ((List Int) × Int)) :=
  if (decide (b ≤ n)) = true then
  (QG o2 a2 b cmp).bind fun y =>
  some (.inl (y, b, (i64 (b + 20))))
  else
  some (.inr (o2, a2))
theorem ZcC (n : Int) (cmp : Int → Int → Option Int) (o2 : List Int) (a2 : Int) (b : Int) (cmp' : Int → Int → Option Int) (h_cmp : ∀ z0 z1, Le (cmp z0 z1) (cmp' z0 z1)) : Le (XJ n cmp o2 a2 b) (ZH n cmp' o2 a2 b) := by
  unfold XJ ZH
  with_reducible repeat' (first | exact Le.refl _ | apply Le.bind | apply Le.ite | apply Ju | apply h_cmp | intro _)

noncomputable def X5 (n_ : Nat) : List Int → Int → Int → Int → (Int → Int → Option Int) → Option (List Int) := fun _ _ _ _ _ => none
theorem Zaf (n_ : Nat) {z0 : List Int} {z1 : Int} {z2 : Int} {z3 : Int} {z4 : (Int → Int → Option Int)} {z4' : (Int → Int → Option Int)} : Le (X5 n_ z0 z1 z2 z3 z4) (ZF n_ z0 z1 z2 z3 z4') := fun r h => by cases h

noncomputable def XI (n : Int) (cmp : Int → Int → Option Int) (blockSize : Int) (o5 : List Int) (a4 : Int) (b2 : Int) : Option (((List Int) × Int × Int) ⊕ ((List Int) × Int)) :=
  if (decide (b2 ≤ n)) = true then
  (X5 100 o5 a4 (i64 (a4 + blockSize)) b2 cmp).bind fun y3 =>
  some (.inl (y3, b2, (i64 (b2 + (i64 (2 * blockSize))))))
  else
  some (.inr (o5, a4))
theorem ZcP (n : Int) (cmp : Int → Int → Option Int) (blockSize : Int) (o5 : List Int) (a4 : Int) (b2 : Int) (cmp' : Int → Int → Option Int) (h_cmp : ∀ z0 z1, Le (cmp z0 z1) (cmp' z0 z1)) : Le (XI n cmp blockSize o5 a4 b2) (ZC n cmp' blockSize o5 a4 b2) := by
  unfold XI ZC
  with_reducible repeat' (first | exact Le.refl _ | apply Le.bind | apply Le.ite | apply Zaf | apply h_cmp | intro _)

noncomputable def XO (n : Int) (cmp : Int → Int → Option Int) (o3 : List Int) (blockSize : Int) : Option (((List Int) × Int) ⊕ ((List Int))) :=
  if (decide (blockSize < n)) = true then
  ((QV (t3 (XI n cmp blockSize)) (o3, 0, (i64 (2 * blockSize)))) : Option (((List Int) × Int))).bind (t2 fun (o4 : List Int) (a3 : Int) =>
  if (decide ((i64 (a3 + blockSize)) < n)) = true then
  (X5 100 o4 a3 (i64 (a3 + blockSize)) n cmp).bind fun y4 =>
  some (.inl (y4, (i64 (blockSize * 2))))
  else
  some (.inl (o4, (i64 (blockSize * 2)))))
  else
  some (.inr o3)
theorem ZcS (n : Int) (cmp : Int → Int → Option Int) (o3 : List Int) (blockSize : Int) (cmp' : Int → Int → Option Int) (h_cmp : ∀ z0 z1, Le (cmp z0 z1) (cmp' z0 z1)) : Le (XO n cmp o3 blockSize) (ZD n cmp' o3 blockSize) := by
  unfold XO ZD
  with_reducible repeat' (first | exact Le.refl _ | apply Le.bind | apply Le.ite | apply Le.loop | apply Le.t2 | apply Le.t3 | apply ZcP | apply Zaf | apply h_cmp | intro _)

noncomputable def Jn (data : List Int) (n : Int) (cmp : Int → Int → Option Int) : Option (List Int) :=
  ((QV (t3 (XJ n cmp)) (data, 0, 20)) : Option (((List Int) × Int))).bind (t2 fun (o : List Int) (a : Int) =>
  (QG o a n cmp).bind fun y2 =>
  QV (t2 (XO n cmp)) (y2, 20))
theorem ZdI (data : List Int) (n : Int) (cmp : Int → Int → Option Int) (cmp' : Int → Int → Option Int) (h_cmp : ∀ z0 z1, Le (cmp z0 z1) (cmp' z0 z1)) : Le (Jn data n cmp) (Z3 data n cmp') := by
  unfold Jn Z3
  with_reducible repeat' (first | exact Le.refl _ | apply Le.bind | apply Le.loop | apply Le.t2 | apply Le.t3 | apply ZcC | apply Ju | apply ZcS | apply h_cmp | intro _)

noncomputable def Xv (x : List Int) (cmp : Int → Int → Option Int) : Option (List Int) :=
  (Jn x (x.length : Int) cmp).bind fun y =>
  some y
theorem ZbQ (x : List Int) (cmp : Int → Int → Option Int) (cmp' : Int → Int → Option Int) (h_cmp : ∀ z0 z1, Le (cmp z0 z1) (cmp' z0 z1)) : Le (Xv x cmp) (ZK x cmp') := by
  unfold Xv ZK
  with_reducible repeat' (first | exact Le.refl _ | apply Le.bind | apply ZdI | apply h_cmp | intro _)

noncomputable def Za4 (i : Int) (c0 : api_Memory) : Option Int :=
  (idx c0.Sectors i).bind fun x =>
  (ZaQ x).bind fun y =>
  some y.1
theorem ZhA (i : Int) (c0 : api_Memory) : Le (Za4 i c0) (XL i c0) := by
  unfold Za4 XL
  with_reducible repeat' (first | exact Le.refl _ | apply Le.bind | apply ZbP | intro _)

noncomputable def ZcL (a : Int) (b : Int) (k : api_Memory) : Option Int :=
  (Za4 a k).bind fun y =>
  (Za4 b k).bind fun y2 =>
  some (i64 (y - y2))
theorem Zhu (a : Int) (b : Int) (k : api_Memory) : Le (ZcL a b k) (XK a b k) := by
  unfold ZcL XK
  with_reducible repeat' (first | exact Le.refl _ | apply Le.bind | apply ZhA | intro _)

noncomputable def Zci (m : api_Memory) : Option (List Int) :=
  ((QV (t2 (Zce m)) ([], 0)) : Option (((List Int)))).bind (t1 fun (out : List Int) =>
  (Xv out (fun z0 z1 => ZcL z0 z1 m)).bind fun y2 =>
  some y2)
theorem ZfD (m : api_Memory) : Le (Zci m) (Xp m) := by
  unfold Zci Xp
  with_reducible repeat' (first | exact Le.refl _ | apply Le.bind | apply Le.loop | apply Le.t1 | apply Le.t2 | apply ZgO | apply ZbQ | apply Zhu | intro _)

noncomputable def ZcW (s : List Int) (i : Int) : Option (Vector Int 97) :=
  (slc s (i64 (16 + (i64 (i * 97)))) (i64 ((i64 (16 + (i64 (i * 97)))) + 97))).bind fun l =>
  (tov 97 l).bind fun v =>
  some v
theorem ZfT (s : List Int) (i : Int) : Le (ZcW s i) (JJ s i) := by
  unfold ZcW JJ
  with_reducible repeat' (first | exact Le.refl _ | apply Le.bind | intro _)

noncomputable def Xx (s : List Int) (f : Int → Option Bool) (i : Int) : Option ((Int) ⊕ (Int) ⊕ (Unit)) :=
  if (decide (i < (s.length : Int))) = true then
  (idx s i).bind fun x =>
  (f x).bind fun y =>
  if y = true then
  some (.inr (.inl i))
  else
  some (.inl (i64 (i + 1)))
  else
  some (.inr (.inr ()))
theorem Zck (s : List Int) (f : Int → Option Bool) (i : Int) (f' : Int → Option Bool) (h_f : ∀ z0, Le (f z0) (f' z0)) : Le (Xx s f i) (ZV s f' i) := by
  unfold Xx ZV
  with_reducible repeat' (first | exact Le.refl _ | apply Le.bind | apply Le.ite | apply h_f | intro _)

noncomputable def XV (s : List Int) (f : Int → Option Bool) : Option Int :=
  ((QV (t1 (Xx s f)) 0) : Option ((Int) ⊕ (Unit))).bind (Sum.elim (fun q' => some q') (t0 (some (-1))))
theorem Zc7 (s : List Int) (f : Int → Option Bool) (f' : Int → Option Bool) (h_f : ∀ z0, Le (f z0) (f' z0)) : Le (XV s f) (Ql s f') := by
  unfold XV Ql
  with_reducible repeat' (first | exact Le.refl _ | apply Le.bind | apply Le.loop | apply Le.t0 | apply Le.t1 | apply Le.elim | apply Zck | apply h_f | intro _)

noncomputable def Xw (s : List Int) (f : Int → Option Bool) : Option Bool :=
  (XV s f).bind fun y =>
  some (decide (0 ≤ y))
theorem ZbR (s : List Int) (f : Int → Option Bool) (f' : Int → Option Bool) (h_f : ∀ z0, Le (f z0) (f' z0)) : Le (Xw s f) (ZW s f') := by
  unfold Xw ZW
  with_reducible repeat' (first | exact Le.refl _ | apply Le.bind | apply Zc7 | apply h_f | intro _)

noncomputable def ZcQ (b : Int) : Option Bool :=
  some (!decide (b = 255))
theorem Zhk (b : Int) : Le (ZcQ b) (XM b) := by
  unfold ZcQ XM
  with_reducible repeat' (first | exact Le.refl _ | apply Le.bind | intro _)

noncomputable def Zcd (p : Vector Int 97) : Option Int :=
  (ZI p 96).bind fun x =>
  if (decide (x = 0)) = true then
  some 1
  else
  (slc p.toList 0 (97 : Int)).bind fun l =>
  (Xw l (fun z0 => ZcQ z0)).bind fun y =>
  if y = true then
  some 2
  else
  some 0
theorem Zfw (p : Vector Int 97) : Le (Zcd p) (JE p) := by
  unfold Zcd JE
  with_reducible repeat' (first | exact Le.refl _ | apply Le.bind | apply Le.ite | apply ZbR | apply Zhk | intro _)

noncomputable def ZbB (m : api_Memory) (x : Int) (slot2 : Int) (i : Int) : Option ((Int × Int) ⊕ (Int)) :=
  if (decide (i < m.Slots)) = true then
  (idx m.Sectors x).bind fun x2 =>
  (ZcW x2 i).bind fun y2 =>
  (Zcd y2).bind fun y3 =>
  if (!decide (y3 = 0)) = true then
  some (.inl ((i64 (i + 1)), (i64 (i + 1))))
  else
  some (.inl (slot2, (i64 (i + 1))))
  else
  some (.inr slot2)
theorem ZgE (m : api_Memory) (x : Int) (slot2 : Int) (i : Int) : Le (ZbB m x slot2 i) (XC m x slot2 i) := by
  unfold ZbB XC
  with_reducible repeat' (first | exact Le.refl _ | apply Le.bind | apply Le.ite | apply ZfT | apply Zfw | intro _)

noncomputable def Zdq (m : api_Memory) : Option ring_spot :=
  (Zci m).bind fun y =>
  if (decide ((y.length : Int) = 0)) = true then
  some (ring_spot.mk (-1) 0)
  else
  (idx y (i64 ((y.length : Int) - 1))).bind fun x =>
  ((QV (t2 (ZbB m x)) (0, 0)) : Option ((Int))).bind (t1 fun (slot : Int) =>
  some (ring_spot.mk x slot))
theorem ZhU (m : api_Memory) : Le (Zdq m) (JK m) := by
  unfold Zdq JK
  with_reducible repeat' (first | exact Le.refl _ | apply Le.bind | apply Le.ite | apply Le.loop | apply Le.t1 | apply Le.t2 | apply ZfD | apply ZgE | intro _)

noncomputable def Zdw (y3 : (List api_Memory)) (spots2 : List ring_spot) (frozen2 : Bool) (i : Int) : Option (((List ring_spot) × Bool × Int) ⊕ ((List ring_spot) × Bool)) :=
  if (decide (i < (y3.length : Int))) = true then
  (idx y3 i).bind fun x =>
  (Zdq x).bind fun y4 =>
  (apz 16 spots2 ([y4] : List ring_spot)).bind fun l2 =>
  if (decide (0 ≤ y4.sector)) = true then
  (idx x.Sectors y4.sector).bind fun x2 =>
  (ZaQ x2).bind fun y5 =>
  some (.inl (l2, (frozen2 || y5.2.1), (i64 (i + 1))))
  else
  some (.inl (l2, frozen2, (i64 (i + 1))))
  else
  some (.inr (spots2, frozen2))
theorem Zh2 (y3 : (List api_Memory)) (spots2 : List ring_spot) (frozen2 : Bool) (i : Int) : Le (Zdw y3 spots2 frozen2 i) (JP y3 spots2 frozen2 i) := by
  unfold Zdw JP
  with_reducible repeat' (first | exact Le.refl _ | apply Le.bind | apply Le.ite | apply ZhU | apply ZbP | intro _)

noncomputable def Ze8 (l : List api_Memory) (copies : Int) : Option ((Int) ⊕ (ring_Recorder × Int)) :=
  (Zbt l).bind fun y =>
  if (!decide (y = 0)) = true then
  some (Sum.inl y)
  else
  (QK copies 1 (l.length : Int)).bind fun y2 =>
  if (!y2) = true then
  some (Sum.inl 9)
  else
  (Zb6 l).bind fun y3 =>
  ((QV (t3 (Zdw y3)) ([], false, 0)) : Option (((List ring_spot) × Bool))).bind (t2 fun (spots : List ring_spot) (frozen : Bool) =>
  some (Sum.inr ((ring_Recorder.mk (ring_bank.mk y3 spots) copies frozen false 0 false), 0)))
theorem ZjZ (l : List api_Memory) (copies : Int) : Le (Ze8 l copies) (Jq l copies) := by
  unfold Ze8 Jq
  with_reducible repeat' (first | exact Le.refl _ | apply Le.bind | apply Le.ite | apply Le.loop | apply Le.t2 | apply Le.t3 | apply Le.elim | apply ZeM | apply Jj | apply Zfs | apply Zh2 | intro _)

noncomputable def ZaN (r_ : ring_Recorder) (power : Int) : Option Int :=
  if r_.stopped = true then
  some 15
  else
  if r_.frozen = true then
  some 11
  else
  (QK power 0 1000000000).bind fun y =>
  if (!y) = true then
  some 9
  else
  some 0
theorem ZfH (r_ : ring_Recorder) (power : Int) : Le (ZaN r_ power) (QT r_ power) := by
  unfold ZaN QT
  with_reducible repeat' (first | exact Le.refl _ | apply Le.bind | apply Le.ite | apply Jj | intro _)

noncomputable def ZcO (f : Vector Int 64) (out2 : List api_Flaw) (i : Int) : Option (((List api_Flaw) × Int) ⊕ ((List api_Flaw))) :=
  if (decide (i < 64)) = true then
  (ZI f i).bind fun x =>
  if (decide (4095 < x)) = true then
  (app out2 ([(api_Flaw.mk i 5)] : List api_Flaw)).bind fun l =>
  some (.inl (l, (i64 (i + 1))))
  else
  some (.inl (out2, (i64 (i + 1))))
  else
  some (.inr out2)
theorem ZhD (f : Vector Int 64) (out2 : List api_Flaw) (i : Int) : Le (ZcO f out2 i) (Jp f out2 i) := by
  unfold ZcO Jp
  with_reducible repeat' (first | exact Le.refl _ | apply Le.bind | apply Le.ite | intro _)

noncomputable def JI (w : Int) : Option Int :=
  some (i64 (Qn .u16 w 2047))
theorem Zev (w : Int) : Le (JI w) (X3 w) := by
  unfold JI X3
  with_reducible repeat' (first | exact Le.refl _ | apply Le.bind | intro _)

noncomputable def Za3 (f : Vector Int 64) : Option Int :=
  (ZI f 1).bind fun x =>
  (JI x).bind fun y =>
  (ZI f 2).bind fun x2 =>
  (JI x2).bind fun y2 =>
  (shl .i64 y2 11).bind fun q =>
  some (bor .i64 y q)
theorem Zen (f : Vector Int 64) : Le (Za3 f) (XQ f) := by
  unfold Za3 XQ
  with_reducible repeat' (first | exact Le.refl _ | apply Le.bind | apply Zev | intro _)

noncomputable def ZbC (x : Int) : Option Int :=
  (shr .u16 x 8).bind fun q =>
  (Znl [0, 1, 1, 2, 1, 2, 2, 3, 1, 2, 2, 3, 2, 3, 3, 4, 1, 2, 2, 3, 2, 3, 3, 4, 2, 3, 3, 4, 3, 4, 4, 5, 1, 2, 2, 3, 2, 3, 3, 4, 2, 3, 3, 4, 3, 4, 4, 5, 2, 3, 3, 4, 3, 4, 4, 5, 3, 4, 4, 5, 4, 5, 5, 6, 1, 2, 2, 3, 2, 3, 3, 4, 2, 3, 3, 4, 3, 4, 4, 5, 2, 3, 3, 4, 3, 4, 4, 5, 3, 4, 4, 5, 4, 5, 5, 6, 2, 3, 3, 4, 3, 4, 4, 5, 3, 4, 4, 5, 4, 5, 5, 6, 3, 4, 4, 5, 4, 5, 5, 6, 4, 5, 5, 6, 5, 6, 6, 7, 1, 2, 2, 3, 2, 3, 3, 4, 2, 3, 3, 4, 3, 4, 4, 5, 2, 3, 3, 4, 3, 4, 4, 5, 3, 4, 4, 5, 4, 5, 5, 6, 2, 3, 3, 4, 3, 4, 4, 5, 3, 4, 4, 5, 4, 5, 5, 6, 3, 4, 4, 5, 4, 5, 5, 6, 4, 5, 5, 6, 5, 6, 6, 7, 2, 3, 3, 4, 3, 4, 4, 5, 3, 4, 4, 5, 4, 5, 5, 6, 3, 4, 4, 5, 4, 5, 5, 6, 4, 5, 5, 6, 5, 6, 6, 7, 3, 4, 4, 5, 4, 5, 5, 6, 4, 5, 5, 6, 5, 6, 6, 7, 4, 5, 5, 6, 5, 6, 6, 7, 5, 6, 6, 7, 6, 7, 7, 8] q).bind fun b =>
  (Znl [0, 1, 1, 2, 1, 2, 2, 3, 1, 2, 2, 3, 2, 3, 3, 4, 1, 2, 2, 3, 2, 3, 3, 4, 2, 3, 3, 4, 3, 4, 4, 5, 1, 2, 2, 3, 2, 3, 3, 4, 2, 3, 3, 4, 3, 4, 4, 5, 2, 3, 3, 4, 3, 4, 4, 5, 3, 4, 4, 5, 4, 5, 5, 6, 1, 2, 2, 3, 2, 3, 3, 4, 2, 3, 3, 4, 3, 4, 4, 5, 2, 3, 3, 4, 3, 4, 4, 5, 3, 4, 4, 5, 4, 5, 5, 6, 2, 3, 3, 4, 3, 4, 4, 5, 3, 4, 4, 5, 4, 5, 5, 6, 3, 4, 4, 5, 4, 5, 5, 6, 4, 5, 5, 6, 5, 6, 6, 7, 1, 2, 2, 3, 2, 3, 3, 4, 2, 3, 3, 4, 3, 4, 4, 5, 2, 3, 3, 4, 3, 4, 4, 5, 3, 4, 4, 5, 4, 5, 5, 6, 2, 3, 3, 4, 3, 4, 4, 5, 3, 4, 4, 5, 4, 5, 5, 6, 3, 4, 4, 5, 4, 5, 5, 6, 4, 5, 5, 6, 5, 6, 6, 7, 2, 3, 3, 4, 3, 4, 4, 5, 3, 4, 4, 5, 4, 5, 5, 6, 3, 4, 4, 5, 4, 5, 5, 6, 4, 5, 5, 6, 5, 6, 6, 7, 3, 4, 4, 5, 4, 5, 5, 6, 4, 5, 5, 6, 5, 6, 6, 7, 4, 5, 5, 6, 5, 6, 6, 7, 5, 6, 6, 7, 6, 7, 7, 8] (Qn .u16 x 255)).bind fun b2 =>
  some (i64 (u8 (b + b2)))
theorem Zgw (x : Int) : Le (ZbC x) (J6 x) := by
  unfold ZbC J6
  with_reducible repeat' (first | exact Le.refl _ | apply Le.bind | intro _)

noncomputable def Zc4 (w : Int) : Option Bool :=
  (gd ((decide (w ≤ 4095)) == true) 0 (ZbC w)).bind fun y =>
  (gd ((decide (w ≤ 4095)) == true) 0 (rem y 2)).bind fun q =>
  some ((decide (w ≤ 4095)) && (decide (q = 1)))
theorem Zhq (w : Int) : Le (Zc4 w) (Za1 w) := by
  unfold Zc4 Za1
  with_reducible repeat' (first | exact Le.refl _ | apply Le.bind | apply Le.gd | apply Zgw | intro _)

noncomputable def ZcF (f : Vector Int 64) (out5 : List api_Flaw) (i2 : Int) : Option (((List api_Flaw) × Int) ⊕ ((List api_Flaw))) :=
  if (decide (i2 < 64)) = true then
  (ZI f i2).bind fun x4 =>
  (Zc4 x4).bind fun y2 =>
  if (!y2) = true then
  (app out5 ([(api_Flaw.mk i2 2)] : List api_Flaw)).bind fun l3 =>
  some (.inl (l3, (i64 (i2 + 1))))
  else
  some (.inl (out5, (i64 (i2 + 1))))
  else
  some (.inr out5)
theorem Zhl (f : Vector Int 64) (out5 : List api_Flaw) (i2 : Int) : Le (ZcF f out5 i2) (Js f out5 i2) := by
  unfold ZcF Js
  with_reducible repeat' (first | exact Le.refl _ | apply Le.bind | apply Le.ite | apply Zhq | intro _)

noncomputable def ZcK (f : Vector Int 64) (n2 : Int) (i : Int) : Option ((Int × Int) ⊕ (Int)) :=
  if (decide (i < 60)) = true then
  (ZI f (i64 (i + 1))).bind fun x =>
  (JI x).bind fun y =>
  some (.inl ((ZbY .i64 n2 y), (i64 (i + 1))))
  else
  some (.inr n2)
theorem Zhh (f : Vector Int 64) (n2 : Int) (i : Int) : Le (ZcK f n2 i) (Ji f n2 i) := by
  unfold ZcK Ji
  with_reducible repeat' (first | exact Le.refl _ | apply Le.bind | apply Le.ite | apply Zev | intro _)

noncomputable def ZeE (f : Vector Int 64) : Option Int :=
  ((QV (t2 (ZcK f)) (0, 0)) : Option ((Int))).bind (t1 fun (n : Int) =>
  some n)
theorem ZjR (f : Vector Int 64) : Le (ZeE f) (ZaO f) := by
  unfold ZeE ZaO
  with_reducible repeat' (first | exact Le.refl _ | apply Le.bind | apply Le.loop | apply Le.t1 | apply Le.t2 | apply Zhh | intro _)

noncomputable def Zbz (f : Vector Int 64) (i : Int) (n4 : Int) (k : Int) : Option ((Int × Int) ⊕ (Int)) :=
  if (decide (0 ≤ k)) = true then
  (shl .i64 n4 1).bind fun q =>
  (ZI f i).bind fun x =>
  (shr .u16 x k).bind fun q2 =>
  if (!((!decide ((Qn .i64 n4 2097152) = 0)) == (decide ((Qn .u16 q2 1) = 1)))) = true then
  some (.inl ((ZbY .i64 (Qn .i64 q 4194303) 2097167), (i64 (k - 1))))
  else
  some (.inl ((Qn .i64 q 4194303), (i64 (k - 1))))
  else
  some (.inr n4)
theorem ZgA (f : Vector Int 64) (i : Int) (n4 : Int) (k : Int) : Le (Zbz f i n4 k) (Xc f i n4 k) := by
  unfold Zbz Xc
  with_reducible repeat' (first | exact Le.refl _ | apply Le.bind | apply Le.ite | intro _)

noncomputable def Zbx (f : Vector Int 64) (n2 : Int) (i : Int) : Option ((Int × Int) ⊕ (Int)) :=
  if (decide (i < 62)) = true then
  ((QV (t2 (Zbz f i)) (n2, 11)) : Option ((Int))).bind (t1 fun (n3 : Int) =>
  some (.inl (n3, (i64 (i + 1)))))
  else
  some (.inr n2)
theorem Zgx (f : Vector Int 64) (n2 : Int) (i : Int) : Le (Zbx f n2 i) (XB f n2 i) := by
  unfold Zbx XB
  with_reducible repeat' (first | exact Le.refl _ | apply Le.bind | apply Le.ite | apply Le.loop | apply Le.t1 | apply Le.t2 | apply ZgA | intro _)

noncomputable def Zdn (f : Vector Int 64) : Option Int :=
  ((QV (t2 (Zbx f)) (0, 0)) : Option ((Int))).bind (t1 fun (n : Int) =>
  some n)
theorem ZhW (f : Vector Int 64) : Le (Zdn f) (JR f) := by
  unfold Zdn JR
  with_reducible repeat' (first | exact Le.refl _ | apply Le.bind | apply Le.loop | apply Le.t1 | apply Le.t2 | apply Zgx | intro _)

noncomputable def ZcV (f : Vector Int 64) : Option (List api_Flaw) :=
  ((QV (t2 (ZcO f)) ([], 0)) : Option (((List api_Flaw)))).bind (t1 fun (out : List api_Flaw) =>
  if (decide (0 < (out.length : Int))) = true then
  some out
  else
  (((ZI f 0).bind fun x2 =>
  (Za3 f).bind fun y =>
  (rem y 4).bind fun q =>
  (ZI gv_frame_syncs q).bind fun x3 =>
  if (!decide (x2 = x3)) = true then
  (app out ([(api_Flaw.mk 0 1)] : List api_Flaw)).bind fun l2 =>
  some l2
  else
  some out) : Option (((List api_Flaw)))).bind (t1 fun (out3 : List api_Flaw) =>
  ((QV (t2 (ZcF f)) (out3, 1)) : Option (((List api_Flaw)))).bind (t1 fun (out4 : List api_Flaw) =>
  (((ZI f 61).bind fun x5 =>
  (JI x5).bind fun y3 =>
  (ZeE f).bind fun y4 =>
  if (!decide (y3 = y4)) = true then
  (app out4 ([(api_Flaw.mk 61 3)] : List api_Flaw)).bind fun l4 =>
  some l4
  else
  some out4) : Option (((List api_Flaw)))).bind (t1 fun (out6 : List api_Flaw) =>
  (ZI f 62).bind fun x6 =>
  (JI x6).bind fun y5 =>
  (shl .i64 y5 11).bind fun q2 =>
  (ZI f 63).bind fun x7 =>
  (JI x7).bind fun y6 =>
  (Zdn f).bind fun y7 =>
  if (!decide ((bor .i64 q2 y6) = y7)) = true then
  (app out6 ([(api_Flaw.mk 62 4)] : List api_Flaw)).bind fun l5 =>
  some l5
  else
  some out6))))
theorem Zgg (f : Vector Int 64) : Le (ZcV f) (Zam f) := by
  unfold ZcV Zam
  with_reducible repeat' (first | exact Le.refl _ | apply Le.bind | apply Le.ite | apply Le.loop | apply Le.t1 | apply Le.t2 | apply ZhD | apply Zen | apply Zhl | apply Zev | apply ZjR | apply ZhW | intro _)

noncomputable def Zb4 (f : Vector Int 64) : Option (Int × Bool) :=
  (ZI f 1).bind fun x =>
  (Zc4 x).bind fun y =>
  (gd ((!y) == false) 0 (ZI f 2)).bind fun x2 =>
  (gd ((!y) == false) false (Zc4 x2)).bind fun y2 =>
  if ((!y) || (!y2)) = true then
  some (0, false)
  else
  (Za3 f).bind fun y3 =>
  some (y3, true)
theorem Zfx (f : Vector Int 64) : Le (Zb4 f) (Jc f) := by
  unfold Zb4 Jc
  with_reducible repeat' (first | exact Le.refl _ | apply Le.bind | apply Le.ite | apply Le.gd | apply Zhq | apply Zen | intro _)

noncomputable def ZbU (number : Int) (memories : Int) (copies : Int) (out2 : List Int) (i : Int) : Option (((List Int) × Int) ⊕ ((List Int))) :=
  if (decide (i < copies)) = true then
  (rem (i64 (number + i)) memories).bind fun q =>
  (apz 8 out2 ([q] : List Int)).bind fun l =>
  some (.inl (l, (i64 (i + 1))))
  else
  some (.inr out2)
theorem ZgV (number : Int) (memories : Int) (copies : Int) (out2 : List Int) (i : Int) : Le (ZbU number memories copies out2 i) (XX number memories copies out2 i) := by
  unfold ZbU XX
  with_reducible repeat' (first | exact Le.refl _ | apply Le.bind | apply Le.ite | intro _)

noncomputable def Zd5 (number : Int) (memories : Int) (copies : Int) : Option (List Int) :=
  ((QV (t2 (ZbU number memories copies)) ([], 0)) : Option (((List Int)))).bind (t1 fun (out : List Int) =>
  some out)
theorem ZiT (number : Int) (memories : Int) (copies : Int) : Le (Zd5 number memories copies) (Zap number memories copies) := by
  unfold Zd5 Zap
  with_reducible repeat' (first | exact Le.refl _ | apply Le.bind | apply Le.loop | apply Le.t1 | apply Le.t2 | apply ZgV | intro _)

noncomputable def Jt (b : ring_bank) (k : Int) : Option Bool :=
  (idx b.spots k).bind fun x =>
  (gd ((decide (x.sector < 0)) == false) (ring_spot.mk 0 0) (idx b.spots k)).bind fun x2 =>
  (gd ((decide (x.sector < 0)) == false) (api_Memory.mk 0 0 [] [] []) (idx b.memories k)).bind fun x3 =>
  some ((decide (x.sector < 0)) || (decide (x2.slot = x3.Slots)))
theorem Za8 (b : ring_bank) (k : Int) : Le (Jt b k) (QI b k) := by
  unfold Jt QI
  with_reducible repeat' (first | exact Le.refl _ | apply Le.bind | apply Le.gd | intro _)

noncomputable def Zbd (b : ring_bank) (k : Int) (x : api_Memory) (i : Int) : Option ((Int) ⊕ (Int) ⊕ (Unit)) :=
  if (decide (i < (x.Sectors.length : Int))) = true then
  (idx b.spots k).bind fun x2 =>
  (rem (i64 ((i64 (x2.sector + 1)) + i)) (x.Sectors.length : Int)).bind fun q =>
  (idx x.Bad q).bind fun x3 =>
  (gd ((!x3) == true) 0 (idx x.Wear q)).bind fun x4 =>
  if ((!x3) && (decide (x4 < x.Limit))) = true then
  some (.inr (.inl q))
  else
  some (.inl (i64 (i + 1)))
  else
  some (.inr (.inr ()))
theorem ZfK (b : ring_bank) (k : Int) (x : api_Memory) (i : Int) : Le (Zbd b k x i) (Xn b k x i) := by
  unfold Zbd Xn
  with_reducible repeat' (first | exact Le.refl _ | apply Le.bind | apply Le.ite | apply Le.gd | intro _)

noncomputable def J7 (b : ring_bank) (k : Int) : Option Int :=
  (idx b.memories k).bind fun x =>
  ((QV (t1 (Zbd b k x)) 0) : Option ((Int) ⊕ (Unit))).bind (Sum.elim (fun q' => some q') (t0 (some (-1))))
theorem ZbS (b : ring_bank) (k : Int) : Le (J7 b k) (Q6 b k) := by
  unfold J7 Q6
  with_reducible repeat' (first | exact Le.refl _ | apply Le.bind | apply Le.loop | apply Le.t0 | apply Le.t1 | apply Le.elim | apply ZfK | intro _)

noncomputable def ZaU (b : ring_bank) (l : List Int) (i : Int) : Option ((Int) ⊕ (Int) ⊕ (Unit)) :=
  if (decide (i < (l.length : Int))) = true then
  (idx l i).bind fun x =>
  (Jt b x).bind fun y =>
  (gd (y == true) 0 (J7 b x)).bind fun y2 =>
  if (y && (decide (y2 < 0))) = true then
  some (.inr (.inl 4))
  else
  some (.inl (i64 (i + 1)))
  else
  some (.inr (.inr ()))
theorem ZfJ (b : ring_bank) (l : List Int) (i : Int) : Le (ZaU b l i) (Q8 b l i) := by
  unfold ZaU Q8
  with_reducible repeat' (first | exact Le.refl _ | apply Le.bind | apply Le.ite | apply Le.gd | apply Za8 | apply ZbS | intro _)

noncomputable def Zaa (sector : Int) (x : api_Memory) (most2 : Int) (i : Int) : Option ((Int × Int) ⊕ (Int)) :=
  if (decide (i < (x.Sectors.length : Int))) = true then
  (idx x.Sectors i).bind fun x2 =>
  (ZaQ x2).bind fun y =>
  if (y.2.2 && (!decide (i = sector))) = true then
  some (.inl ((max most2 y.1), (i64 (i + 1))))
  else
  some (.inl (most2, (i64 (i + 1))))
  else
  some (.inr most2)
theorem Zew (sector : Int) (x : api_Memory) (most2 : Int) (i : Int) : Le (Zaa sector x most2 i) (QM sector x most2 i) := by
  unfold Zaa QM
  with_reducible repeat' (first | exact Le.refl _ | apply Le.bind | apply Le.ite | apply ZbP | intro _)

noncomputable def JF (b : ring_bank) (k : Int) (sector : Int) : Option Int :=
  (((idx b.memories k).bind fun x =>
  QV (t2 (Zaa sector x)) (0, 0)) : Option ((Int))).bind (t1 fun (most : Int) =>
  some (i64 (most + 1)))
theorem Zcv (b : ring_bank) (k : Int) (sector : Int) : Le (JF b k sector) (QC b k sector) := by
  unfold JF QC
  with_reducible repeat' (first | exact Le.refl _ | apply Le.bind | apply Le.loop | apply Le.t1 | apply Le.t2 | apply Zew | intro _)

noncomputable def ZaV (b : ring_bank) (l : List Int) (i2 : Int) : Option ((Int) ⊕ (Int) ⊕ (Unit)) :=
  if (decide (i2 < (l.length : Int))) = true then
  (idx l i2).bind fun x2 =>
  (Jt b x2).bind fun y3 =>
  (gd (y3 == true) 0 (J7 b x2)).bind fun y4 =>
  (gd (y3 == true) 0 (JF b x2 y4)).bind fun y5 =>
  if (y3 && (decide (1073741824 < y5))) = true then
  some (.inr (.inl 3))
  else
  some (.inl (i64 (i2 + 1)))
  else
  some (.inr (.inr ()))
theorem ZfF (b : ring_bank) (l : List Int) (i2 : Int) : Le (ZaV b l i2) (Q9 b l i2) := by
  unfold ZaV Q9
  with_reducible repeat' (first | exact Le.refl _ | apply Le.bind | apply Le.ite | apply Le.gd | apply Za8 | apply ZbS | apply Zcv | intro _)

noncomputable def Zcp (b : ring_bank) (l : List Int) : Option Int :=
  ((QV (t1 (ZaU b l)) 0) : Option ((Int) ⊕ (Unit))).bind (Sum.elim (fun q' => some q') (t0 (((QV (t1 (ZaV b l)) 0) : Option ((Int) ⊕ (Unit))).bind (Sum.elim (fun q' => some q') (t0 (some 0))))))
theorem ZgL (b : ring_bank) (l : List Int) : Le (Zcp b l) (XW b l) := by
  unfold Zcp XW
  with_reducible repeat' (first | exact Le.refl _ | apply Le.bind | apply Le.loop | apply Le.t0 | apply Le.t1 | apply Le.elim | apply ZfJ | apply ZfF | intro _)

noncomputable def Zdo (f : Vector Int 64) (i : Int) : Option ((Int) ⊕ (Bool) ⊕ (Unit)) :=
  if (decide (i < 64)) = true then
  (ZI f i).bind fun x =>
  if (decide (4095 < x)) = true then
  some (.inr (.inl true))
  else
  some (.inl (i64 (i + 1)))
  else
  some (.inr (.inr ()))
theorem Zh1 (f : Vector Int 64) (i : Int) : Le (Zdo f i) (JN f i) := by
  unfold Zdo JN
  with_reducible repeat' (first | exact Le.refl _ | apply Le.bind | apply Le.ite | intro _)

noncomputable def Zfm (f : Vector Int 64) : Option Bool :=
  ((QV (t1 (Zdo f)) 0) : Option ((Bool) ⊕ (Unit))).bind (Sum.elim (fun q' => some q') (t0 (some false)))
theorem Zj1 (f : Vector Int 64) : Le (Zfm f) (ZbA f) := by
  unfold Zfm ZbA
  with_reducible repeat' (first | exact Le.refl _ | apply Le.bind | apply Le.loop | apply Le.t0 | apply Le.t1 | apply Le.elim | apply Zh1 | intro _)

noncomputable def Zcf (p : Vector Int 96) (i : Int) (w : Int) : Option (Vector Int 96) :=
  (quo .i64 i 2).bind fun q =>
  (rem i 2).bind fun q2 =>
  if (decide (q2 = 0)) = true then
  (shr .u16 w 4).bind fun q3 =>
  (ZI p (i64 ((i64 (q * 3)) + 1))).bind fun x =>
  (ZI p (i64 (q * 3))).bind fun x2 =>
  (shl .u16 (Qn .u16 w 15) 4).bind fun q4 =>
  (ZI (XN p (i64 (q * 3)) (u8 q3)) (i64 ((i64 (q * 3)) + 1))).bind fun x3 =>
  some (XN (XN p (i64 (q * 3)) (u8 q3)) (i64 ((i64 (q * 3)) + 1)) (bor .u8 (u8 q4) (Qn .u8 x 15)))
  else
  (ZI p (i64 ((i64 (q * 3)) + 1))).bind fun x4 =>
  (shr .u16 w 8).bind fun q5 =>
  (ZI p (i64 ((i64 (q * 3)) + 1))).bind fun x5 =>
  (ZI (XN p (i64 ((i64 (q * 3)) + 1)) (bor .u8 (Qn .u8 x4 240) (u8 q5))) (i64 ((i64 (q * 3)) + 2))).bind fun x6 =>
  some (XN (XN p (i64 ((i64 (q * 3)) + 1)) (bor .u8 (Qn .u8 x4 240) (u8 q5))) (i64 ((i64 (q * 3)) + 2)) (u8 w))
theorem ZgU (p : Vector Int 96) (i : Int) (w : Int) : Le (Zcf p i w) (X8 p i w) := by
  unfold Zcf X8
  with_reducible repeat' (first | exact Le.refl _ | apply Le.bind | apply Le.ite | intro _)

noncomputable def Zdt (f : Vector Int 64) (o : Vector Int 96) (i : Int) : Option (((Vector Int 96) × Int) ⊕ ((Vector Int 96))) :=
  if (decide (i < 64)) = true then
  (ZI f i).bind fun x =>
  (Zcf o i x).bind fun y =>
  some (.inl (y, (i64 (i + 1))))
  else
  some (.inr o)
theorem Zh5 (f : Vector Int 64) (o : Vector Int 96) (i : Int) : Le (Zdt f o i) (JV f o i) := by
  unfold Zdt JV
  with_reducible repeat' (first | exact Le.refl _ | apply Le.bind | apply Le.ite | apply ZgU | intro _)

noncomputable def Ze6 (p : Vector Int 96) (f : Vector Int 64) : Option (Vector Int 96) :=
  QV (t2 (Zdt f)) (p, 0)
theorem Zj9 (p : Vector Int 96) (f : Vector Int 64) : Le (Ze6 p f) (Zcy p f) := by
  unfold Ze6 Zcy
  with_reducible repeat' (first | exact Le.refl _ | apply Le.bind | apply Le.loop | apply Le.t2 | apply Zh5 | intro _)

noncomputable def Zdl (f : Vector Int 64) : Option ((List Int) × Int) :=
  (Zfm f).bind fun y =>
  if y = true then
  some ([], 9)
  else
  (Ze6 (Vector.replicate 96 0) f).bind fun y2 =>
  (slc y2.toList 0 (96 : Int)).bind fun l =>
  some (l, 0)
theorem Zig (f : Vector Int 64) : Le (Zdl f) (JW f) := by
  unfold Zdl JW
  with_reducible repeat' (first | exact Le.refl _ | apply Le.bind | apply Le.ite | apply Zj1 | apply Zj9 | intro _)

noncomputable def ZaD (q : Int) (o2 : List Int) (i : Int) : Option (((List Int) × Int) ⊕ ((List Int))) :=
  if (decide (i < ((Int.toNat (q - 0) : Nat) : Int))) = true then
  (ck (decide ((0 : Int) ≤ i) && decide (i < ((Int.toNat (q - 0) : Nat) : Int)))).bind fun u2 =>
  (idx o2 (0 + i)).bind fun x2 =>
  some (.inl ((o2.set (0 + i).toNat 255), (i64 (i + 1))))
  else
  some (.inr o2)
theorem Zfb (q : Int) (o2 : List Int) (i : Int) : Le (ZaD q o2 i) (Qh q o2 i) := by
  unfold ZaD Qh
  with_reducible repeat' (first | exact Le.refl _ | apply Le.bind | apply Le.ite | intro _)

noncomputable def ZaC (s : List Int) (o4 : List Int) (i2 : Int) : Option (((List Int) × Int) ⊕ ((List Int))) :=
  if (decide (i2 < (s.length : Int))) = true then
  (idx o4 i2).bind fun x3 =>
  some (.inl ((o4.set i2.toNat 255), (i64 (i2 + 1))))
  else
  some (.inr o4)
theorem Zfl (s : List Int) (o4 : List Int) (i2 : Int) : Le (ZaC s o4 i2) (Qi s o4 i2) := by
  unfold ZaC Qi
  with_reducible repeat' (first | exact Le.refl _ | apply Le.bind | apply Le.ite | intro _)

noncomputable def Zby (s : List Int) (power : Int) : Option (Int × Bool × (List Int)) :=
  if (decide (power = 0)) = true then
  (quo .i64 (s.length : Int) 2).bind fun q =>
  (slp s 0 q).bind fun u =>
  ((QV (t2 (ZaD q)) (s, 0)) : Option (((List Int)))).bind (t1 fun (o : List Int) =>
  some ((max (i64 (power - 1)) 0), (decide (0 < power)), o))
  else
  ((QV (t2 (ZaC s)) (s, 0)) : Option (((List Int)))).bind (t1 fun (o3 : List Int) =>
  some ((max (i64 (power - 1)) 0), (decide (0 < power)), o3))
theorem Zgz (s : List Int) (power : Int) : Le (Zby s power) (QW s power) := by
  unfold Zby QW
  with_reducible repeat' (first | exact Le.refl _ | apply Le.bind | apply Le.ite | apply Le.loop | apply Le.t1 | apply Le.t2 | apply Zfb | apply Zfl | intro _)

noncomputable def Zbv (at_ : Int) (data : List Int) (o2 : List Int) (power3 : Int) (i : Int) : Option (((List Int) × Int × Int) ⊕ (Int × Bool × (List Int)) ⊕ ((List Int) × Int)) :=
  if (decide (i < (data.length : Int))) = true then
  (idx data i).bind fun x =>
  if (decide (power3 = 0)) = true then
  (idx o2 (i64 (at_ + i))).bind fun x2 =>
  (idx o2 (i64 (at_ + i))).bind fun x3 =>
  some (.inr (.inl (0, false, (o2.set (i64 (at_ + i)).toNat (Qn .u8 x2 (bor .u8 x 15))))))
  else
  (idx o2 (i64 (at_ + i))).bind fun x4 =>
  (idx o2 (i64 (at_ + i))).bind fun x5 =>
  some (.inl ((o2.set (i64 (at_ + i)).toNat (Qn .u8 x4 x)), (i64 (power3 - 1)), (i64 (i + 1))))
  else
  some (.inr (.inr (o2, power3)))
theorem ZgD (at_ : Int) (data : List Int) (o2 : List Int) (power3 : Int) (i : Int) : Le (Zbv at_ data o2 power3 i) (QJ at_ data o2 power3 i) := by
  unfold Zbv QJ
  with_reducible repeat' (first | exact Le.refl _ | apply Le.bind | apply Le.ite | intro _)

noncomputable def Zbs (s : List Int) (at_ : Int) (data : List Int) (power : Int) : Option (Int × Bool × (List Int)) :=
  ((QV (t3 (Zbv at_ data)) (s, power, 0)) : Option ((Int × Bool × (List Int)) ⊕ ((List Int) × Int))).bind (Sum.elim (fun q' => some q') (t2 fun (o : List Int) (power2 : Int) =>
  some (power2, true, o)))
theorem ZeP (s : List Int) (at_ : Int) (data : List Int) (power : Int) : Le (Zbs s at_ data power) (Qm s at_ data power) := by
  unfold Zbs Qm
  with_reducible repeat' (first | exact Le.refl _ | apply Le.bind | apply Le.loop | apply Le.t2 | apply Le.t3 | apply Le.elim | apply ZgD | intro _)

noncomputable def Zbe (b : ring_Recorder) (k : Int) (power : Int) : Option (Int × Bool × ring_Recorder) :=
  (idx b.bank.memories k).bind fun x =>
  (J7 b.bank k).bind fun y =>
  (JF b.bank k y).bind fun y2 =>
  (idx x.Wear y).bind fun x2 =>
  (idx x.Wear y).bind fun x3 =>
  (idx x.Sectors y).bind fun x8 =>
  (Zby x8 power).bind fun y3 =>
  if (!y3.2.1) = true then
  some (y3.1, false, (ring_Recorder.mk (ring_bank.mk ((b.bank.memories.set k.toNat (api_Memory.mk x.Slots x.Limit x.Sectors (x.Wear.set y.toNat (i64 (x2 + 1))) x.Bad)).set k.toNat (api_Memory.mk x.Slots x.Limit (x.Sectors.set y.toNat y3.2.2) (x.Wear.set y.toNat (i64 (x2 + 1))) x.Bad)) b.bank.spots) b.copies b.frozen b.stopped b.last b.some_))
  else
  (((idx ((b.bank.memories.set k.toNat (api_Memory.mk x.Slots x.Limit x.Sectors (x.Wear.set y.toNat (i64 (x2 + 1))) x.Bad)).set k.toNat (api_Memory.mk x.Slots x.Limit (x.Sectors.set y.toNat y3.2.2) (x.Wear.set y.toNat (i64 (x2 + 1))) x.Bad)) k).bind fun x14 =>
  (idx x14.Sectors y).bind fun x15 =>
  (idx x14.Sectors y).bind fun x16 =>
  (ZcX y2).bind fun y4 =>
  (Zbs x15 0 y4 y3.1).bind fun y5 =>
  if y5.2.1 = true then
  (idx b.bank.spots k).bind fun x22 =>
  some ((((b.bank.memories.set k.toNat (api_Memory.mk x.Slots x.Limit x.Sectors (x.Wear.set y.toNat (i64 (x2 + 1))) x.Bad)).set k.toNat (api_Memory.mk x.Slots x.Limit (x.Sectors.set y.toNat y3.2.2) (x.Wear.set y.toNat (i64 (x2 + 1))) x.Bad)).set k.toNat (api_Memory.mk x14.Slots x14.Limit (x14.Sectors.set y.toNat y5.2.2) x14.Wear x14.Bad)), (b.bank.spots.set k.toNat (ring_spot.mk y 0)), y5.1, y5.2.1)
  else
  some ((((b.bank.memories.set k.toNat (api_Memory.mk x.Slots x.Limit x.Sectors (x.Wear.set y.toNat (i64 (x2 + 1))) x.Bad)).set k.toNat (api_Memory.mk x.Slots x.Limit (x.Sectors.set y.toNat y3.2.2) (x.Wear.set y.toNat (i64 (x2 + 1))) x.Bad)).set k.toNat (api_Memory.mk x14.Slots x14.Limit (x14.Sectors.set y.toNat y5.2.2) x14.Wear x14.Bad)), b.bank.spots, y5.1, y5.2.1)) : Option (((List api_Memory) × (List ring_spot) × Int × Bool))).bind (t4 fun (memories : List api_Memory) (spots : List ring_spot) (power2 : Int) (all : Bool) =>
  some (power2, all, (ring_Recorder.mk (ring_bank.mk memories spots) b.copies b.frozen b.stopped b.last b.some_)))
theorem Zgf (b : ring_Recorder) (k : Int) (power : Int) : Le (Zbe b k power) (Xi b k power) := by
  unfold Zbe Xi
  with_reducible repeat' (first | exact Le.refl _ | apply Le.bind | apply Le.ite | apply Le.t4 | apply ZbS | apply Zcv | apply Zgz | apply ZfW | apply ZeP | intro _)

noncomputable def Zcc (b : ring_Recorder) (k : Int) (data : List Int) (power : Int) : Option (Int × Bool × ring_Recorder) :=
  (((Jt b.bank k).bind fun y =>
  if y = true then
  (Zbe b k power).bind fun y2 =>
  if (!y2.2.1) = true then
  some (.inl (y2.1, false, y2.2.2))
  else
  some (.inr (y2.2.2.bank.memories, y2.2.2.bank.spots, y2.2.2.copies, y2.2.2.frozen, y2.2.2.stopped, y2.2.2.last, y2.2.2.some_, y2.1))
  else
  some (.inr (b.bank.memories, b.bank.spots, b.copies, b.frozen, b.stopped, b.last, b.some_, power))) : Option ((Int × Bool × ring_Recorder) ⊕ ((List api_Memory) × (List ring_spot) × Int × Bool × Bool × Int × Bool × Int))).bind (Sum.elim (fun q' => some q') (t8 fun (memories : List api_Memory) (spots : List ring_spot) (copies : Int) (frozen : Bool) (stopped : Bool) (last : Int) (some_ : Bool) (power2 : Int) =>
  (idx spots k).bind fun x =>
  (idx memories k).bind fun x2 =>
  (idx x2.Sectors x.sector).bind fun x3 =>
  (idx memories k).bind fun x4 =>
  (idx x2.Sectors x.sector).bind fun x5 =>
  (apz 1 data ([0] : List Int)).bind fun l =>
  (Zbs x3 (i64 (16 + (i64 (x.slot * 97)))) l power2).bind fun y3 =>
  some (y3.1, y3.2.1, (ring_Recorder.mk (ring_bank.mk (memories.set k.toNat (api_Memory.mk x2.Slots x2.Limit (x2.Sectors.set x.sector.toNat y3.2.2) x2.Wear x2.Bad)) (spots.set k.toNat (ring_spot.mk x.sector (i64 (x.slot + 1))))) copies frozen stopped last some_))))
theorem ZgP (b : ring_Recorder) (k : Int) (data : List Int) (power : Int) : Le (Zcc b k data power) (XZ b k data power) := by
  unfold Zcc XZ
  with_reducible repeat' (first | exact Le.refl _ | apply Le.bind | apply Le.ite | apply Le.t8 | apply Le.elim | apply Za8 | apply Zgf | apply ZeP | intro _)

noncomputable def JB (y4 : (List Int)) (y6 : (List Int) × Int) (memories2 : List api_Memory) (spots2 : List ring_spot) (copies2 : Int) (frozen2 : Bool) (stopped2 : Bool) (last2 : Int) (some_2 : Bool) (power3 : Int) (i : Int) : Option (((List api_Memory) × (List ring_spot) × Int × Bool × Bool × Int × Bool × Int × Int) ⊕ (Int × Bool × Int × ring_Recorder) ⊕ ((List api_Memory) × (List ring_spot) × Int × Bool × Bool × Int × Bool × Int)) :=
  if (decide (i < (y4.length : Int))) = true then
  (idx y4 i).bind fun x =>
  (slc y6.1 0 (y6.1.length : Int)).bind fun l =>
  (Zcc (ring_Recorder.mk (ring_bank.mk memories2 spots2) copies2 frozen2 stopped2 last2 some_2) x l power3).bind fun y7 =>
  if (!y7.2.1) = true then
  some (.inr (.inl (y7.1, false, 0, (ring_Recorder.mk y7.2.2.bank y7.2.2.copies y7.2.2.frozen true y7.2.2.last y7.2.2.some_))))
  else
  some (.inl (y7.2.2.bank.memories, y7.2.2.bank.spots, y7.2.2.copies, y7.2.2.frozen, y7.2.2.stopped, y7.2.2.last, y7.2.2.some_, y7.1, (i64 (i + 1))))
  else
  some (.inr (.inr (memories2, spots2, copies2, frozen2, stopped2, last2, some_2, power3)))
theorem Zd9 (y4 : (List Int)) (y6 : (List Int) × Int) (memories2 : List api_Memory) (spots2 : List ring_spot) (copies2 : Int) (frozen2 : Bool) (stopped2 : Bool) (last2 : Int) (some_2 : Bool) (power3 : Int) (i : Int) : Le (JB y4 y6 memories2 spots2 copies2 frozen2 stopped2 last2 some_2 power3 i) (ZX y4 y6 memories2 spots2 copies2 frozen2 stopped2 last2 some_2 power3 i) := by
  unfold JB ZX
  with_reducible repeat' (first | exact Le.refl _ | apply Le.bind | apply Le.ite | apply ZgP | intro _)

noncomputable def Zav (r_ : ring_Recorder) (f : Vector Int 64) (power : Int) : Option (Int × Bool × Int × ring_Recorder) :=
  (ZaN r_ power).bind fun y =>
  if (!decide (y = 0)) = true then
  some (0, false, y, r_)
  else
  (ZcV f).bind fun y2 =>
  if (decide (0 < (y2.length : Int))) = true then
  some (0, false, 2, r_)
  else
  (Zb4 f).bind fun y3 =>
  (Zd5 y3.1 (r_.bank.memories.length : Int) r_.copies).bind fun y4 =>
  (Zcp r_.bank y4).bind fun y5 =>
  if (!decide (y5 = 0)) = true then
  some (0, false, y5, r_)
  else
  (Zdl f).bind fun y6 =>
  ((QV (t9 (JB y4 y6)) (r_.bank.memories, r_.bank.spots, r_.copies, r_.frozen, r_.stopped, r_.last, r_.some_, power, 0)) : Option ((Int × Bool × Int × ring_Recorder) ⊕ ((List api_Memory) × (List ring_spot) × Int × Bool × Bool × Int × Bool × Int))).bind (Sum.elim (fun q' => some q') (t8 fun (memories : List api_Memory) (spots : List ring_spot) (copies : Int) (frozen : Bool) (stopped : Bool) (last : Int) (some_ : Bool) (power2 : Int) =>
  some (power2, true, 0, (ring_Recorder.mk (ring_bank.mk memories spots) copies frozen stopped y3.1 true))))
theorem ZeK (r_ : ring_Recorder) (f : Vector Int 64) (power : Int) : Le (Zav r_ f power) (Qu r_ f power) := by
  unfold Zav Qu
  with_reducible repeat' (first | exact Le.refl _ | apply Le.bind | apply Le.ite | apply Le.loop | apply Le.t8 | apply Le.t9 | apply Le.elim | apply ZfH | apply Zgg | apply Zfx | apply ZiT | apply ZgL | apply Zig | apply Zd9 | intro _)

noncomputable def JQ (r_ : ring_Recorder) : Option (List api_Memory) :=
  (Zb6 r_.bank.memories).bind fun y =>
  some y
theorem Zeg (r_ : ring_Recorder) : Le (JQ r_) (Qw r_) := by
  unfold JQ Qw
  with_reducible repeat' (first | exact Le.refl _ | apply Le.bind | apply Zfs | intro _)

noncomputable def Zd7 (p : Vector Int 96) (i : Int) : Option Int :=
  (quo .i64 i 2).bind fun q =>
  (rem i 2).bind fun q2 =>
  if (decide (q2 = 0)) = true then
  (ZI p (i64 (q * 3))).bind fun x =>
  (shl .u16 (u16 x) 4).bind fun q3 =>
  (ZI p (i64 ((i64 (q * 3)) + 1))).bind fun x2 =>
  (shr .u16 (u16 x2) 4).bind fun q4 =>
  some (bor .u16 q3 q4)
  else
  (ZI p (i64 ((i64 (q * 3)) + 1))).bind fun x3 =>
  (shl .u16 (Qn .u16 (u16 x3) 15) 8).bind fun q5 =>
  (ZI p (i64 ((i64 (q * 3)) + 2))).bind fun x4 =>
  some (bor .u16 q5 (u16 x4))
theorem ZiM (p : Vector Int 96) (i : Int) : Le (Zd7 p i) (Zau p i) := by
  unfold Zd7 Zau
  with_reducible repeat' (first | exact Le.refl _ | apply Le.bind | apply Le.ite | intro _)

noncomputable def Zdv (p : Vector Int 96) (f2 : Vector Int 64) (i : Int) : Option (((Vector Int 64) × Int) ⊕ ((Vector Int 64))) :=
  if (decide (i < 64)) = true then
  (Zd7 p i).bind fun y =>
  (ZI f2 i).bind fun x =>
  some (.inl ((XN f2 i y), (i64 (i + 1))))
  else
  some (.inr f2)
theorem ZhS (p : Vector Int 96) (f2 : Vector Int 64) (i : Int) : Le (Zdv p f2 i) (JO p f2 i) := by
  unfold Zdv JO
  with_reducible repeat' (first | exact Le.refl _ | apply Le.bind | apply Le.ite | apply ZiM | intro _)

noncomputable def ZeZ (p : Vector Int 96) : Option (Vector Int 64) :=
  ((QV (t2 (Zdv p)) ((Vector.replicate 64 0), 0)) : Option (((Vector Int 64)))).bind (t1 fun (f : Vector Int 64) =>
  some f)
theorem ZjY (p : Vector Int 96) : Le (ZeZ p) (Zbu p) := by
  unfold ZeZ Zbu
  with_reducible repeat' (first | exact Le.refl _ | apply Le.bind | apply Le.loop | apply Le.t1 | apply Le.t2 | apply ZhS | intro _)

noncomputable def Zch (b : List Int) : Option ((Vector Int 64) × Int) :=
  if (decide ((b.length : Int) < 96)) = true then
  some ((#v[0, 0, 0, 0, 0, 0, 0, 0, 0, 0, 0, 0, 0, 0, 0, 0, 0, 0, 0, 0, 0, 0, 0, 0, 0, 0, 0, 0, 0, 0, 0, 0, 0, 0, 0, 0, 0, 0, 0, 0, 0, 0, 0, 0, 0, 0, 0, 0, 0, 0, 0, 0, 0, 0, 0, 0, 0, 0, 0, 0, 0, 0, 0, 0] : Vector Int 64), 3)
  else
  (slc b 0 96).bind fun l =>
  (tov 96 l).bind fun v =>
  (ZeZ v).bind fun y =>
  some (y, 0)
theorem ZgM (b : List Int) : Le (Zch b) (Xt b) := by
  unfold Zch Xt
  with_reducible repeat' (first | exact Le.refl _ | apply Le.bind | apply Le.ite | apply ZjY | intro _)

noncomputable def Zcb (i : Int) (x : api_Memory) (x2 : Int) (y3 : Int × Bool × Bool) (out6 : List api_Kept) (i3 : Int) : Option (((List api_Kept) × Int) ⊕ ((List api_Kept))) :=
  if (decide (i3 < x.Slots)) = true then
  (idx x.Sectors x2).bind fun x4 =>
  (ZcW x4 i3).bind fun y4 =>
  (Zcd y4).bind fun y5 =>
  if (decide (y5 = 1)) = true then
  (slc y4.toList 0 (97 : Int)).bind fun l2 =>
  (Zch l2).bind fun y6 =>
  (apz 160 out6 ([(api_Kept.mk i x2 y3.1 i3 y6.1)] : List api_Kept)).bind fun l3 =>
  some (.inl (l3, (i64 (i3 + 1))))
  else
  some (.inl (out6, (i64 (i3 + 1))))
  else
  some (.inr out6)
theorem ZgS (i : Int) (x : api_Memory) (x2 : Int) (y3 : Int × Bool × Bool) (out6 : List api_Kept) (i3 : Int) : Le (Zcb i x x2 y3 out6 i3) (X7 i x x2 y3 out6 i3) := by
  unfold Zcb X7
  with_reducible repeat' (first | exact Le.refl _ | apply Le.bind | apply Le.ite | apply ZfT | apply Zfw | apply ZgM | intro _)

noncomputable def ZbT (i : Int) (x : api_Memory) (y2 : (List Int)) (out4 : List api_Kept) (i2 : Int) : Option (((List api_Kept) × Int) ⊕ ((List api_Kept))) :=
  if (decide (i2 < (y2.length : Int))) = true then
  (((idx y2 i2).bind fun x2 =>
  (idx x.Sectors x2).bind fun x3 =>
  (ZaQ x3).bind fun y3 =>
  QV (t2 (Zcb i x x2 y3)) (out4, 0)) : Option (((List api_Kept)))).bind (t1 fun (out5 : List api_Kept) =>
  some (.inl (out5, (i64 (i2 + 1)))))
  else
  some (.inr out4)
theorem Zg1 (i : Int) (x : api_Memory) (y2 : (List Int)) (out4 : List api_Kept) (i2 : Int) : Le (ZbT i x y2 out4 i2) (X0 i x y2 out4 i2) := by
  unfold ZbT X0
  with_reducible repeat' (first | exact Le.refl _ | apply Le.bind | apply Le.ite | apply Le.loop | apply Le.t1 | apply Le.t2 | apply ZbP | apply ZgS | intro _)

noncomputable def Zca (l : List api_Memory) (out2 : List api_Kept) (i : Int) : Option (((List api_Kept) × Int) ⊕ ((List api_Kept))) :=
  if (decide (i < (l.length : Int))) = true then
  (((idx l i).bind fun x =>
  (Zci x).bind fun y2 =>
  QV (t2 (ZbT i x y2)) (out2, 0)) : Option (((List api_Kept)))).bind (t1 fun (out3 : List api_Kept) =>
  some (.inl (out3, (i64 (i + 1)))))
  else
  some (.inr out2)
theorem ZgK (l : List api_Memory) (out2 : List api_Kept) (i : Int) : Le (Zca l out2 i) (X4 l out2 i) := by
  unfold Zca X4
  with_reducible repeat' (first | exact Le.refl _ | apply Le.bind | apply Le.ite | apply Le.loop | apply Le.t1 | apply Le.t2 | apply ZfD | apply Zg1 | intro _)

noncomputable def ZdW (l : List api_Memory) : Option ((List api_Kept) × Int) :=
  (Zbt l).bind fun y =>
  if (!decide (y = 0)) = true then
  some ([], y)
  else
  ((QV (t2 (Zca l)) ([], 0)) : Option (((List api_Kept)))).bind (t1 fun (out : List api_Kept) =>
  some (out, 0))
theorem ZiL (l : List api_Memory) : Le (ZdW l) (Jf l) := by
  unfold ZdW Jf
  with_reducible repeat' (first | exact Le.refl _ | apply Le.bind | apply Le.ite | apply Le.loop | apply Le.t1 | apply Le.t2 | apply ZeM | apply ZgK | intro _)

noncomputable def ZcD (y : (List api_Kept) × Int) (best2 : List (Int × api_Kept)) (numbers2 : List Int) (i : Int) : Option (((List (Int × api_Kept)) × (List Int) × Int) ⊕ ((List (Int × api_Kept)) × (List Int))) :=
  if (decide (i < (y.1.length : Int))) = true then
  (idx y.1 i).bind fun x =>
  (ZcV x.Frame).bind fun y2 =>
  if (decide (0 < (y2.length : Int))) = true then
  some (.inl (best2, numbers2, (i64 (i + 1))))
  else
  (Zb4 x.Frame).bind fun y3 =>
  (some (mget kqI best2 y3.1)).bind fun o =>
  ((if (!o.isSome) = true then
  (apz 8 numbers2 ([y3.1] : List Int)).bind fun l2 =>
  some l2
  else
  some numbers2) : Option (((List Int)))).bind (t1 fun (numbers3 : List Int) =>
  if ((!o.isSome) || (decide (((o.getD (api_Kept.mk 0 0 0 0 (Vector.replicate 64 0))).Sequence) < x.Sequence))) = true then
  some (.inl ((Zlh kqI best2 y3.1 x), numbers3, (i64 (i + 1))))
  else
  some (.inl (best2, numbers3, (i64 (i + 1)))))
  else
  some (.inr (best2, numbers2))
theorem ZhJ (y : (List api_Kept) × Int) (best2 : List (Int × api_Kept)) (numbers2 : List Int) (i : Int) : Le (ZcD y best2 numbers2 i) (Zb3 y best2 numbers2 i) := by
  unfold ZcD Zb3
  with_reducible repeat' (first | exact Le.refl _ | apply Le.bind | apply Le.ite | apply Le.t1 | apply Zgg | apply Zfx | intro _)

noncomputable def ZcJ (best : List (Int × api_Kept)) (y4 : List Int) (out2 : List (Vector Int 64)) (i2 : Int) : Option (((List (Vector Int 64)) × Int) ⊕ ((List (Vector Int 64)))) :=
  if (decide (i2 < (y4.length : Int))) = true then
  (idx y4 i2).bind fun x2 =>
  (some ((mget kqI best x2).getD (api_Kept.mk 0 0 0 0 (Vector.replicate 64 0)))).bind fun o2 =>
  (apz 128 out2 ([o2.Frame] : List (Vector Int 64))).bind fun l3 =>
  some (.inl (l3, (i64 (i2 + 1))))
  else
  some (.inr out2)
theorem ZhE (best : List (Int × api_Kept)) (y4 : List Int) (out2 : List (Vector Int 64)) (i2 : Int) : Le (ZcJ best y4 out2 i2) (Zco best y4 out2 i2) := by
  unfold ZcJ Zco
  with_reducible repeat' (first | exact Le.refl _ | apply Le.bind | apply Le.ite | intro _)

noncomputable def Zey (l : List api_Memory) : Option ((List (Vector Int 64)) × Int) :=
  (ZdW l).bind fun y =>
  if (!decide (y.2 = 0)) = true then
  some ([], y.2)
  else
  ((QV (t3 (ZcD y)) (([] : List (Int × api_Kept)), [], 0)) : Option (((List (Int × api_Kept)) × (List Int)))).bind (t2 fun (best : List (Int × api_Kept)) (numbers : List Int) =>
  (ZpE numbers).bind fun y4 =>
  ((QV (t2 (ZcJ best y4)) ([], 0)) : Option (((List (Vector Int 64))))).bind (t1 fun (out : List (Vector Int 64)) =>
  some (out, 0)))
theorem Zjm (l : List api_Memory) : Le (Zey l) (Zdg l) := by
  unfold Zey Zdg
  with_reducible repeat' (first | exact Le.refl _ | apply Le.bind | apply Le.ite | apply Le.loop | apply Le.t1 | apply Le.t2 | apply Le.t3 | apply ZiL | apply ZhJ | apply ZhE | apply ZnX | intro _)

noncomputable def ZfP : Option Bool :=
  (mkz 8 58 0).bind fun l =>
  (Zg0 4 l).bind fun y =>
  (ZcI 2 1 3).bind fun y2 =>
  if (!decide (y2.2 = 0)) = true then
  some false
  else
  (Ze8 ([y2.1] : List api_Memory) 1).bind (Sum.elim (fun y3 =>
  if (!decide (y3 = 0)) = true then
  some false
  else
  none) (fun y3 =>
  if (!decide (y3.2 = 0)) = true then
  some false
  else
  (Zav y3.1 y.1 109).bind fun y4 =>
  (JQ y4.2.2.2).bind fun y5 =>
  (Zey y5).bind fun y6 =>
  (gd ((((((decide (y4.1 = 1)) && y4.2.1) && (decide (y4.2.2.1 = 0))) && (decide (y6.2 = 0))) && (decide ((y6.1.length : Int) = 1))) == true) (Vector.replicate 64 0) (idx y6.1 0)).bind fun x =>
  some ((((((decide (y4.1 = 1)) && y4.2.1) && (decide (y4.2.2.1 = 0))) && (decide (y6.2 = 0))) && (decide ((y6.1.length : Int) = 1))) && (decide (x = y.1)))))
theorem ZkS : Le (ZfP ) (ZbK ) := by
  unfold ZfP ZbK
  with_reducible repeat' (first | exact Le.refl _ | apply Le.bind | apply Le.ite | apply Le.gd | apply Le.elim | apply ZlL | apply Zhm | apply ZjZ | apply ZeK | apply Zeg | apply Zjm | intro _)
end Go.Vx

namespace Go.Vx
open Go Go.RowKit
theorem Zqo : ZfP = some true := by decide +kernel
theorem Zox : ZbK = some true := ZkS true Zqo
end Go.Vx

namespace Go.Vx
open Go Go.RowKit
theorem Zd3 {α : Type} {s : Nat} {xs ys : List α} (h : xs.length + ys.length ≤ 140737488355328 / s) : apz s xs ys = some (xs ++ ys) := by unfold apz; rw [if_pos h]
theorem ixr {n k x : Nat} (h : (List.range n)[k]? = some x) : x = k ∧ k < n := by
  have hl := (List.getElem?_eq_some_iff.1 h).1
  rw [List.length_range] at hl
  rw [List.getElem?_range hl] at h
  cases h; exact ⟨rfl, hl⟩
theorem Zod {β : Type} {n : Nat} {body : List β → Int → Option ((List β × Int) ⊕ List β)} (g : Nat → β)
    (hstep : ∀ (k : Nat) acc, k < n → acc.length = k → body acc k = some (.inl (acc ++ [g k], (k : Int) + 1)))
    (hend : ∀ acc, body acc n = some (.inr acc)) : loop (t2 body) ([], 0) = some ((List.range n).map g) :=
  Zor g (fun k x acc hx ha => by obtain ⟨rfl, h⟩ := ixr hx; exact hstep _ acc h ha) (fun acc => by rw [List.length_range]; exact hend acc)
theorem Zo2 {α : Type} [DecidableEq α] {a b : List α} {body : Int → Option (Int ⊕ (Bool ⊕ Unit))} (hl : a.length = b.length)
    (h : ∀ (k : Nat) x y, a[k]? = some x → b[k]? = some y → body k = if x = y then some (.inl ((k : Int) + 1)) else some (.inr (.inl false)))
    (hend : body a.length = some (.inr (.inr ()))) : loop (t1 body) 0 = some (if a = b then .inr () else .inl false) := by
  refine (ZjP (xs := a) (fun k => if a.drop k = b.drop k then (.inr () : Bool ⊕ Unit) else .inl false) (fun k x hx => ?_) ?_).trans (by simp)
  · have hk := (List.getElem?_eq_some_iff.1 hx).1
    obtain ⟨y, hy⟩ := ZaW (xs := b) (k := k) (by omega)
    rw [h k x y hx hy, ZcG hx, ZcG hy]
    by_cases e : x = y
    · left; subst e; refine ⟨by rw [if_pos rfl], ?_⟩
      simp
    · right; rw [if_neg e, if_neg (by simp [e])]
  · rw [hend, if_pos (by rw [List.drop_length, hl, List.drop_length])]
theorem eqY {a b : List Int} (ha : a.length ≤ 9223372036854775807) : Qy a b = some (decide (a = b)) := by
  unfold Qy
  by_cases hl : a.length = b.length
  · rw [if_neg (by simp [hl]), Zo2 (a := a) (b := b) hl (fun k x y hx hy => ?_) (by simp [Qv])]
    · by_cases e : a = b <;> simp [e]
    · have hlt := ZpQ hx
      simp only [Qv, hlt, decide_true, if_true, Zz hx, Zz hy, Option.bind_some]
      rw [show i64 ((k : Int) + 1) = (k : Int) + 1 from Zl (by omega) (by omega)]
      by_cases e : x = y <;> simp [e]
  · rw [if_pos (by simpa using fun e => hl (by omega))]
    rw [decide_eq_false (fun e => hl (by rw [e]))]
theorem ZrH {number memories copies : Int} (h1 : 0 ≤ number ∧ number ≤ 4194303) (h2 : 1 ≤ memories ∧ memories ≤ 8) (h3 : 1 ≤ copies ∧ copies ≤ memories) :
    loop (t2 (XX number memories copies)) ([], 0) = some ((List.range copies.toNat).map fun (k : Nat) => (number + (k : Int)).tmod memories) := by
  refine Zod (fun (k : Nat) => (number + (k : Int)).tmod memories) (fun k acc hk ha => ?_) (fun acc => ?_)
  · unfold XX
    rw [if_pos (by simp; omega), show i64 (number + (k : Int)) = number + k from Zl (by omega) (by omega), show i64 ((k : Int) + 1) = (k : Int) + 1 from Zl (by omega) (by omega)]
    unfold rem
    rw [if_neg (by omega), Option.bind_some, Zd3 (by simp; omega)]; rfl
  · unfold XX
    rw [if_neg (by simp; omega)]
end Go.Vx

namespace Go.Vx
open Go Go.RowKit
end Go.Vx

namespace Go.Vx
open Go Go.RowKit
def Zac (s : List Int) (a : Nat) : List Int → Int → Int × Bool × List Int
  | [], p => (p, true, s)
  | b :: tl, p => if p = 0 then (0, false, s.set a (Qn .u8 (s.getD a 0) (bor .u8 b 15))) else Zac (s.set a (Qn .u8 (s.getD a 0) b)) (a + 1) tl (p - 1)
theorem Zhz : ∀ (d : List Int) (s : List Int) (a : Nat) (p : Int), (Zac s a d p).2.2.length = s.length
  | [], s, a, p => rfl
  | b :: tl, s, a, p => by
    unfold Zac
    split
    · simp
    · rw [Zhz tl]; simp
theorem ZfL : ∀ (d : List Int) (s : List Int) (a : Nat) (p : Int), 0 ≤ p → 0 ≤ (Zac s a d p).1 ∧ (Zac s a d p).1 ≤ p
  | [], s, a, p, h => ⟨h, Int.le_refl _⟩
  | b :: tl, s, a, p, h => by
    unfold Zac
    split
    · exact ⟨Int.le_refl _, h⟩
    · have := ZfL tl (s.set a (Qn .u8 (s.getD a 0) b)) (a + 1) (p - 1) (by omega)
      omega
def Zqy (r : Int × Bool × List Int) : (Int × Bool × List Int) ⊕ (List Int × Int) := if r.2.1 = true then .inr (r.2.2, r.1) else .inl r
theorem Xs {α : Type} {s : List α} {k : Nat} (h : k < s.length) (d : α) : s[k]? = some (s.getD k d) := by
  rw [List.getD_eq_getElem?_getD, List.getElem?_eq_getElem h]; rfl
theorem Zl8 {s d : List Int} {a : Nat} {p : Int} (hs : s.length ≤ 140737488355328) (ha : a + d.length ≤ s.length) (hp : 0 ≤ p ∧ p ≤ 1000000000) : Qm s (a : Int) d p = some (Zac s a d p) := by
  have key : loop (t3 (QJ (a : Int) d)) (s, p, 0) = some (Zqy (Zac s a d p)) := by
    refine (ZeY (body := t3 (QJ (a : Int) d)) (fun q => ∃ k : Nat, q.2.2 = k ∧ k ≤ d.length ∧ q.1.length = s.length ∧ 0 ≤ q.2.1 ∧ q.2.1 ≤ 1000000000) (fun q => d.length - q.2.2.toNat)
      (fun q => Zqy (Zac q.1 (a + q.2.2.toNat) (d.drop q.2.2.toNat) q.2.1)) ?_ (s, p, 0) ⟨0, rfl, Nat.zero_le _, rfl, hp⟩).trans (by simp)
    rintro ⟨o, p, i⟩ ⟨k, hi, hk, hl, hp0, hp1⟩
    simp only at hi hl hp0 hp1
    subst hi
    simp only [Zdd, Int.toNat_natCast]
    unfold QJ
    rcases Nat.lt_or_ge k d.length with h | h
    · obtain ⟨b, hb⟩ := ZaW h
      rw [if_pos (by simpa using h), Zz hb, Option.bind_some, ZcG hb]
      have e1 : i64 ((a : Int) + (k : Int)) = ((a + k : Nat) : Int) := (Zl (by omega) (by omega)).trans (by push_cast; rfl)
      have hx : o[a + k]? = some (o.getD (a + k) 0) := Xs (by omega) 0
      rw [e1]
      simp only [Zz hx, Option.bind_some, Int.toNat_natCast]
      by_cases h0 : p = 0
      · right
        rw [if_pos (by simpa using h0)]
        subst h0
        rfl
      · left
        rw [if_neg (by simpa using h0)]
        rw [show i64 (p - 1) = p - 1 from Zl (by omega) (by omega), show i64 ((k : Int) + 1) = ((k + 1 : Nat) : Int) from (Zl (by omega) (by omega)).trans (by push_cast; rfl)]
        refine ⟨_, rfl, ⟨k + 1, rfl, h, by simp [hl], by simp only; omega, by simp only; omega⟩, by simp only [Int.toNat_natCast]; omega, ?_⟩
        simp only [Int.toNat_natCast]
        rw [Zac, if_neg h0]; rfl
    · right
      rw [if_neg (by simpa using h), List.drop_of_length_le h]; rfl
  unfold Qm
  rw [key, Option.bind_some]
  unfold Zqy
  split
  · rename_i h
    simp only [Sum.elim_inr, QU]
    congr 1
    generalize Zac s a d p = q at h
    obtain ⟨x, y, z⟩ := q
    simp only at h
    subst h; rfl
  · simp only [Sum.elim_inl]
theorem Zqs (w : Nat) (X : BitVec w) : BitVec.ofInt w (X.toNat : Int) = X := by
  apply BitVec.eq_of_toNat_eq; simp [BitVec.toNat_ofInt]
theorem ZpM (X : BitVec 8) : IntKind.u8.wrap (X.toNat : Int) = (X.toNat : Int) := by
  have h := X.isLt
  have : ∀ n : Nat, n < 256 → IntKind.u8.wrap (n : Int) = (n : Int) := by
    intro n hn
    show ((n : Int) % 256) = n
    omega
  exact this _ h
theorem ZpJ (a b : Int) : Qn .u8 a b = ((BitVec.ofInt 8 a &&& BitVec.ofInt 8 b).toNat : Int) := ZpM _
theorem Zom (a b : Int) : ZlM .u8 a b = ((BitVec.ofInt 8 a &&& ~~~ BitVec.ofInt 8 b).toNat : Int) := ZpM _
theorem Zmc (a : Int) : ZlM .u8 a a = 0 := by
  rw [Zom]; simp
theorem ZlR {x y b : Int} (h : ZlM .u8 x y = 0) : ZlM .u8 (Qn .u8 x b) y = 0 := by
  rw [Zom] at h ⊢
  rw [ZpJ, Zqs]
  have h' : (BitVec.ofInt 8 x &&& ~~~ BitVec.ofInt 8 y) = 0#8 := by
    apply BitVec.eq_of_toNat_eq; simpa using h
  have : (BitVec.ofInt 8 x &&& BitVec.ofInt 8 b) &&& ~~~ BitVec.ofInt 8 y = (BitVec.ofInt 8 x &&& ~~~ BitVec.ofInt 8 y) &&& BitVec.ofInt 8 b := by
    rw [BitVec.and_assoc, BitVec.and_comm (BitVec.ofInt 8 b), ← BitVec.and_assoc]
  rw [this, h']; simp
def SubB (t s : List Int) : Prop := ∀ (k : Nat) x y, t[k]? = some x → s[k]? = some y → ZlM .u8 x y = 0
theorem SubB.refl (s : List Int) : SubB s s := fun k x y hx hy => by rw [hx] at hy; cases hy; exact Zmc x
theorem SubB.set {t s : List Int} (h : SubB t s) (a : Nat) (b : Int) : SubB (t.set a (Qn .u8 (t.getD a 0) b)) s := by
  intro k x y hx hy
  rw [List.getElem?_set] at hx
  split at hx
  · rename_i e
    subst e
    split at hx
    · rename_i hl
      cases hx
      exact ZlR (h a _ y (Xs hl 0) hy)
    · cases hx
  · exact h k x y hx hy
end Go.Vx

namespace Go.Vx
open Go Go.RowKit
section
variable {σ ρ : Type} {body : σ → Option (σ ⊕ ρ)} {s s' : σ} {r : ρ}
theorem XG (h : body s = some (.inl s')) (k : loop body s' = some r) : loop body s = some r := by
  obtain ⟨n, hn⟩ := ZcH k
  exact Zfr (n := n + 1) (by simp only [ZaL, h, Option.bind_some]; exact hn)
theorem ZeO (h : body s = some (.inr r)) : loop body s = some r := Zfr (n := 1) (by simp only [ZaL, h, Option.bind_some]; rfl)
end
def u8R (l : List Int) : Prop := ∀ x ∈ l, 0 ≤ x ∧ x ≤ 255
theorem Zqj {l : List Int} (h : u8R l) {k : Nat} {x : Int} (hx : l[k]? = some x) : 0 ≤ x ∧ x ≤ 255 := h x (List.mem_of_getElem? hx)
theorem Zcw {l : List Int} (h : u8R l) (k : Nat) : 0 ≤ l.getD k 0 ∧ l.getD k 0 ≤ 255 := by
  by_cases hk : k < l.length
  · exact Zqj h (Xs hk 0)
  · rw [List.getD_eq_getElem?_getD, List.getElem?_eq_none (by omega)]; decide
theorem ZpX {a b s : Nat} (hb : b < 2 ^ s) (h : a * 2 ^ s + b < 2 ^ 62) : bor .i64 ((a * 2 ^ s : Nat) : Int) (b : Int) = ((a * 2 ^ s + b : Nat) : Int) := by
  unfold bor
  have e : (BitVec.ofInt IntKind.i64.bits ((a * 2 ^ s : Nat) : Int) ||| BitVec.ofInt IntKind.i64.bits (b : Int)).toNat = a * 2 ^ s + b := by
    have h1 : ∀ n : Nat, BitVec.ofInt IntKind.i64.bits (n : Int) = BitVec.ofNat 64 n := fun n => BitVec.ofInt_natCast ..
    rw [h1, h1]
    show (BitVec.ofNat 64 (a * 2 ^ s) ||| BitVec.ofNat 64 b).toNat = _
    rw [BitVec.toNat_or, BitVec.toNat_ofNat, BitVec.toNat_ofNat, Nat.mod_eq_of_lt (by omega), Nat.mod_eq_of_lt (by omega), ← Nat.shiftLeft_eq, ← Nat.shiftLeft_add_eq_or_of_lt hb]
  rw [e]
  exact Zl (by omega) (by omega)
def Zle (a b c d : Int) : Int := a * 16777216 + b * 65536 + c * 256 + d
theorem ZpW {n j : Nat} (h1 : n ≤ 255) (h2 : j ≤ 24) : shl .i64 (n : Int) (j : Int) = some ((n * 2 ^ j : Nat) : Int) := by
  unfold shl
  rw [if_neg (by omega)]
  have e1 : min (Int.toNat (j : Int)) IntKind.i64.bits = j := by
    show min (Int.toNat (j : Int)) 64 = j
    simp; omega
  have e2 : (2 : Nat) ^ j ≤ 2 ^ 24 := Nat.pow_le_pow_right (by omega) h2
  have e3 : n * 2 ^ j ≤ 255 * 2 ^ 24 := Nat.mul_le_mul h1 e2
  rw [e1]
  have e4 : ((n : Int) * 2 ^ j) = ((n * 2 ^ j : Nat) : Int) := by push_cast; rfl
  rw [e4, Zl (by omega) (by omega)]
theorem ZqT {m n : Nat} (h : m = n) : (m : Int) = (n : Int) := congrArg _ h
theorem Zp1 {a b c d : Int} (ha : 0 ≤ a ∧ a ≤ 255) (hb : 0 ≤ b ∧ b ≤ 255) (hc : 0 ≤ c ∧ c ≤ 255) (hd : 0 ≤ d ∧ d ≤ 255) :
    ∃ q q2 q3, shl .i64 (i64 a) 24 = some q ∧ shl .i64 (i64 b) 16 = some q2 ∧ shl .i64 (i64 c) 8 = some q3 ∧ bor .i64 (bor .i64 (bor .i64 q q2) q3) (i64 d) = Zle a b c d := by
  obtain ⟨a, rfl⟩ := Int.eq_ofNat_of_zero_le ha.1
  obtain ⟨b, rfl⟩ := Int.eq_ofNat_of_zero_le hb.1
  obtain ⟨c, rfl⟩ := Int.eq_ofNat_of_zero_le hc.1
  obtain ⟨d, rfl⟩ := Int.eq_ofNat_of_zero_le hd.1
  have e : ∀ n : Nat, n ≤ 255 → i64 (n : Int) = n := fun n h => Zl (by omega) (by omega)
  rw [e a (by omega), e b (by omega), e c (by omega), e d (by omega)]
  refine ⟨_, _, _, ZpW (j := 24) (by omega) (by omega), ZpW (j := 16) (by omega) (by omega), ZpW (j := 8) (by omega) (by omega), ?_⟩
  have b1 : bor .i64 ((a * 2 ^ 24 : Nat) : Int) ((b * 2 ^ 16 : Nat) : Int) = (((a * 2 ^ 8 + b) * 2 ^ 16 : Nat) : Int) :=
    (ZpX (s := 24) (by omega) (by omega)).trans (ZqT (by omega))
  have b2 : bor .i64 (((a * 2 ^ 8 + b) * 2 ^ 16 : Nat) : Int) ((c * 2 ^ 8 : Nat) : Int) = ((((a * 2 ^ 8 + b) * 2 ^ 8 + c) * 2 ^ 8 : Nat) : Int) :=
    (ZpX (s := 16) (by omega) (by omega)).trans (ZqT (by omega))
  rw [b1, b2]
  refine (ZpX (s := 8) (by omega) (by omega)).trans ?_
  unfold Zle; omega
def hdL (n : Int) : List Int := [79, 66, n / 16777216 % 256, n / 65536 % 256, n / 256 % 256, n % 256, 255 - n / 16777216 % 256, 255 - n / 65536 % 256, 255 - n / 256 % 256, 255 - n % 256]
theorem Zqd (n : Int) : u8R (hdL n) := by
  intro x hx
  simp only [hdL, List.mem_cons, List.not_mem_nil, or_false] at hx
  rcases hx with h | h | h | h | h | h | h | h | h | h <;> omega
theorem Zpp {k : IntKind} {n : Int} {j : Nat} (h : j ≤ k.bits) : shr k n (j : Int) = some (n / (2 : Int) ^ j) := by
  unfold shr
  rw [if_neg (by omega)]
  have e1 : min (Int.toNat (j : Int)) k.bits = j := by simp; omega
  rw [e1, Int.fdiv_eq_ediv_of_nonneg _ (Int.pow_nonneg (by decide))]
theorem u8m (z : Int) : u8 z = z % 256 := rfl
theorem ZlA {n : Int} (h : 1 ≤ n ∧ n ≤ 1073741824) : Zal n = some (hdL n) := by
  have st : ∀ (o : List Int) (j : Nat), j ≤ 24 → o.length ≤ 10 → Xk n o (j : Int) = some (.inl (o ++ [n / (2 : Int) ^ j % 256], (j : Int) - 8)) := by
    intro o j hj ho
    unfold Xk
    rw [if_pos (by simp), Zpp (by show j ≤ 64; omega), Option.bind_some, Zd3 (by simp; omega), Option.bind_some, show i64 ((j : Int) - 8) = (j : Int) - 8 from Zl (by omega) (by omega), u8m]
  have h1 : loop (t2 (Xk n)) ([79, 66], 24) = some [79, 66, n / 16777216 % 256, n / 65536 % 256, n / 256 % 256, n % 256] := by
    refine XG (st [79, 66] 24 (by omega) (by simp)) ?_
    refine XG (st _ 16 (by omega) (by simp)) ?_
    refine XG (st _ 8 (by omega) (by simp)) ?_
    refine XG (st _ 0 (by omega) (by simp)) ?_
    refine ZeO ?_
    show Xk n _ (((0 : Nat) : Int) - 8) = _
    unfold Xk
    rw [if_neg (by decide)]
    simp
  have bx : ∀ x : Int, 0 ≤ x → x ≤ 255 → ZbY .u8 255 x = 255 - x := by
    have key : (List.range 256).all (fun n => decide (ZbY .u8 255 (n : Int) = 255 - (n : Int))) = true := by decide +kernel
    intro x h0 h1
    obtain ⟨m, rfl⟩ := Int.eq_ofNat_of_zero_le h0
    exact of_decide_eq_true (List.all_eq_true.1 key m (List.mem_range.2 (by omega)))
  unfold Zal
  rw [h1]
  simp only [Option.bind_some, Xl]
  rw [show slp [79, 66, n / 16777216 % 256, n / 65536 % 256, n / 256 % 256, n % 256] 2 6 = some () from rfl, Option.bind_some]
  have st2 : ∀ (o : List Int) (j : Nat) (x : Int), j < 4 → o.length ≤ 10 → idx [79, 66, n / 16777216 % 256, n / 65536 % 256, n / 256 % 256, n % 256] (2 + (j : Int)) = some x → 0 ≤ x → x ≤ 255 →
      Xq [79, 66, n / 16777216 % 256, n / 65536 % 256, n / 256 % 256, n % 256] o (j : Int) = some (.inl (o ++ [255 - x], (j : Int) + 1)) := by
    intro o j x hj ho hx h0 h1
    unfold Xq
    have e4 : (decide ((j : Int) < ((Int.toNat (6 - 2) : Nat) : Int))) = true := by simp; omega
    have e5 : (decide ((0 : Int) ≤ (j : Int))) = true := by simp
    rw [if_pos e4, e4, e5]
    simp only [Bool.and_self, ck, if_true, Option.bind_some, hx]
    rw [Zd3 (by simp; omega), Option.bind_some, show i64 ((j : Int) + 1) = (j : Int) + 1 from Zl (by omega) (by omega), bx x h0 h1]
  have h2 : loop (t2 (Xq [79, 66, n / 16777216 % 256, n / 65536 % 256, n / 256 % 256, n % 256])) ([79, 66, n / 16777216 % 256, n / 65536 % 256, n / 256 % 256, n % 256], 0) = some (hdL n) := by
    refine XG (st2 _ 0 (n / 16777216 % 256) (by omega) (by simp) rfl (by omega) (by omega)) ?_
    refine XG (st2 _ 1 (n / 65536 % 256) (by omega) (by simp) rfl (by omega) (by omega)) ?_
    refine XG (st2 _ 2 (n / 256 % 256) (by omega) (by simp) rfl (by omega) (by omega)) ?_
    refine XG (st2 _ 3 (n % 256) (by omega) (by simp) rfl (by omega) (by omega)) ?_
    refine ZeO ?_
    show Xq _ _ (((3 : Nat) : Int) + 1) = _
    unfold Xq
    rw [if_neg (by decide)]
    rfl
  rw [h2]; rfl
theorem Zq7 {n : Nat} (h : n < 4294967296) : ZbY .u32 4294967295 (n : Int) = 4294967295 - (n : Int) := by
  unfold ZbY
  have e : (BitVec.ofInt IntKind.u32.bits 4294967295 ^^^ BitVec.ofInt IntKind.u32.bits (n : Int)).toNat = 4294967295 - n := by
    have h1 : BitVec.ofInt IntKind.u32.bits (n : Int) = BitVec.ofNat 32 n := BitVec.ofInt_natCast ..
    have h2 : BitVec.ofInt IntKind.u32.bits 4294967295 = BitVec.allOnes 32 := by
      show BitVec.ofInt 32 4294967295 = BitVec.allOnes 32
      decide
    rw [h1, h2]
    show (BitVec.allOnes 32 ^^^ BitVec.ofNat 32 n).toNat = _
    rw [BitVec.allOnes_xor, BitVec.toNat_not, BitVec.toNat_ofNat, Nat.mod_eq_of_lt (by omega)]
    try omega
  rw [e]
  have w : ∀ z : Int, 0 ≤ z → z < 4294967296 → IntKind.u32.wrap z = z := fun z h0 h1 => by
    show z % 4294967296 = z
    omega
  rw [w _ (by omega) (by omega)]; omega
theorem Zoo {n : Int} (h : 1 ≤ n ∧ n ≤ 1073741824) : Zgc n = some (hdL n) := by
  have eu : u32 n = n := by
    show n % 4294967296 = n
    omega
  have ex : ZbY .u32 4294967295 (u32 n) = 4294967295 - n := by
    rw [eu]
    obtain ⟨m, rfl⟩ := Int.eq_ofNat_of_zero_le (show 0 ≤ n by omega)
    exact Zq7 (by omega)
  have st : ∀ (x : Int) (o : List Int) (j : Nat), j ≤ 24 → o.length ≤ 10 → JZ x o (j : Int) = some (.inl (o ++ [x / (2 : Int) ^ j % 256], (j : Int) - 8)) := by
    intro x o j hj ho
    unfold JZ
    rw [if_pos (by simp), Zpp (by show j ≤ 32; omega), Option.bind_some, Zd3 (by simp; omega), Option.bind_some, show i64 ((j : Int) - 8) = (j : Int) - 8 from Zl (by omega) (by omega), u8m]
  have lp : ∀ (x : Int) (o : List Int), o.length ≤ 6 → loop (t2 (JZ x)) (o, 24) = some (o ++ [x / 16777216 % 256, x / 65536 % 256, x / 256 % 256, x % 256]) := by
    intro x o ho
    refine XG (st x o 24 (by omega) (by omega)) ?_
    refine XG (st x _ 16 (by omega) (by simp; omega)) ?_
    refine XG (st x _ 8 (by omega) (by simp; omega)) ?_
    refine XG (st x _ 0 (by omega) (by simp; omega)) ?_
    refine ZeO ?_
    show JZ x _ (((0 : Nat) : Int) - 8) = _
    unfold JZ
    rw [if_neg (by decide)]
    simp
  have st1 : ∀ (o : List Int) (j : Nat) (x : Int), j < 2 → o.length ≤ 6 → idx [n, 4294967295 - n] (j : Int) = some x → J4 n o (j : Int) = some (.inl (o ++ [x / 16777216 % 256, x / 65536 % 256, x / 256 % 256, x % 256], (j : Int) + 1)) := by
    intro o j x hj ho hx
    unfold J4
    rw [ex, eu, if_pos (by simp; omega), hx, Option.bind_some, lp x o ho]
    simp only [Option.bind_some, Xl]
    rw [show i64 ((j : Int) + 1) = (j : Int) + 1 from Zl (by omega) (by omega)]
  have h1 : loop (t2 (J4 n)) ([79, 66], 0) = some (hdL n) := by
    refine XG (st1 _ 0 n (by omega) (by simp) rfl) ?_
    refine XG (st1 _ 1 (4294967295 - n) (by omega) (by simp) rfl) ?_
    refine ZeO ?_
    show J4 n _ (((1 : Nat) : Int) + 1) = _
    unfold J4
    rw [ex, eu, if_neg (by simp)]
    unfold hdL
    congr 2
    simp only [List.append_assoc, List.cons_append, List.nil_append, List.cons.injEq, true_and, and_true]
    refine ⟨?_, ?_, ?_, ?_⟩ <;> omega
  unfold Zgc
  rw [h1]; rfl
theorem ZmB : ∀ {l m : List Int}, u8R l → u8R m → (Zfo l = Zfo m ↔ l = m)
  | [], [], _, _ => by simp
  | [], y :: m, _, _ => by simp [Zfo]
  | x :: l, [], _, _ => by simp [Zfo]
  | x :: l, y :: m, h1, h2 => by
    have hx := h1 x (List.mem_cons_self ..)
    have hy := h2 y (List.mem_cons_self ..)
    have ih := ZmB (l := l) (m := m) (fun z hz => h1 z (List.mem_cons_of_mem _ hz)) (fun z hz => h2 z (List.mem_cons_of_mem _ hz))
    unfold Zfo at ih ⊢
    simp only [List.map_cons, List.cons.injEq, ih]
    have : UInt8.ofNat x.toNat = UInt8.ofNat y.toNat ↔ x = y := by
      constructor
      · intro e
        have := congrArg UInt8.toNat e
        simp at this
        omega
      · rintro rfl; rfl
    rw [this]
def Xy (s : List Int) : Int × Bool × Bool :=
  if s.length < 16 then (0, false, false) else
  let n := Zle (s.getD 2 0) (s.getD 3 0) (s.getD 4 0) (s.getD 5 0)
  if 1 ≤ n ∧ n ≤ 1073741824 ∧ s.take 10 = hdL n then (n, !decide (s.getD 10 0 = 255), true) else (0, false, false)
theorem ZhQ {α : Type} {n : Nat} {v : Vector α n} {k : Nat} {x : α} (h : v.toList[k]? = some x) : ZI v (k : Int) = some x := by
  unfold ZI; rw [if_pos (by omega)]; simpa using h
theorem ZdZ {α : Type} {xs : List α} {a b : Nat} (h1 : a ≤ b) (h2 : b ≤ xs.length) : slc xs (a : Int) (b : Int) = some ((xs.take b).drop a) := by
  unfold slc; rw [if_pos ⟨by omega, by omega, by omega⟩]; simp
theorem ZlV {α : Type} {m : Nat} {xs : List α} (h : m ≤ xs.length) : ∃ v : Vector α m, tov m xs = some v ∧ v.toList = xs.take m := by
  have : tov m xs = some ⟨(xs.take m).toArray, by simp; omega⟩ := by unfold tov; rw [dif_pos h]
  exact ⟨_, this, by simp⟩
theorem Zjd {s : List Int} (hs : u8R s) : J5 s = some (Xy s) := by
  unfold J5 Xy
  by_cases hl : s.length < 16
  · rw [if_pos (by simp; omega), if_pos hl]
  · rw [if_neg (by simp; omega), if_neg hl]
    rw [show slc s 0 16 = some (s.take 16) from (ZdZ (a := 0) (b := 16) (by omega) (by omega)).trans (by simp), Option.bind_some]
    obtain ⟨v, hv, hvl⟩ := ZlV (m := 16) (xs := s.take 16) (by simp; omega)
    rw [List.take_take, Nat.min_self] at hvl
    rw [hv, Option.bind_some]
    have hg : ∀ (z : Int) (k : Nat), z = (k : Int) → k < 16 → ZI v z = some (s.getD k 0) := fun z k hz hk => by
      subst hz
      exact ZhQ (by rw [hvl, List.getElem?_take_of_lt hk]; exact Xs (by omega) 0)
    obtain ⟨q, q2, q3, e1, e2, e3, e4⟩ := Zp1 (Zcw hs 2) (Zcw hs 3) (Zcw hs 4) (Zcw hs 5)
    rw [hg 2 2 rfl (by omega), Option.bind_some, e1, Option.bind_some, hg 3 3 rfl (by omega), Option.bind_some, e2, Option.bind_some, hg 4 4 rfl (by omega), Option.bind_some, e3, Option.bind_some, hg 5 5 rfl (by omega), Option.bind_some, e4, hg 10 10 rfl (by omega)]
    generalize Zle (s.getD 2 0) (s.getD 3 0) (s.getD 4 0) (s.getD 5 0) = n
    unfold Z9
    simp only [Option.bind_some]
    by_cases hn : 1 ≤ n ∧ n ≤ 1073741824
    · have hy : (decide (1 ≤ n) && decide (n ≤ 1073741824)) = true := by simpa using hn
      rw [hy]
      simp only [Bool.not_true, gd, beq_self_eq_true, if_true, Bool.false_or]
      rw [show slc v.toList 0 10 = some (s.take 10) from (ZdZ (a := 0) (b := 10) (by omega) (by simp)).trans (by rw [hvl]; simp [List.take_take])]
      simp only [Option.bind_some, ZlA hn]
      have hlen : (s.take 10).length ≤ 10 := by rw [List.length_take]; omega
      rw [eqY (by omega), Option.bind_some]
      by_cases e : s.take 10 = hdL n
      · rw [if_neg (by simp [e]), if_pos ⟨hn.1, hn.2, e⟩]
      · rw [if_pos (by simp [e]), if_neg (fun q => e q.2.2)]
    · have hy : (decide (1 ≤ n) && decide (n ≤ 1073741824)) = false := by simpa using hn
      rw [hy]
      simp only [gd, Bool.not_false, Bool.true_eq_false, beq_iff_eq, if_false, Option.bind_some]
      rw [if_pos (by simp), if_neg (fun q => hn ⟨q.1, q.2.1⟩)]
theorem Zmd {s : List Int} (hs : u8R s) : ZeS s = some (Xy s) := by
  unfold ZeS Xy
  by_cases hl : s.length < 16
  · rw [if_pos (by simp; omega), if_pos hl]
  · rw [if_neg (by simp; omega), if_neg hl]
    have hg : ∀ k : Nat, k < 16 → idx s (k : Int) = some (s.getD k 0) := fun k hk => Zz (Xs (by omega) 0)
    have st : ∀ (q : Int) (k : Nat), 0 ≤ q → q ≤ 4294967295 → k < 6 → Za5 s q (k : Int) = some (.inl (q * 256 + s.getD k 0, (k : Int) + 1)) := by
      intro q k h0 h1 hk
      have hb := Zcw hs k
      unfold Za5
      rw [if_pos (by simp; omega), hg k (by omega), Option.bind_some, show i64 (s.getD k 0) = s.getD k 0 from Zl (by omega) (by omega), show i64 (q * 256) = q * 256 from Zl (by omega) (by omega),
        show i64 (q * 256 + s.getD k 0) = q * 256 + s.getD k 0 from Zl (by omega) (by omega), show i64 ((k : Int) + 1) = (k : Int) + 1 from Zl (by omega) (by omega)]
    have b2 := Zcw hs 2
    have b3 := Zcw hs 3
    have b4 := Zcw hs 4
    have b5 := Zcw hs 5
    have lp : loop (t2 (Za5 s)) (0, 2) = some (Zle (s.getD 2 0) (s.getD 3 0) (s.getD 4 0) (s.getD 5 0)) := by
      refine XG (st 0 2 (by omega) (by omega) (by omega)) ?_
      refine XG (st _ 3 (by omega) (by omega) (by omega)) ?_
      refine XG (st _ 4 (by omega) (by omega) (by omega)) ?_
      refine XG (st _ 5 (by omega) (by omega) (by omega)) ?_
      refine ZeO ?_
      show Za5 s _ (((5 : Nat) : Int) + 1) = _
      unfold Za5
      rw [if_neg (by decide)]
      congr 2
      unfold Zle; omega
    rw [lp]
    simp only [Option.bind_some, Xl]
    generalize Zle (s.getD 2 0) (s.getD 3 0) (s.getD 4 0) (s.getD 5 0) = n
    unfold XH
    simp only [Option.bind_some]
    rw [show idx s 10 = some (s.getD 10 0) from hg 10 (by omega)]
    by_cases hn : 1 ≤ n ∧ n ≤ 1073741824
    · have hy : (decide (n < 1) || decide (1073741824 < n)) = false := by simp; omega
      rw [hy]
      simp only [gd, beq_self_eq_true, if_true, Bool.false_or, Zoo hn]
      rw [show slc s 0 10 = some (s.take 10) from (ZdZ (a := 0) (b := 10) (by omega) (by omega)).trans (by simp)]
      simp only [Option.bind_some]
      have hiff := ZmB (l := hdL n) (m := s.take 10) (Zqd n) (fun x hx => hs x (List.mem_of_mem_take hx))
      by_cases e : s.take 10 = hdL n
      · rw [if_neg (by simp [e]), if_pos ⟨hn.1, hn.2, e⟩]
      · rw [if_pos (by simp; intro q; exact e (hiff.1 q).symm), if_neg (fun q => e q.2.2)]
    · have hy : (decide (n < 1) || decide (1073741824 < n)) = true := by simp; omega
      rw [hy]
      simp only [gd, Bool.true_eq_false, beq_iff_eq, if_false, Option.bind_some]
      rw [if_pos (by simp), if_neg (fun q => hn ⟨q.1, q.2.1⟩)]
end Go.Vx

namespace Go.Vx
open Go Go.RowKit
section
variable {key : Int → Int} {D : Int → Prop} {cmp : Int → Int → Option Int}
theorem Zk2 {L A M B R : List Int} (h : A.length = B.length) (hb : (L ++ A ++ M ++ B ++ R).length ≤ 4611686018427387904) :
    ZG (L ++ A ++ M ++ B ++ R) (L.length : Int) ((L.length + A.length + M.length : Nat) : Int) (A.length : Int) cmp = some (L ++ B ++ M ++ A ++ R) := by
  unfold ZG
  have hb' : L.length + A.length + M.length + B.length + R.length ≤ 4611686018427387904 := by simpa [Nat.add_assoc] using hb
  refine ZqR (a := L.length) (b := L.length + A.length + M.length) (n := A.length) (fun L' M' R' x y i hi h1 h2 => ?_) (fun d => ?_) A B L M R 0 h (by omega) (by omega) (by omega)
  · unfold ZS
    have e1 : i64 ((L.length : Int) + (i : Int)) = ((L'.length : Nat) : Int) := (Zl (by omega) (by omega)).trans (by omega)
    have e2 : i64 (((L.length + A.length + M.length : Nat) : Int) + (i : Int)) = ((L'.length + 1 + M'.length : Nat) : Int) := (Zl (by omega) (by omega)).trans (by omega)
    have g1 : (L' ++ x :: M' ++ y :: R')[L'.length]? = some x := by simp
    have g2 : (L' ++ x :: M' ++ y :: R')[L'.length + 1 + M'.length]? = some y := by
      rw [List.getElem?_append_right (by simp; omega)]; simp; rw [show L'.length + 1 + M'.length - (L'.length + (M'.length + 1)) = 0 by omega]; rfl
    have g3 : ((L' ++ x :: M' ++ y :: R').set L'.length y)[L'.length + 1 + M'.length]? = some y := by
      rw [List.getElem?_set_ne (by omega)]; exact g2
    rw [if_pos (by simpa using hi), e1, e2, Zz g2, Option.bind_some, Zz g1, Option.bind_some, Option.bind_some]
    simp only [Int.toNat_natCast]
    rw [Zz g3, Option.bind_some, Zi6, show i64 ((i : Int) + 1) = (i : Int) + 1 from Zl (by omega) (by omega)]
  · unfold ZS
    rw [if_neg (by simp)]
theorem Znn {L X Y R : List Int} (hX : X ≠ []) (hY : Y ≠ []) (hb : (L ++ X ++ Y ++ R).length ≤ 4611686018427387904) :
    Z4 (L ++ X ++ Y ++ R) (L.length : Int) ((L.length + X.length : Nat) : Int) ((L.length + X.length + Y.length : Nat) : Int) cmp = some (L ++ Y ++ X ++ R) := by
  have hb' : L.length + X.length + Y.length + R.length ≤ 4611686018427387904 := by simpa [Nat.add_assoc] using hb
  unfold Z4
  obtain ⟨o', i', h1, h2, h3⟩ := ZrJ (body := Z0 ((L.length + X.length : Nat) : Int) cmp) (sr := fun d a b n => ZG d a b n cmp)
    (m := L.length + X.length) (N := L.length + X.length + Y.length + R.length) (fun L A M B R h hN => Zk2 h (by simp only [List.length_append]; omega)) (fun o i j hi hj => by
      unfold Z0
      have e1 : i64 (((L.length + X.length : Nat) : Int) - (i : Int)) = ((L.length + X.length - i : Nat) : Int) := (Zl (by omega) (by omega)).trans (by omega)
      have e2 : i64 (((L.length + X.length : Nat) : Int) + (j : Int)) = ((L.length + X.length + j : Nat) : Int) := (Zl (by omega) (by omega)).trans (by omega)
      have e3 : i64 (((L.length + X.length + j : Nat) : Int) - (i : Int)) = ((L.length + X.length + j - i : Nat) : Int) := (Zl (by omega) (by omega)).trans (by omega)
      rw [e1, e2, e3]
      by_cases h : i = j
      · rw [if_neg (by simp [h]), if_pos h]
      · rw [if_pos (by simp; omega), if_neg h]
        by_cases h' : j < i
        · rw [if_pos (by simpa using h'), if_pos h', show i64 ((i : Int) - (j : Int)) = ((i - j : Nat) : Int) from (Zl (by omega) (by omega)).trans (by omega)]
        · rw [if_neg (by simpa using h'), if_neg h', show i64 ((j : Int) - (i : Int)) = ((j - i : Nat) : Int) from (Zl (by omega) (by omega)).trans (by omega)]) _ X Y L R rfl hX hY rfl rfl
  have f1 : i64 (((L.length + X.length : Nat) : Int) - (L.length : Int)) = (X.length : Int) := (Zl (by omega) (by omega)).trans (by omega)
  have f2 : i64 (((L.length + X.length + Y.length : Nat) : Int) - ((L.length + X.length : Nat) : Int)) = (Y.length : Int) := (Zl (by omega) (by omega)).trans (by omega)
  have f3 : i64 (((L.length + X.length : Nat) : Int) - (i' : Int)) = ((L.length + X.length - i' : Nat) : Int) := (Zl (by omega) (by omega)).trans (by omega)
  rw [f1, f2, h1]
  simp only [Option.bind_some, QU]
  rw [f3, h3]; rfl
theorem ZkI {n : Nat} (h : n ≤ 4611686018427387904) : shr .u64 (u64 (i64 (n : Int))) 1 = some ((n / 2 : Nat) : Int) := by
  rw [show i64 (n : Int) = (n : Int) from Zl (by omega) (by omega), show u64 (n : Int) = (n : Int) from Zqk (by omega) (by omega)]
  rw [show (1 : Int) = ((1 : Nat) : Int) from rfl, Zpp (by decide)]
  congr 1
end
end Go.Vx

namespace Go.Vx
open Go Go.RowKit
section
variable {key : Int → Int} {D : Int → Prop} {cmp : Int → Int → Option Int}
theorem ZkN {L X R : List Int} {c : Nat} (h1 : L.length ≤ c) (h2 : c < L.length + X.length) : (L ++ X ++ R)[c]? = some (X.getD (c - L.length) 0) := by
  obtain ⟨t, rfl⟩ : ∃ t, c = L.length + t := ⟨c - L.length, by omega⟩
  rw [ZqO (by omega), show L.length + t - L.length = t by omega]
  exact Xs (by omega) 0
theorem ZaS {X : List Int} {t : Nat} (h : t < X.length) : X.getD t 0 ∈ X := by
  rw [List.getD_eq_getElem?_getD, List.getElem?_eq_getElem h]; exact List.getElem_mem h
theorem ZoQ (hc : ∀ x y, D x → D y → ∃ c, cmp x y = some c ∧ (c < 0 ↔ key x < key y)) {L Y R : List Int} {x : Int} (hN : L.length + 1 + Y.length + R.length ≤ 1000000) (hY : Srt key Y) (hlt : ∀ y ∈ Y, x < y) (hD : ∀ z ∈ x :: Y, D z) :
    ∃ Z, ((loop (t2 (Z6 (L ++ [x] ++ Y ++ R) (L.length : Int) cmp)) (((L.length + 1 : Nat) : Int), ((L.length + 1 + Y.length : Nat) : Int))) : Option Int).bind (t1 fun (i : Int) =>
      (loop (t2 (ZJ i)) (L ++ [x] ++ Y ++ R, (L.length : Int))).bind (t1 fun (o : List Int) => some o)) = some (L ++ Z ++ R) ∧ Z.Perm (x :: Y) ∧ Srt key Z := by
  obtain ⟨s, h1, h2, h3, h4, h5⟩ := ZkB (body := Z6 (L ++ [x] ++ Y ++ R) (L.length : Int) cmp) (fun c => decide (key (Y.getD (c - (L.length + 1)) 0) < key x)) (lo := L.length + 1) (hi := L.length + 1 + Y.length) (by omega) (fun i j a1 a2 a3 => by
      have e1 : i64 ((i : Int) + (j : Int)) = i64 ((i + j : Nat) : Int) := by push_cast; rfl
      have e2 : i64 (((i + j) / 2 : Nat) : Int) = (((i + j) / 2 : Nat) : Int) := Zl (by omega) (by omega)
      have e3 : i64 ((((i + j) / 2 : Nat) : Int) + 1) = (((i + j) / 2 + 1 : Nat) : Int) := (Zl (by omega) (by omega)).trans (by omega)
      have g1 : (L ++ [x] ++ Y ++ R)[(i + j) / 2]? = some (Y.getD ((i + j) / 2 - (L.length + 1)) 0) := by
        have := ZkN (L := L ++ [x]) (X := Y) (R := R) (c := (i + j) / 2) (by simp; omega) (by simp; omega)
        simpa using this
      have g2 : (L ++ [x] ++ Y ++ R)[L.length]? = some x := by simp
      unfold Z6
      rw [if_pos (by simpa using a2), e1, ZkI (by omega), Option.bind_some, e2, Zz g1, Option.bind_some, Zz g2, Option.bind_some]
      obtain ⟨c, c1, c2⟩ := hc (Y.getD ((i + j) / 2 - (L.length + 1)) 0) x (hD _ (List.mem_cons_of_mem _ (ZaS (by omega)))) (hD _ (List.mem_cons_self ..))
      rw [c1, Option.bind_some, e3]
      by_cases q : key (Y.getD ((i + j) / 2 - (L.length + 1)) 0) < key x
      · rw [if_pos (by simpa using c2.2 q), if_pos (by simpa using q)]
      · rw [if_neg (by simpa using fun w => q (c2.1 w)), if_neg (by simpa using q)]) (fun i a1 a2 => by
      unfold Z6
      rw [if_neg (by simp)])
  rw [h3, Option.bind_some, Xl]
  have sU := Zrt (body := ZJ (s : Int)) (e := s - 1) (fun L' R' p q hl => by
      unfold ZJ
      have e1 : i64 ((s : Int) - 1) = ((s - 1 : Nat) : Int) := (Zl (by omega) (by omega)).trans (by omega)
      have e2 : i64 ((L'.length : Int) + 1) = ((L'.length + 1 : Nat) : Int) := (Zl (by omega) (by omega)).trans (by omega)
      have g1 : (L' ++ p :: q :: R')[L'.length + 1]? = some q := by
        rw [List.getElem?_append_right (by omega)]; simp
      have g2 : (L' ++ p :: q :: R')[L'.length]? = some p := by simp
      have g3 : ((L' ++ p :: q :: R').set L'.length q)[L'.length + 1]? = some q := by rw [List.getElem?_set_ne (by omega)]; exact g1
      rw [e1, e2, if_pos (by simpa using hl), Zz g1, Option.bind_some, Zz g2, Option.bind_some, Option.bind_some]
      simp only [Int.toNat_natCast]
      rw [Zz g3, Option.bind_some]
      have := Zi6 (L := L') (M := []) (R := R') (x := p) (y := q)
      simp only [List.length_nil, Nat.add_zero, List.append_nil] at this
      rw [show L' ++ p :: q :: R' = L' ++ [p] ++ q :: R' by simp, this]
      simp) (fun d => by
      unfold ZJ
      have e1 : i64 ((s : Int) - 1) = ((s - 1 : Nat) : Int) := (Zl (by omega) (by omega)).trans (by omega)
      rw [e1, if_neg (by simp)]) (Y.take (s - (L.length + 1))) L (Y.drop (s - (L.length + 1)) ++ R) x (by rw [List.length_take]; omega)
  have ed : L ++ [x] ++ Y ++ R = L ++ x :: (Y.take (s - (L.length + 1)) ++ (Y.drop (s - (L.length + 1)) ++ R)) := by
    rw [← List.append_assoc (Y.take _), List.take_append_drop]; simp
  rw [ed, sU]
  refine ⟨Y.take (s - (L.length + 1)) ++ x :: Y.drop (s - (L.length + 1)), by simp, ?_, ?_⟩
  · refine List.perm_middle.trans ?_
    rw [List.take_append_drop]
  · have hA : Srt key (Y.take (s - (L.length + 1))) := hY.sublist (List.take_sublist ..)
    have hB : Srt key (Y.drop (s - (L.length + 1))) := hY.sublist (List.drop_sublist ..)
    have hAx : ∀ a ∈ Y.take (s - (L.length + 1)), LtK key a x := by
      have := ZfV (key := key) (m := [x]) hA (List.pairwise_singleton ..) (fun a b ha hb => by
        cases hb
        rw [List.getLast?_eq_getElem?, List.length_take] at ha
        have l2 := (List.getElem?_eq_some_iff.1 ha).1
        rw [List.length_take] at l2
        rw [List.getElem?_take_of_lt (by omega)] at ha
        have q := h4 (by omega)
        rw [show s - 1 - (L.length + 1) = min (s - (L.length + 1)) Y.length - 1 by omega, List.getD_eq_getElem?_getD, ha] at q
        exact .inl (by simpa using q))
      exact fun a ha => this a ha x (List.mem_singleton.2 rfl)
    have hxB : ∀ b ∈ Y.drop (s - (L.length + 1)), LtK key x b := by
      have := ZfV (key := key) (l := [x]) (List.pairwise_singleton ..) hB (fun a b ha hb => by
        simp only [List.getLast?_singleton, Option.some.injEq] at ha
        subst ha
        rw [List.head?_drop] at hb
        have l1 := (List.getElem?_eq_some_iff.1 hb).1
        have q := h5 (by omega)
        rw [List.getD_eq_getElem?_getD, hb] at q
        simp only [Option.getD_some, decide_eq_false_iff_not] at q
        have : x < b := hlt b (List.mem_of_getElem? hb)
        unfold LtK; omega)
      exact fun b hb => this x (List.mem_singleton.2 rfl) b hb
    refine hA.app (List.pairwise_cons.2 ⟨hxB, hB⟩) fun a ha b hb => ?_
    rcases List.mem_cons.1 hb with rfl | hb
    · exact hAx a ha
    · exact (hAx a ha).trans (hxB b hb)
theorem Zn5 (hc : ∀ x y, D x → D y → ∃ c, cmp x y = some c ∧ (c < 0 ↔ key x < key y)) {L X R : List Int} {y : Int} (hN : L.length + X.length + 1 + R.length ≤ 1000000) (hX : Srt key X) (hlt : ∀ x ∈ X, x < y) (hD : ∀ z ∈ y :: X, D z) :
    ∃ Z, ((loop (t2 (Z7 (L ++ X ++ [y] ++ R) ((L.length + X.length : Nat) : Int) cmp)) ((L.length : Int), ((L.length + X.length : Nat) : Int))) : Option Int).bind (t1 fun (i : Int) =>
      (loop (t2 (ZL i)) (L ++ X ++ [y] ++ R, ((L.length + X.length : Nat) : Int))).bind (t1 fun (o : List Int) => some o)) = some (L ++ Z ++ R) ∧ Z.Perm (X ++ [y]) ∧ Srt key Z := by
  obtain ⟨s, h1, h2, h3, h4, h5⟩ := ZkB (body := Z7 (L ++ X ++ [y] ++ R) ((L.length + X.length : Nat) : Int) cmp) (fun c => !decide (key y < key (X.getD (c - L.length) 0))) (lo := L.length) (hi := L.length + X.length) (by omega) (fun i j a1 a2 a3 => by
      have e1 : i64 ((i : Int) + (j : Int)) = i64 ((i + j : Nat) : Int) := by push_cast; rfl
      have e2 : i64 (((i + j) / 2 : Nat) : Int) = (((i + j) / 2 : Nat) : Int) := Zl (by omega) (by omega)
      have e3 : i64 ((((i + j) / 2 : Nat) : Int) + 1) = (((i + j) / 2 + 1 : Nat) : Int) := (Zl (by omega) (by omega)).trans (by omega)
      have g1 : (L ++ X ++ [y] ++ R)[(i + j) / 2]? = some (X.getD ((i + j) / 2 - L.length) 0) := by
        have := ZkN (L := L) (X := X) (R := [y] ++ R) (c := (i + j) / 2) (by omega) (by omega)
        simpa using this
      have g2 : (L ++ X ++ [y] ++ R)[L.length + X.length]? = some y := by
        rw [List.append_assoc, List.getElem?_append_right (by simp)]; simp
      unfold Z7
      rw [if_pos (by simpa using a2), e1, ZkI (by omega), Option.bind_some, e2, Zz g2, Option.bind_some, Zz g1, Option.bind_some]
      obtain ⟨c, c1, c2⟩ := hc y (X.getD ((i + j) / 2 - L.length) 0) (hD _ (List.mem_cons_self ..)) (hD _ (List.mem_cons_of_mem _ (ZaS (by omega))))
      rw [c1, Option.bind_some, e3]
      by_cases q : key y < key (X.getD ((i + j) / 2 - L.length) 0)
      · rw [if_neg (by simpa using c2.2 q), if_neg (by simpa using q)]
      · rw [if_pos (by simpa using fun w => q (c2.1 w)), if_pos (by simpa using q)]) (fun i a1 a2 => by
      unfold Z7
      rw [if_neg (by simp)])
  rw [h3, Option.bind_some, Xl]
  have hdl : (X.drop (s - L.length)).length = L.length + X.length - s := by rw [List.length_drop]; omega
  have htl : (X.take (s - L.length)).length = s - L.length := by rw [List.length_take]; omega
  have sD := Zrl (body := ZL (s : Int)) (e := s) (N := 1000000) (fun L' R' p q hl hl2 => by
      unfold ZL
      have e1 : i64 ((L'.length : Int) + 1 - 1) = ((L'.length : Nat) : Int) := (Zl (by omega) (by omega)).trans (by omega)
      have e2 : (L'.length : Int) + 1 = ((L'.length + 1 : Nat) : Int) := by omega
      have g1 : (L' ++ p :: q :: R')[L'.length + 1]? = some q := by
        rw [List.getElem?_append_right (by omega)]; simp
      have g2 : (L' ++ p :: q :: R')[L'.length]? = some p := by simp
      have g3 : ((L' ++ p :: q :: R').set (L'.length + 1) p)[L'.length]? = some p := by rw [List.getElem?_set_ne (by omega)]; exact g2
      rw [e1, e2, if_pos (by simp; omega), Zz g2, Option.bind_some, Zz g1, Option.bind_some, Option.bind_some]
      simp only [Int.toNat_natCast]
      rw [Zz g3, Option.bind_some]
      have := Zi6 (L := L') (M := []) (R := R') (x := p) (y := q)
      simp only [List.length_nil, Nat.add_zero, List.append_nil] at this
      rw [show L' ++ p :: q :: R' = L' ++ [p] ++ q :: R' by simp, List.set_comm _ _ (by omega), this]
      simp) (fun d => by
      unfold ZL
      rw [if_neg (by simp)]) _ (X.drop (s - L.length)) (L ++ X.take (s - L.length)) R y rfl (by rw [List.length_append]; omega) (by rw [List.length_append]; omega)
  have ed : L ++ X ++ [y] ++ R = L ++ X.take (s - L.length) ++ X.drop (s - L.length) ++ y :: R := by
    rw [List.append_assoc L (X.take _), List.take_append_drop]; simp
  have el : ((L.length + X.length : Nat) : Int) = ((L ++ X.take (s - L.length)).length : Int) + ((X.drop (s - L.length)).length : Int) := by
    rw [List.length_append]; omega
  rw [ed, el, sD]
  refine ⟨X.take (s - L.length) ++ y :: X.drop (s - L.length), by simp, ?_, ?_⟩
  · refine List.perm_middle.trans ?_
    rw [List.take_append_drop]
    exact (List.perm_append_comm (l₁ := X) (l₂ := [y])).symm
  · have hA : Srt key (X.take (s - L.length)) := hX.sublist (List.take_sublist ..)
    have hB : Srt key (X.drop (s - L.length)) := hX.sublist (List.drop_sublist ..)
    have hAy : ∀ a ∈ X.take (s - L.length), LtK key a y := by
      have := ZfV (key := key) (m := [y]) hA (List.pairwise_singleton ..) (fun a b ha hb => by
        cases hb
        rw [List.getLast?_eq_getElem?, htl] at ha
        have l2 := (List.getElem?_eq_some_iff.1 ha).1
        rw [htl] at l2
        rw [List.getElem?_take_of_lt (by omega)] at ha
        have q := h4 (by omega)
        rw [show s - 1 - L.length = s - L.length - 1 by omega, List.getD_eq_getElem?_getD, ha] at q
        simp only [Option.getD_some, Bool.not_eq_true', decide_eq_false_iff_not] at q
        have : a < y := hlt a (List.mem_of_getElem? ha)
        unfold LtK; omega)
      exact fun a ha => this a ha y (List.mem_singleton.2 rfl)
    have hyB : ∀ b ∈ X.drop (s - L.length), LtK key y b := by
      have := ZfV (key := key) (l := [y]) (List.pairwise_singleton ..) hB (fun a b ha hb => by
        simp only [List.getLast?_singleton, Option.some.injEq] at ha
        subst ha
        rw [List.head?_drop] at hb
        have l1 := (List.getElem?_eq_some_iff.1 hb).1
        have q := h5 (by omega)
        rw [List.getD_eq_getElem?_getD, hb] at q
        exact .inl (by simpa using q))
      exact fun b hb => this y (List.mem_singleton.2 rfl) b hb
    refine hA.app (List.pairwise_cons.2 ⟨hyB, hB⟩) fun a ha b hb => ?_
    rcases List.mem_cons.1 hb with rfl | hb
    · exact hAy a ha
    · exact (hAy a ha).trans (hyB b hb)
end
end Go.Vx
