/- A text of the proof: a verified executor of the program form, or the contracts of the functions that the law reaches. -/
import Derived.Test.YtnlmjeleocelgaaGreatDoorPA
import Derived.Test.YtnlmjeleocelgaaGreatDoorShT
set_option linter.all false
namespace Go.Vx
open Go Go.RowKit
set_option linter.unusedVariables false

noncomputable def Zet (data : List Int) (f2 : Vector Int 64) (i : Int) : Option (((Vector Int 64) × Int) ⊕ ((Vector Int 64) × Int) ⊕ ((Vector Int 64))) :=
  if (decide (i < (data.length : Int))) = true then
  (idx data i).bind fun x3 =>
  if ((decide (x3 < 0)) || (decide (2047 < x3))) = true then
  some (.inr (.inl ((#v[0, 0, 0, 0, 0, 0, 0, 0, 0, 0, 0, 0, 0, 0, 0, 0, 0, 0, 0, 0, 0, 0, 0, 0, 0, 0, 0, 0, 0, 0, 0, 0, 0, 0, 0, 0, 0, 0, 0, 0, 0, 0, 0, 0, 0, 0, 0, 0, 0, 0, 0, 0, 0, 0, 0, 0, 0, 0, 0, 0, 0, 0, 0, 0] : Vector Int 64), 9)))
  else
  (ZP f2 (i64 (3 + i))).bind fun x4 =>
  some (.inl ((JQ f2 (i64 (3 + i)) (u16 x3)), (i64 (i + 1))))
  else
  some (.inr (.inr f2))
theorem Zjf (data : List Int) (f2 : Vector Int 64) (i : Int) : Le (Zet data f2 i) (Zei data f2 i) := by
  unfold Zet Zei
  with_reducible repeat' (first | exact Le.refl _ | apply Le.bind | apply Le.ite | intro _)

noncomputable def Zew (n2 : Int) (ones2 : Int) : Option ((Int × Int) ⊕ (Int)) :=
  if (decide (0 < n2)) = true then
  (rem n2 2).bind fun q =>
  (quo .i64 n2 2).bind fun q2 =>
  some (.inl (q2, (i64 (ones2 + q))))
  else
  some (.inr ones2)
theorem ZiX (n2 : Int) (ones2 : Int) : Le (Zew n2 ones2) (Zec n2 ones2) := by
  unfold Zew Zec
  with_reducible repeat' (first | exact Le.refl _ | apply Le.bind | apply Le.ite | intro _)

noncomputable def ZcF (n : Int) : Option Bool :=
  ((QV (t2 (Zew)) (n, 0)) : Option ((Int))).bind (t1 fun (ones : Int) =>
  (rem ones 2).bind fun q3 =>
  some (decide (q3 = 1)))
theorem Zip (n : Int) : Le (ZcF n) (ZbS n) := by
  unfold ZcF ZbS
  with_reducible repeat' (first | exact Le.refl _ | apply Le.bind | apply Le.loop | apply Le.t1 | apply Le.t2 | apply ZiX | intro _)

noncomputable def ZbE (data : Int) : Option Int :=
  (ZcF data).bind fun y =>
  if y = true then
  some data
  else
  some (i64 (data + 2048))
theorem Ze8 (data : Int) : Le (ZbE data) (ZbC data) := by
  unfold ZbE ZbC
  with_reducible repeat' (first | exact Le.refl _ | apply Le.bind | apply Le.ite | apply Zip | intro _)

noncomputable def ZcJ (f3 : Vector Int 64) (i : Int) : Option (((Vector Int 64) × Int) ⊕ ((Vector Int 64))) :=
  if (decide (i ≤ 60)) = true then
  (ZP f3 i).bind fun x =>
  (rem (i64 x) 2048).bind fun q =>
  (ZbE q).bind fun y =>
  (ZP f3 i).bind fun x2 =>
  some (.inl ((JQ f3 i (u16 y)), (i64 (i + 1))))
  else
  some (.inr f3)
theorem Zhx (f3 : Vector Int 64) (i : Int) : Le (ZcJ f3 i) (ZbH f3 i) := by
  unfold ZcJ ZbH
  with_reducible repeat' (first | exact Le.refl _ | apply Le.bind | apply Le.ite | apply Ze8 | intro _)

noncomputable def Zdm (f : Vector Int 64) : Option Int :=
  (ZP f 1).bind fun x =>
  (rem (i64 x) 2048).bind fun q =>
  (ZP f 2).bind fun x2 =>
  (rem (i64 x2) 2048).bind fun q2 =>
  some (i64 (q + (i64 (q2 * 2048))))
theorem Zh4 (f : Vector Int 64) : Le (Zdm f) (XG f) := by
  unfold Zdm XG
  with_reducible repeat' (first | exact Le.refl _ | apply Le.bind | intro _)

noncomputable def Zeq (number : Int) : Option Int :=
  (rem number 4).bind fun q =>
  (ZP (#v[583, 1464, 2631, 3512] : Vector Int 4) q).bind fun x =>
  some x
theorem Zi9 (number : Int) : Le (Zeq number) (Zaa number) := by
  unfold Zeq Zaa
  with_reducible repeat' (first | exact Le.refl _ | apply Le.bind | intro _)

noncomputable def Zex (f : Vector Int 64) (x2 : Int) (i : Int) : Option ((Int × Int) ⊕ (Int)) :=
  if (decide (i ≤ 60)) = true then
  (ZP f i).bind fun x3 =>
  (rem (i64 x3) 2048).bind fun q =>
  some (.inl ((Zcd .i64 x2 q), (i64 (i + 1))))
  else
  some (.inr x2)
theorem Zjv (f : Vector Int 64) (x2 : Int) (i : Int) : Le (Zex f x2 i) (ZaM f x2 i) := by
  unfold Zex ZaM
  with_reducible repeat' (first | exact Le.refl _ | apply Le.bind | apply Le.ite | intro _)

noncomputable def ZgA (f : Vector Int 64) : Option Int :=
  ((QV (t2 (Zex f)) (0, 1)) : Option ((Int))).bind (t1 fun (x : Int) =>
  some x)
theorem ZkL (f : Vector Int 64) : Le (ZgA f) (Zdc f) := by
  unfold ZgA Zdc
  with_reducible repeat' (first | exact Le.refl _ | apply Le.bind | apply Le.loop | apply Le.t1 | apply Le.t2 | apply Zjv | intro _)

noncomputable def Zdj (f : Vector Int 64) (rest2 : Int) (i : Int) : Option ((Int × Int) ⊕ (Int)) :=
  if (decide (i < 766)) = true then
  ((if (decide (i < 744)) = true then
  (quo .i64 i 12).bind fun q =>
  (ZP f q).bind fun x =>
  (rem i 12).bind fun q2 =>
  (shr .i64 (i64 x) (i64 (11 - q2))).bind fun q3 =>
  some (QD .i64 q3 1)
  else
  some 0) : Option ((Int))).bind (t1 fun (bit : Int) =>
  if (decide (4194304 ≤ (i64 ((i64 (rest2 * 2)) + bit)))) = true then
  some (.inl ((Zcd .i64 (i64 ((i64 (rest2 * 2)) + bit)) 6291471), (i64 (i + 1))))
  else
  some (.inl ((i64 ((i64 (rest2 * 2)) + bit)), (i64 (i + 1)))))
  else
  some (.inr rest2)
theorem ZhG (f : Vector Int 64) (rest2 : Int) (i : Int) : Le (Zdj f rest2 i) (JO f rest2 i) := by
  unfold Zdj JO
  with_reducible repeat' (first | exact Le.refl _ | apply Le.bind | apply Le.ite | apply Le.t1 | intro _)

noncomputable def Ze3 (f : Vector Int 64) : Option Int :=
  ((QV (t2 (Zdj f)) (0, 0)) : Option ((Int))).bind (t1 fun (rest : Int) =>
  some rest)
theorem ZjG (f : Vector Int 64) : Le (Ze3 f) (ZaH f) := by
  unfold Ze3 ZaH
  with_reducible repeat' (first | exact Le.refl _ | apply Le.bind | apply Le.loop | apply Le.t1 | apply Le.t2 | apply ZhG | intro _)

noncomputable def ZdT (f : Vector Int 64) : Option (Vector Int 64) :=
  (Ze3 f).bind fun y =>
  (quo .i64 y 2048).bind fun q =>
  (ZbE q).bind fun y2 =>
  (rem y 2048).bind fun q2 =>
  (ZbE q2).bind fun y3 =>
  (ZP f 62).bind fun x =>
  (ZP (JQ f 62 (u16 y2)) 63).bind fun x2 =>
  some (JQ (JQ f 62 (u16 y2)) 63 (u16 y3))
theorem ZiF (f : Vector Int 64) : Le (ZdT f) (ZbJ f) := by
  unfold ZdT ZbJ
  with_reducible repeat' (first | exact Le.refl _ | apply Le.bind | apply ZjG | apply Ze8 | intro _)

noncomputable def Zeo (f : Vector Int 64) : Option (Vector Int 64) :=
  ((QV (t2 (ZcJ)) (f, 1)) : Option (((Vector Int 64)))).bind (t1 fun (f2 : Vector Int 64) =>
  (Zdm f2).bind fun y2 =>
  (Zeq y2).bind fun y3 =>
  (ZP f2 0).bind fun x3 =>
  (ZgA (JQ f2 0 (u16 y3))).bind fun y4 =>
  (ZbE y4).bind fun y5 =>
  (ZP (JQ f2 0 (u16 y3)) 61).bind fun x4 =>
  (ZdT (JQ (JQ f2 0 (u16 y3)) 61 (u16 y5))).bind fun y6 =>
  some y6)
theorem Zjo (f : Vector Int 64) : Le (Zeo f) (ZcX f) := by
  unfold Zeo ZcX
  with_reducible repeat' (first | exact Le.refl _ | apply Le.bind | apply Le.loop | apply Le.t1 | apply Le.t2 | apply Zhx | apply Zh4 | apply Zi9 | apply ZkL | apply Ze8 | apply ZiF | intro _)

noncomputable def ZgB (number : Int) (data : List Int) : Option ((Vector Int 64) × Int) :=
  if ((decide (number < 0)) || (decide (4194304 ≤ number))) = true then
  some ((#v[0, 0, 0, 0, 0, 0, 0, 0, 0, 0, 0, 0, 0, 0, 0, 0, 0, 0, 0, 0, 0, 0, 0, 0, 0, 0, 0, 0, 0, 0, 0, 0, 0, 0, 0, 0, 0, 0, 0, 0, 0, 0, 0, 0, 0, 0, 0, 0, 0, 0, 0, 0, 0, 0, 0, 0, 0, 0, 0, 0, 0, 0, 0, 0] : Vector Int 64), 9)
  else
  if (!decide ((data.length : Int) = 58)) = true then
  some ((#v[0, 0, 0, 0, 0, 0, 0, 0, 0, 0, 0, 0, 0, 0, 0, 0, 0, 0, 0, 0, 0, 0, 0, 0, 0, 0, 0, 0, 0, 0, 0, 0, 0, 0, 0, 0, 0, 0, 0, 0, 0, 0, 0, 0, 0, 0, 0, 0, 0, 0, 0, 0, 0, 0, 0, 0, 0, 0, 0, 0, 0, 0, 0, 0] : Vector Int 64), 3)
  else
  (rem number 2048).bind fun q =>
  (quo .i64 number 2048).bind fun q2 =>
  (ZP (#v[0, 0, 0, 0, 0, 0, 0, 0, 0, 0, 0, 0, 0, 0, 0, 0, 0, 0, 0, 0, 0, 0, 0, 0, 0, 0, 0, 0, 0, 0, 0, 0, 0, 0, 0, 0, 0, 0, 0, 0, 0, 0, 0, 0, 0, 0, 0, 0, 0, 0, 0, 0, 0, 0, 0, 0, 0, 0, 0, 0, 0, 0, 0, 0] : Vector Int 64) 1).bind fun x =>
  (ZP (JQ (#v[0, 0, 0, 0, 0, 0, 0, 0, 0, 0, 0, 0, 0, 0, 0, 0, 0, 0, 0, 0, 0, 0, 0, 0, 0, 0, 0, 0, 0, 0, 0, 0, 0, 0, 0, 0, 0, 0, 0, 0, 0, 0, 0, 0, 0, 0, 0, 0, 0, 0, 0, 0, 0, 0, 0, 0, 0, 0, 0, 0, 0, 0, 0, 0] : Vector Int 64) 1 (u16 q)) 2).bind fun x2 =>
  ((QV (t2 (Zet data)) ((JQ (JQ (#v[0, 0, 0, 0, 0, 0, 0, 0, 0, 0, 0, 0, 0, 0, 0, 0, 0, 0, 0, 0, 0, 0, 0, 0, 0, 0, 0, 0, 0, 0, 0, 0, 0, 0, 0, 0, 0, 0, 0, 0, 0, 0, 0, 0, 0, 0, 0, 0, 0, 0, 0, 0, 0, 0, 0, 0, 0, 0, 0, 0, 0, 0, 0, 0] : Vector Int 64) 1 (u16 q)) 2 (u16 q2)), 0)) : Option (((Vector Int 64) × Int) ⊕ ((Vector Int 64)))).bind (Sum.elim (fun q' => some q') (t1 fun (f : Vector Int 64) =>
  (Zeo f).bind fun y =>
  some (y, 0)))
theorem ZkM (number : Int) (data : List Int) : Le (ZgB number data) (ZfM number data) := by
  unfold ZgB ZfM
  with_reducible repeat' (first | exact Le.refl _ | apply Le.bind | apply Le.ite | apply Le.loop | apply Le.t1 | apply Le.t2 | apply Le.elim | apply Zjf | apply Zjo | intro _)

noncomputable def QM (n : Int) (low : Int) (high : Int) : Option Bool :=
  some ((decide (low ≤ n)) && (decide (n ≤ high)))
theorem Jg (n : Int) (low : Int) (high : Int) : Le (QM n low high) (Qo n low high) := by
  unfold QM Qo
  with_reducible repeat' (first | exact Le.refl _ | apply Le.bind | intro _)

noncomputable def Zak (slots : Int) : Option Int :=
  some (i64 (16 + (i64 (slots * 97))))
theorem Zdr (slots : Int) : Le (Zak slots) (Xh slots) := by
  unfold Zak Xh
  with_reducible repeat' (first | exact Le.refl _ | apply Le.bind | intro _)

noncomputable def Zff (x : Int) (y : Int) : Option (Int × Int) :=
  (shr .u64 x 32).bind fun q =>
  (shr .u64 y 32).bind fun q2 =>
  (shr .u64 (u64 ((QD .u64 x 4294967295) * (QD .u64 y 4294967295))) 32).bind fun q3 =>
  (shr .u64 (u64 ((u64 (q * (QD .u64 y 4294967295))) + q3)) 32).bind fun q4 =>
  (shr .u64 (u64 ((QD .u64 (u64 ((u64 (q * (QD .u64 y 4294967295))) + q3)) 4294967295) + (u64 ((QD .u64 x 4294967295) * q2)))) 32).bind fun q5 =>
  some ((u64 ((u64 ((u64 (q * q2)) + q4)) + q5)), (u64 (x * y)))
theorem ZjL (x : Int) (y : Int) : Le (Zff x y) (ZdU x y) := by
  unfold Zff ZdU
  with_reducible repeat' (first | exact Le.refl _ | apply Le.bind | intro _)

noncomputable def ZgW (x : Int) (y : Int) : Option (Int × Int) :=
  (Zff x y).bind fun y2 =>
  some (y2.1, y2.2)
theorem ZkQ (x : Int) (y : Int) : Le (ZgW x y) (ZfZ x y) := by
  unfold ZgW ZfZ
  with_reducible repeat' (first | exact Le.refl _ | apply Le.bind | apply ZjL | intro _)

noncomputable def XW (newslice2 : List Int) (n : Int) : Option (((List Int) × Int) ⊕ ((List Int))) :=
  if (decide (n < (newslice2.length : Int))) = true then
  (slq newslice2 n (newslice2.length : Int)).bind fun u =>
  (slq newslice2 0 n).bind fun u2 =>
  some (.inl ((cpy newslice2 n.toNat (Int.toNat ((newslice2.length : Int) - n)) (Int.toNat 0) (Int.toNat (n - 0))), (i64 (n + ((min (Int.toNat (n - 0)) (Int.toNat ((newslice2.length : Int) - n)) : Nat) : Int)))))
  else
  some (.inr newslice2)
theorem Zda (newslice2 : List Int) (n : Int) : Le (XW newslice2 n) (Xq newslice2 n) := by
  unfold XW Xq
  with_reducible repeat' (first | exact Le.refl _ | apply Le.bind | apply Le.ite | intro _)

noncomputable def Jq (x : List Int) (count : Int) : Option (List Int) :=
  if (decide (count < 0)) = true then
  none
  else
  (ZgW (u64 (x.length : Int)) (u64 count)).bind fun y =>
  if ((decide (0 < y.1)) || (decide (9223372036854775807 < y.2))) = true then
  none
  else
  (mks (i64 y.2) 0).bind fun l =>
  ((QV (t2 (XW)) ((ZiB l x), ((min x.length l.length : Nat) : Int))) : Option (((List Int)))).bind (t1 fun (newslice : List Int) =>
  some newslice)
theorem ZdM (x : List Int) (count : Int) : Le (Jq x count) (Xg x count) := by
  unfold Jq Xg
  with_reducible repeat' (first | exact Le.refl _ | apply Le.bind | apply Le.ite | apply Le.loop | apply Le.t1 | apply Le.t2 | apply ZkQ | apply Zda | intro _)

noncomputable def Zba (sectors : Int) (slots : Int) (Sectors2 : List (List Int)) (i : Int) : Option (((List (List Int)) × Int) ⊕ ((List (List Int)))) :=
  if (decide (i < sectors)) = true then
  (((Zak slots).bind fun y4 =>
  (Jq ([255] : List Int) y4).bind fun y5 =>
  (apz 24 Sectors2 [y5]).bind fun l3 =>
  some l3) : Option (((List (List Int))))).bind (t1 fun (Sectors3 : List (List Int)) =>
  some (.inl (Sectors3, (i64 (i + 1)))))
  else
  some (.inr Sectors2)
theorem ZfT (sectors : Int) (slots : Int) (Sectors2 : List (List Int)) (i : Int) : Le (Zba sectors slots Sectors2 i) (Zaz sectors slots Sectors2 i) := by
  unfold Zba Zaz
  with_reducible repeat' (first | exact Le.refl _ | apply Le.bind | apply Le.ite | apply Le.t1 | apply Zdr | apply ZdM | intro _)

noncomputable def Zcz (sectors : Int) (slots : Int) (limit : Int) : Option (api_Memory × Int) :=
  (QM sectors 2 64).bind fun y =>
  (gd ((!y) == false) false (QM slots 1 64)).bind fun y2 =>
  (gd (((!y) || (!y2)) == false) false (QM limit 1 1000000)).bind fun y3 =>
  if (((!y) || (!y2)) || (!y3)) = true then
  some ((api_Memory.mk 0 0 [] [] []), 9)
  else
  (((mkz 8 sectors 0).bind fun l =>
  (mkz 1 sectors false).bind fun l2 =>
  some (l, l2)) : Option (((List Int) × (List Bool)))).bind (t2 fun (Wear : List Int) (Bad : List Bool) =>
  ((QV (t2 (Zba sectors slots)) ([], 0)) : Option (((List (List Int))))).bind (t1 fun (Sectors : List (List Int)) =>
  some ((api_Memory.mk slots limit Sectors Wear Bad), 0)))
theorem Zg6 (sectors : Int) (slots : Int) (limit : Int) : Le (Zcz sectors slots limit) (ZaF sectors slots limit) := by
  unfold Zcz ZaF
  with_reducible repeat' (first | exact Le.refl _ | apply Le.bind | apply Le.ite | apply Le.gd | apply Le.loop | apply Le.t1 | apply Le.t2 | apply Jg | apply ZfT | intro _)

noncomputable def Zar (m : api_Memory) (i : Int) : Option ((Int) ⊕ (Int) ⊕ (Unit)) :=
  if (decide (i < (m.Sectors.length : Int))) = true then
  (idx m.Sectors i).bind fun x =>
  (Zak m.Slots).bind fun y4 =>
  if (!decide ((x.length : Int) = y4)) = true then
  some (.inr (.inl 3))
  else
  (idx m.Wear i).bind fun x2 =>
  (QM x2 0 m.Limit).bind fun y5 =>
  if (!y5) = true then
  some (.inr (.inl 9))
  else
  some (.inl (i64 (i + 1)))
  else
  some (.inr (.inr ()))
theorem Ze2 (m : api_Memory) (i : Int) : Le (Zar m i) (Qp m i) := by
  unfold Zar Qp
  with_reducible repeat' (first | exact Le.refl _ | apply Le.bind | apply Le.ite | apply Zdr | apply Jg | intro _)

noncomputable def Zbv (m : api_Memory) : Option Int :=
  (QM m.Slots 1 64).bind fun y =>
  (gd ((!y) == false) false (QM m.Limit 1 1000000)).bind fun y2 =>
  (gd (((!y) || (!y2)) == false) false (QM (m.Sectors.length : Int) 2 64)).bind fun y3 =>
  if (((!y) || (!y2)) || (!y3)) = true then
  some 9
  else
  if ((!decide ((m.Wear.length : Int) = (m.Sectors.length : Int))) || (!decide ((m.Bad.length : Int) = (m.Sectors.length : Int)))) = true then
  some 2
  else
  ((QV (t1 (Zar m)) 0) : Option ((Int) ⊕ (Unit))).bind (Sum.elim (fun q' => some q') (t0 (some 0)))
theorem Zgn (m : api_Memory) : Le (Zbv m) (QX m) := by
  unfold Zbv QX
  with_reducible repeat' (first | exact Le.refl _ | apply Le.bind | apply Le.ite | apply Le.gd | apply Le.loop | apply Le.t0 | apply Le.t1 | apply Le.elim | apply Jg | apply Ze2 | intro _)

noncomputable def ZbA (l : List api_Memory) (i : Int) : Option ((Int) ⊕ (Int) ⊕ (Unit)) :=
  if (decide (i < (l.length : Int))) = true then
  (idx l i).bind fun x =>
  (Zbv x).bind fun y2 =>
  if (!decide (y2 = 0)) = true then
  some (.inr (.inl y2))
  else
  some (.inl (i64 (i + 1)))
  else
  some (.inr (.inr ()))
theorem Zgi (l : List api_Memory) (i : Int) : Le (ZbA l i) (ring_checkAll_L1 l i) := by
  unfold ZbA ring_checkAll_L1
  with_reducible repeat' (first | exact Le.refl _ | apply Le.bind | apply Le.ite | apply Zgn | intro _)

noncomputable def Zbl (l : List api_Memory) : Option Int :=
  (QM (l.length : Int) 1 8).bind fun y =>
  if (!y) = true then
  some 3
  else
  ((QV (t1 (ZbA l)) 0) : Option ((Int) ⊕ (Unit))).bind (Sum.elim (fun q' => some q') (t0 (some 0)))
theorem ZeA (l : List api_Memory) : Le (Zbl l) (XE l) := by
  unfold Zbl XE
  with_reducible repeat' (first | exact Le.refl _ | apply Le.bind | apply Le.ite | apply Le.loop | apply Le.t0 | apply Le.t1 | apply Le.elim | apply Jg | apply Zgi | intro _)

noncomputable def ZaN (m : api_Memory) (sectors2 : List (List Int)) (i : Int) : Option (((List (List Int)) × Int) ⊕ ((List (List Int)))) :=
  if (decide (i < (m.Sectors.length : Int))) = true then
  (idx m.Sectors i).bind fun x =>
  (Zen 1 x).bind fun y =>
  (apz 24 sectors2 [y]).bind fun l =>
  some (.inl (l, (i64 (i + 1))))
  else
  some (.inr sectors2)
theorem Zfu (m : api_Memory) (sectors2 : List (List Int)) (i : Int) : Le (ZaN m sectors2 i) (Q8 m sectors2 i) := by
  unfold ZaN Q8
  with_reducible repeat' (first | exact Le.refl _ | apply Le.bind | apply Le.ite | intro _)

noncomputable def Zcf (m : api_Memory) : Option api_Memory :=
  ((QV (t2 (ZaN m)) ([], 0)) : Option (((List (List Int))))).bind (t1 fun (sectors : List (List Int)) =>
  (Zen 8 m.Wear).bind fun y2 =>
  (Zen 1 m.Bad).bind fun y3 =>
  some (api_Memory.mk m.Slots m.Limit sectors y2 y3))
theorem Zgy (m : api_Memory) : Le (Zcf m) (X0 m) := by
  unfold Zcf X0
  with_reducible repeat' (first | exact Le.refl _ | apply Le.bind | apply Le.loop | apply Le.t1 | apply Le.t2 | apply Zfu | intro _)

noncomputable def ZbZ (l : List api_Memory) (out2 : List api_Memory) (i : Int) : Option (((List api_Memory) × Int) ⊕ ((List api_Memory))) :=
  if (decide (i < (l.length : Int))) = true then
  (idx l i).bind fun x =>
  (Zcf x).bind fun y =>
  (apz 88 out2 [y]).bind fun l2 =>
  some (.inl (l2, (i64 (i + 1))))
  else
  some (.inr out2)
theorem ZgF (l : List api_Memory) (out2 : List api_Memory) (i : Int) : Le (ZbZ l out2 i) (Xs l out2 i) := by
  unfold ZbZ Xs
  with_reducible repeat' (first | exact Le.refl _ | apply Le.bind | apply Le.ite | apply Zgy | intro _)

noncomputable def Zcg (l : List api_Memory) : Option (List api_Memory) :=
  ((QV (t2 (ZbZ l)) ([], 0)) : Option (((List api_Memory)))).bind (t1 fun (out : List api_Memory) =>
  some out)
theorem Zfp (l : List api_Memory) : Le (Zcg l) (XF l) := by
  unfold Zcg XF
  with_reducible repeat' (first | exact Le.refl _ | apply Le.bind | apply Le.loop | apply Le.t1 | apply Le.t2 | apply ZgF | intro _)

noncomputable def ZcH (sequence : Int) (out2 : List Int) (shift : Int) : Option (((List Int) × Int) ⊕ ((List Int))) :=
  if (decide (0 ≤ shift)) = true then
  (shr .i64 sequence shift).bind fun q =>
  (apz 1 out2 ([(u8 q)] : List Int)).bind fun l =>
  some (.inl (l, (i64 (shift - 8))))
  else
  some (.inr out2)
theorem Zhp (sequence : Int) (out2 : List Int) (shift : Int) : Le (ZcH sequence out2 shift) (Xo sequence out2 shift) := by
  unfold ZcH Xo
  with_reducible repeat' (first | exact Le.refl _ | apply Le.bind | apply Le.ite | intro _)

noncomputable def ZcD (out : List Int) (out4 : List Int) (i : Int) : Option (((List Int) × Int) ⊕ ((List Int))) :=
  if (decide (i < ((Int.toNat (6 - 2) : Nat) : Int))) = true then
  (ck (decide ((0 : Int) ≤ i) && decide (i < ((Int.toNat (6 - 2) : Nat) : Int)))).bind fun u2 =>
  (idx out (2 + i)).bind fun x2 =>
  (apz 1 out4 ([(Zcd .u8 255 x2)] : List Int)).bind fun l2 =>
  some (.inl (l2, (i64 (i + 1))))
  else
  some (.inr out4)
theorem Zhh (out : List Int) (out4 : List Int) (i : Int) : Le (ZcD out out4 i) (Xm out out4 i) := by
  unfold ZcD Xm
  with_reducible repeat' (first | exact Le.refl _ | apply Le.bind | apply Le.ite | intro _)

noncomputable def ZcS (sequence : Int) : Option (List Int) :=
  ((QV (t2 (ZcH sequence)) (([79, 66] : List Int), 24)) : Option (((List Int)))).bind (t1 fun (out : List Int) =>
  (((slp out 2 6).bind fun u =>
  QV (t2 (ZcD out)) (out, 0)) : Option (((List Int)))).bind (t1 fun (out3 : List Int) =>
  some out3))
theorem ZfU (sequence : Int) : Le (ZcS sequence) (J9 sequence) := by
  unfold ZcS J9
  with_reducible repeat' (first | exact Le.refl _ | apply Le.bind | apply Le.loop | apply Le.t1 | apply Le.t2 | apply Zhp | apply Zhh | intro _)

noncomputable def X9 (s1 : List Int) (s2 : List Int) (i : Int) : Option ((Int) ⊕ (Bool) ⊕ (Unit)) :=
  if (decide (i < (s1.length : Int))) = true then
  (idx s1 i).bind fun x =>
  (idx s2 i).bind fun x2 =>
  if (!decide (x = x2)) = true then
  some (.inr (.inl false))
  else
  some (.inl (i64 (i + 1)))
  else
  some (.inr (.inr ()))
theorem Zdk (s1 : List Int) (s2 : List Int) (i : Int) : Le (X9 s1 s2 i) (Qy s1 s2 i) := by
  unfold X9 Qy
  with_reducible repeat' (first | exact Le.refl _ | apply Le.bind | apply Le.ite | intro _)

noncomputable def JH (s1 : List Int) (s2 : List Int) : Option Bool :=
  if (!decide ((s1.length : Int) = (s2.length : Int))) = true then
  some false
  else
  ((QV (t1 (X9 s1 s2)) 0) : Option ((Bool) ⊕ (Unit))).bind (Sum.elim (fun q' => some q') (t0 (some true)))
theorem Zd4 (s1 : List Int) (s2 : List Int) : Le (JH s1 s2) (QC s1 s2) := by
  unfold JH QC
  with_reducible repeat' (first | exact Le.refl _ | apply Le.bind | apply Le.ite | apply Le.loop | apply Le.t0 | apply Le.t1 | apply Le.elim | apply Zdk | intro _)

noncomputable def ZaB (s : List Int) : Option (Int × Bool × Bool) :=
  if (decide ((s.length : Int) < 16)) = true then
  some (0, false, false)
  else
  (slc s 0 16).bind fun l =>
  (tov 16 l).bind fun v =>
  (ZP v 2).bind fun x =>
  (shl .i64 (i64 x) 24).bind fun q =>
  (ZP v 3).bind fun x2 =>
  (shl .i64 (i64 x2) 16).bind fun q2 =>
  (ZP v 4).bind fun x3 =>
  (shl .i64 (i64 x3) 8).bind fun q3 =>
  (ZP v 5).bind fun x4 =>
  (QM (bor .i64 (bor .i64 (bor .i64 q q2) q3) (i64 x4)) 1 1073741824).bind fun y =>
  (gd ((!y) == false) [] (slc v.toList 0 10)).bind fun l2 =>
  (gd ((!y) == false) [] (ZcS (bor .i64 (bor .i64 (bor .i64 q q2) q3) (i64 x4)))).bind fun y2 =>
  (gd ((!y) == false) false (JH l2 y2)).bind fun y3 =>
  if ((!y) || (!y3)) = true then
  some (0, false, false)
  else
  (ZP v 10).bind fun x5 =>
  some ((bor .i64 (bor .i64 (bor .i64 q q2) q3) (i64 x4)), (!decide (x5 = 255)), true)
theorem Zcm (s : List Int) : Le (ZaB s) (JY s) := by
  unfold ZaB JY
  with_reducible repeat' (first | exact Le.refl _ | apply Le.bind | apply Le.ite | apply Le.gd | apply Jg | apply ZfU | apply Zd4 | intro _)

noncomputable def ZbI (m : api_Memory) (out2 : List Int) (i : Int) : Option (((List Int) × Int) ⊕ ((List Int))) :=
  if (decide (i < (m.Sectors.length : Int))) = true then
  (idx m.Sectors i).bind fun x =>
  (ZaB x).bind fun y =>
  (gd (y.2.2 == true) false (idx m.Bad i)).bind fun x2 =>
  if (y.2.2 && (!x2)) = true then
  (apz 8 out2 ([i] : List Int)).bind fun l =>
  some (.inl (l, (i64 (i + 1))))
  else
  some (.inl (out2, (i64 (i + 1))))
  else
  some (.inr out2)
theorem ZgT (m : api_Memory) (out2 : List Int) (i : Int) : Le (ZbI m out2 i) (XX m out2 i) := by
  unfold ZbI XX
  with_reducible repeat' (first | exact Le.refl _ | apply Le.bind | apply Le.ite | apply Le.gd | apply Zcm | intro _)

noncomputable def Q4 (a : Int) (cmp : Int → Int → Option Int) (o3 : List Int) (j : Int) : Option (((List Int) × Int) ⊕ ((List Int))) :=
  (gd ((decide (a < j)) == true) 0 (idx o3 j)).bind fun x =>
  (gd ((decide (a < j)) == true) 0 (idx o3 (i64 (j - 1)))).bind fun x2 =>
  (gd ((decide (a < j)) == true) 0 (cmp x x2)).bind fun y =>
  if ((decide (a < j)) && (decide (y < 0))) = true then
  (idx o3 (i64 (j - 1))).bind fun x3 =>
  (idx o3 j).bind fun x4 =>
  (idx o3 j).bind fun x5 =>
  (idx (o3.set j.toNat x3) (i64 (j - 1))).bind fun x6 =>
  some (.inl (((o3.set j.toNat x3).set (i64 (j - 1)).toNat x4), (i64 (j - 1))))
  else
  some (.inr o3)
theorem ZaU (a : Int) (cmp : Int → Int → Option Int) (o3 : List Int) (j : Int) (cmp' : Int → Int → Option Int) (h_cmp : ∀ z0 z1, Le (cmp z0 z1) (cmp' z0 z1)) : Le (Q4 a cmp o3 j) (Zx a cmp' o3 j) := by
  unfold Q4 Zx
  with_reducible repeat' (first | exact Le.refl _ | apply Le.bind | apply Le.ite | apply Le.gd | apply h_cmp | intro _)

noncomputable def Q5 (a : Int) (b : Int) (cmp : Int → Int → Option Int) (o : List Int) (i : Int) : Option (((List Int) × Int) ⊕ ((List Int))) :=
  if (decide (i < b)) = true then
  ((QV (t2 (Q4 a cmp)) (o, i)) : Option (((List Int)))).bind (t1 fun (o2 : List Int) =>
  some (.inl (o2, (i64 (i + 1)))))
  else
  some (.inr o)
theorem ZaP (a : Int) (b : Int) (cmp : Int → Int → Option Int) (o : List Int) (i : Int) (cmp' : Int → Int → Option Int) (h_cmp : ∀ z0 z1, Le (cmp z0 z1) (cmp' z0 z1)) : Le (Q5 a b cmp o i) (Zs a b cmp' o i) := by
  unfold Q5 Zs
  with_reducible repeat' (first | exact Le.refl _ | apply Le.bind | apply Le.ite | apply Le.loop | apply Le.t1 | apply Le.t2 | apply ZaU | apply h_cmp | intro _)

noncomputable def QJ (data : List Int) (a : Int) (b : Int) (cmp : Int → Int → Option Int) : Option (List Int) :=
  QV (t2 (Q5 a b cmp)) (data, (i64 (a + 1)))
theorem Jl (data : List Int) (a : Int) (b : Int) (cmp : Int → Int → Option Int) (cmp' : Int → Int → Option Int) (h_cmp : ∀ z0 z1, Le (cmp z0 z1) (cmp' z0 z1)) : Le (QJ data a b cmp) (Zy data a b cmp') := by
  unfold QJ Zy
  with_reducible repeat' (first | exact Le.refl _ | apply Le.bind | apply Le.loop | apply Le.t2 | apply ZaP | apply h_cmp | intro _)

noncomputable def XR (n : Int) (cmp : Int → Int → Option Int) (o2 : List Int) (a2 : Int) (b : Int) : Option (((List Int) × Int × Int) ⊕ ((List Int) × Int)) :=
  if (decide (b ≤ n)) = true then
  (QJ o2 a2 b cmp).bind fun y =>
  some (.inl (y, b, (i64 (b + 20))))
  else
  some (.inr (o2, a2))
theorem Zcu (n : Int) (cmp : Int → Int → Option Int) (o2 : List Int) (a2 : Int) (b : Int) (cmp' : Int → Int → Option Int) (h_cmp : ∀ z0 z1, Le (cmp z0 z1) (cmp' z0 z1)) : Le (XR n cmp o2 a2 b) (ZK n cmp' o2 a2 b) := by
  unfold XR ZK
  with_reducible repeat' (first | exact Le.refl _ | apply Le.bind | apply Le.ite | apply Jl | apply h_cmp | intro _)

noncomputable def X7 (n_ : Nat) : List Int → Int → Int → Int → (Int → Int → Option Int) → Option (List Int) := fun _ _ _ _ _ => none
theorem Zac (n_ : Nat) {z0 : List Int} {z1 : Int} {z2 : Int} {z3 : Int} {z4 : (Int → Int → Option Int)} {z4' : (Int → Int → Option Int)} : Le (X7 n_ z0 z1 z2 z3 z4) (ZI n_ z0 z1 z2 z3 z4') := fun r h => by cases h

noncomputable def XM (n : Int) (cmp : Int → Int → Option Int) (blockSize : Int) (o5 : List Int) (a4 : Int) (b2 : Int) : Option (((List Int) × Int × Int) ⊕ ((List Int) × Int)) :=
  if (decide (b2 ≤ n)) = true then
  (X7 100 o5 a4 (i64 (a4 + blockSize)) b2 cmp).bind fun y3 =>
  some (.inl (y3, b2, (i64 (b2 + (i64 (2 * blockSize))))))
  else
  some (.inr (o5, a4))
theorem ZcG (n : Int) (cmp : Int → Int → Option Int) (blockSize : Int) (o5 : List Int) (a4 : Int) (b2 : Int) (cmp' : Int → Int → Option Int) (h_cmp : ∀ z0 z1, Le (cmp z0 z1) (cmp' z0 z1)) : Le (XM n cmp blockSize o5 a4 b2) (ZE n cmp' blockSize o5 a4 b2) := by
  unfold XM ZE
  with_reducible repeat' (first | exact Le.refl _ | apply Le.bind | apply Le.ite | apply Zac | apply h_cmp | intro _)

noncomputable def XQ (n : Int) (cmp : Int → Int → Option Int) (o3 : List Int) (blockSize : Int) : Option (((List Int) × Int) ⊕ ((List Int))) :=
  if (decide (blockSize < n)) = true then
  ((QV (t3 (XM n cmp blockSize)) (o3, 0, (i64 (2 * blockSize)))) : Option (((List Int) × Int))).bind (t2 fun (o4 : List Int) (a3 : Int) =>
  if (decide ((i64 (a3 + blockSize)) < n)) = true then
  (X7 100 o4 a3 (i64 (a3 + blockSize)) n cmp).bind fun y4 =>
  some (.inl (y4, (i64 (blockSize * 2))))
  else
  some (.inl (o4, (i64 (blockSize * 2)))))
  else
  some (.inr o3)
theorem Zcy (n : Int) (cmp : Int → Int → Option Int) (o3 : List Int) (blockSize : Int) (cmp' : Int → Int → Option Int) (h_cmp : ∀ z0 z1, Le (cmp z0 z1) (cmp' z0 z1)) : Le (XQ n cmp o3 blockSize) (ZD n cmp' o3 blockSize) := by
  unfold XQ ZD
  with_reducible repeat' (first | exact Le.refl _ | apply Le.bind | apply Le.ite | apply Le.loop | apply Le.t2 | apply Le.t3 | apply ZcG | apply Zac | apply h_cmp | intro _)

noncomputable def Jf (data : List Int) (n : Int) (cmp : Int → Int → Option Int) : Option (List Int) :=
  ((QV (t3 (XR n cmp)) (data, 0, 20)) : Option (((List Int) × Int))).bind (t2 fun (o : List Int) (a : Int) =>
  (QJ o a n cmp).bind fun y2 =>
  QV (t2 (XQ n cmp)) (y2, 20))
theorem Zdz (data : List Int) (n : Int) (cmp : Int → Int → Option Int) (cmp' : Int → Int → Option Int) (h_cmp : ∀ z0 z1, Le (cmp z0 z1) (cmp' z0 z1)) : Le (Jf data n cmp) (Qe data n cmp') := by
  unfold Jf Qe
  with_reducible repeat' (first | exact Le.refl _ | apply Le.bind | apply Le.loop | apply Le.t2 | apply Le.t3 | apply Zcu | apply Jl | apply Zcy | apply h_cmp | intro _)

noncomputable def Xv (x : List Int) (cmp : Int → Int → Option Int) : Option (List Int) :=
  (Jf x (x.length : Int) cmp).bind fun y =>
  some y
theorem ZbK (x : List Int) (cmp : Int → Int → Option Int) (cmp' : Int → Int → Option Int) (h_cmp : ∀ z0 z1, Le (cmp z0 z1) (cmp' z0 z1)) : Le (Xv x cmp) (ZO x cmp') := by
  unfold Xv ZO
  with_reducible repeat' (first | exact Le.refl _ | apply Le.bind | apply Zdz | apply h_cmp | intro _)

noncomputable def ZaT (i : Int) (c0 : api_Memory) : Option Int :=
  (idx c0.Sectors i).bind fun x =>
  (ZaB x).bind fun y =>
  some y.1
theorem Zhc (i : Int) (c0 : api_Memory) : Le (ZaT i c0) (XP i c0) := by
  unfold ZaT XP
  with_reducible repeat' (first | exact Le.refl _ | apply Le.bind | apply Zcm | intro _)

noncomputable def ZcC (a : Int) (b : Int) (k : api_Memory) : Option Int :=
  (ZaT a k).bind fun y =>
  (ZaT b k).bind fun y2 =>
  some (i64 (y - y2))
theorem Zhq (a : Int) (b : Int) (k : api_Memory) : Le (ZcC a b k) (XJ a b k) := by
  unfold ZcC XJ
  with_reducible repeat' (first | exact Le.refl _ | apply Le.bind | apply Zhc | intro _)

noncomputable def Zb8 (m : api_Memory) : Option (List Int) :=
  ((QV (t2 (ZbI m)) ([], 0)) : Option (((List Int)))).bind (t1 fun (out : List Int) =>
  (Xv out (fun z0 z1 => ZcC z0 z1 m)).bind fun y2 =>
  some y2)
theorem Zfm (m : api_Memory) : Le (Zb8 m) (Xr m) := by
  unfold Zb8 Xr
  with_reducible repeat' (first | exact Le.refl _ | apply Le.bind | apply Le.loop | apply Le.t1 | apply Le.t2 | apply ZgT | apply ZbK | apply Zhq | intro _)

noncomputable def ZcR (s : List Int) (i : Int) : Option (Vector Int 97) :=
  (slc s (i64 (16 + (i64 (i * 97)))) (i64 ((i64 (16 + (i64 (i * 97)))) + 97))).bind fun l =>
  (tov 97 l).bind fun v =>
  some v
theorem ZfE (s : List Int) (i : Int) : Le (ZcR s i) (Zad s i) := by
  unfold ZcR Zad
  with_reducible repeat' (first | exact Le.refl _ | apply Le.bind | intro _)

noncomputable def Xy (s : List Int) (f : Int → Option Bool) (i : Int) : Option ((Int) ⊕ (Int) ⊕ (Unit)) :=
  if (decide (i < (s.length : Int))) = true then
  (idx s i).bind fun x =>
  (f x).bind fun y =>
  if y = true then
  some (.inr (.inl i))
  else
  some (.inl (i64 (i + 1)))
  else
  some (.inr (.inr ()))
theorem Zb1 (s : List Int) (f : Int → Option Bool) (i : Int) (f' : Int → Option Bool) (h_f : ∀ z0, Le (f z0) (f' z0)) : Le (Xy s f i) (Z3 s f' i) := by
  unfold Xy Z3
  with_reducible repeat' (first | exact Le.refl _ | apply Le.bind | apply Le.ite | apply h_f | intro _)

noncomputable def XZ (s : List Int) (f : Int → Option Bool) : Option Int :=
  ((QV (t1 (Xy s f)) 0) : Option ((Int) ⊕ (Unit))).bind (Sum.elim (fun q' => some q') (t0 (some (-1))))
theorem ZcY (s : List Int) (f : Int → Option Bool) (f' : Int → Option Bool) (h_f : ∀ z0, Le (f z0) (f' z0)) : Le (XZ s f) (Qs s f') := by
  unfold XZ Qs
  with_reducible repeat' (first | exact Le.refl _ | apply Le.bind | apply Le.loop | apply Le.t0 | apply Le.t1 | apply Le.elim | apply Zb1 | apply h_f | intro _)

noncomputable def Xu (s : List Int) (f : Int → Option Bool) : Option Bool :=
  (XZ s f).bind fun y =>
  some (decide (0 ≤ y))
theorem Zci (s : List Int) (f : Int → Option Bool) (f' : Int → Option Bool) (h_f : ∀ z0, Le (f z0) (f' z0)) : Le (Xu s f) (Z0 s f') := by
  unfold Xu Z0
  with_reducible repeat' (first | exact Le.refl _ | apply Le.bind | apply ZcY | apply h_f | intro _)

noncomputable def ZcA (b : Int) : Option Bool :=
  some (!decide (b = 255))
theorem Zhv (b : Int) : Le (ZcA b) (XN b) := by
  unfold ZcA XN
  with_reducible repeat' (first | exact Le.refl _ | apply Le.bind | intro _)

noncomputable def ZbP (p : Vector Int 97) : Option Int :=
  (ZP p 96).bind fun x =>
  if (decide (x = 0)) = true then
  some 1
  else
  (slc p.toList 0 (97 : Int)).bind fun l =>
  (Xu l (fun z0 => ZcA z0)).bind fun y =>
  if y = true then
  some 2
  else
  some 0
theorem Zfn (p : Vector Int 97) : Le (ZbP p) (JD p) := by
  unfold ZbP JD
  with_reducible repeat' (first | exact Le.refl _ | apply Le.bind | apply Le.ite | apply Zci | apply Zhv | intro _)

noncomputable def Zbr (m : api_Memory) (x : Int) (slot2 : Int) (i : Int) : Option ((Int × Int) ⊕ (Int)) :=
  if (decide (i < m.Slots)) = true then
  (idx m.Sectors x).bind fun x2 =>
  (ZcR x2 i).bind fun y2 =>
  (ZbP y2).bind fun y3 =>
  if (!decide (y3 = 0)) = true then
  some (.inl ((i64 (i + 1)), (i64 (i + 1))))
  else
  some (.inl (slot2, (i64 (i + 1))))
  else
  some (.inr slot2)
theorem Zgk (m : api_Memory) (x : Int) (slot2 : Int) (i : Int) : Le (Zbr m x slot2 i) (XB m x slot2 i) := by
  unfold Zbr XB
  with_reducible repeat' (first | exact Le.refl _ | apply Le.bind | apply Le.ite | apply ZfE | apply Zfn | intro _)

noncomputable def Zdg (m : api_Memory) : Option ring_spot :=
  (Zb8 m).bind fun y =>
  if (decide ((y.length : Int) = 0)) = true then
  some (ring_spot.mk (-1) 0)
  else
  (idx y (i64 ((y.length : Int) - 1))).bind fun x =>
  ((QV (t2 (Zbr m x)) (0, 0)) : Option ((Int))).bind (t1 fun (slot : Int) =>
  some (ring_spot.mk x slot))
theorem Zh1 (m : api_Memory) : Le (Zdg m) (JJ m) := by
  unfold Zdg JJ
  with_reducible repeat' (first | exact Le.refl _ | apply Le.bind | apply Le.ite | apply Le.loop | apply Le.t1 | apply Le.t2 | apply Zfm | apply Zgk | intro _)

noncomputable def Zdn (y3 : (List api_Memory)) (spots2 : List ring_spot) (frozen2 : Bool) (i : Int) : Option (((List ring_spot) × Bool × Int) ⊕ ((List ring_spot) × Bool)) :=
  if (decide (i < (y3.length : Int))) = true then
  (idx y3 i).bind fun x =>
  (Zdg x).bind fun y4 =>
  (apz 16 spots2 ([y4] : List ring_spot)).bind fun l2 =>
  if (decide (0 ≤ y4.sector)) = true then
  (idx x.Sectors y4.sector).bind fun x2 =>
  (ZaB x2).bind fun y5 =>
  some (.inl (l2, (frozen2 || y5.2.1), (i64 (i + 1))))
  else
  some (.inl (l2, frozen2, (i64 (i + 1))))
  else
  some (.inr (spots2, frozen2))
theorem ZhH (y3 : (List api_Memory)) (spots2 : List ring_spot) (frozen2 : Bool) (i : Int) : Le (Zdn y3 spots2 frozen2 i) (JG y3 spots2 frozen2 i) := by
  unfold Zdn JG
  with_reducible repeat' (first | exact Le.refl _ | apply Le.bind | apply Le.ite | apply Zh1 | apply Zcm | intro _)

noncomputable def ZeY (l : List api_Memory) (copies : Int) : Option ((Int) ⊕ (ring_Recorder × Int)) :=
  (Zbl l).bind fun y =>
  if (!decide (y = 0)) = true then
  some (Sum.inl y)
  else
  (QM copies 1 (l.length : Int)).bind fun y2 =>
  if (!y2) = true then
  some (Sum.inl 9)
  else
  (Zcg l).bind fun y3 =>
  ((QV (t3 (Zdn y3)) ([], false, 0)) : Option (((List ring_spot) × Bool))).bind (t2 fun (spots : List ring_spot) (frozen : Bool) =>
  some (Sum.inr ((ring_Recorder.mk (ring_bank.mk y3 spots) copies frozen false 0 false), 0)))
theorem ZjR (l : List api_Memory) (copies : Int) : Le (ZeY l copies) (Jm l copies) := by
  unfold ZeY Jm
  with_reducible repeat' (first | exact Le.refl _ | apply Le.bind | apply Le.ite | apply Le.loop | apply Le.t2 | apply Le.t3 | apply Le.elim | apply ZeA | apply Jg | apply Zfp | apply ZhH | intro _)

noncomputable def ZaK (r_ : ring_Recorder) (power : Int) : Option Int :=
  if r_.stopped = true then
  some 15
  else
  if r_.frozen = true then
  some 11
  else
  (QM power 0 1000000000).bind fun y =>
  if (!y) = true then
  some 9
  else
  some 0
theorem Zfy (r_ : ring_Recorder) (power : Int) : Le (ZaK r_ power) (Xb r_ power) := by
  unfold ZaK Xb
  with_reducible repeat' (first | exact Le.refl _ | apply Le.bind | apply Le.ite | apply Jg | intro _)

noncomputable def Zcv (f : Vector Int 64) (out2 : List api_Flaw) (i : Int) : Option (((List api_Flaw) × Int) ⊕ ((List api_Flaw))) :=
  if (decide (i < 64)) = true then
  (ZP f i).bind fun x =>
  if (decide (4095 < x)) = true then
  (app out2 ([(api_Flaw.mk i 5)] : List api_Flaw)).bind fun l =>
  some (.inl (l, (i64 (i + 1))))
  else
  some (.inl (out2, (i64 (i + 1))))
  else
  some (.inr out2)
theorem Zhr (f : Vector Int 64) (out2 : List api_Flaw) (i : Int) : Le (Zcv f out2 i) (Ja f out2 i) := by
  unfold Zcv Ja
  with_reducible repeat' (first | exact Le.refl _ | apply Le.bind | apply Le.ite | intro _)

noncomputable def Jv (w : Int) : Option Int :=
  some (i64 (QD .u16 w 2047))
theorem Zeu (w : Int) : Le (Jv w) (X6 w) := by
  unfold Jv X6
  with_reducible repeat' (first | exact Le.refl _ | apply Le.bind | intro _)

noncomputable def ZaS (f : Vector Int 64) : Option Int :=
  (ZP f 1).bind fun x =>
  (Jv x).bind fun y =>
  (ZP f 2).bind fun x2 =>
  (Jv x2).bind fun y2 =>
  (shl .i64 y2 11).bind fun q =>
  some (bor .i64 y q)
theorem Zel (f : Vector Int 64) : Le (ZaS f) (XH f) := by
  unfold ZaS XH
  with_reducible repeat' (first | exact Le.refl _ | apply Le.bind | apply Zeu | intro _)

noncomputable def Zbz (x : Int) : Option Int :=
  (shr .u16 x 8).bind fun q =>
  (Zms [0, 1, 1, 2, 1, 2, 2, 3, 1, 2, 2, 3, 2, 3, 3, 4, 1, 2, 2, 3, 2, 3, 3, 4, 2, 3, 3, 4, 3, 4, 4, 5, 1, 2, 2, 3, 2, 3, 3, 4, 2, 3, 3, 4, 3, 4, 4, 5, 2, 3, 3, 4, 3, 4, 4, 5, 3, 4, 4, 5, 4, 5, 5, 6, 1, 2, 2, 3, 2, 3, 3, 4, 2, 3, 3, 4, 3, 4, 4, 5, 2, 3, 3, 4, 3, 4, 4, 5, 3, 4, 4, 5, 4, 5, 5, 6, 2, 3, 3, 4, 3, 4, 4, 5, 3, 4, 4, 5, 4, 5, 5, 6, 3, 4, 4, 5, 4, 5, 5, 6, 4, 5, 5, 6, 5, 6, 6, 7, 1, 2, 2, 3, 2, 3, 3, 4, 2, 3, 3, 4, 3, 4, 4, 5, 2, 3, 3, 4, 3, 4, 4, 5, 3, 4, 4, 5, 4, 5, 5, 6, 2, 3, 3, 4, 3, 4, 4, 5, 3, 4, 4, 5, 4, 5, 5, 6, 3, 4, 4, 5, 4, 5, 5, 6, 4, 5, 5, 6, 5, 6, 6, 7, 2, 3, 3, 4, 3, 4, 4, 5, 3, 4, 4, 5, 4, 5, 5, 6, 3, 4, 4, 5, 4, 5, 5, 6, 4, 5, 5, 6, 5, 6, 6, 7, 3, 4, 4, 5, 4, 5, 5, 6, 4, 5, 5, 6, 5, 6, 6, 7, 4, 5, 5, 6, 5, 6, 6, 7, 5, 6, 6, 7, 6, 7, 7, 8] q).bind fun b =>
  (Zms [0, 1, 1, 2, 1, 2, 2, 3, 1, 2, 2, 3, 2, 3, 3, 4, 1, 2, 2, 3, 2, 3, 3, 4, 2, 3, 3, 4, 3, 4, 4, 5, 1, 2, 2, 3, 2, 3, 3, 4, 2, 3, 3, 4, 3, 4, 4, 5, 2, 3, 3, 4, 3, 4, 4, 5, 3, 4, 4, 5, 4, 5, 5, 6, 1, 2, 2, 3, 2, 3, 3, 4, 2, 3, 3, 4, 3, 4, 4, 5, 2, 3, 3, 4, 3, 4, 4, 5, 3, 4, 4, 5, 4, 5, 5, 6, 2, 3, 3, 4, 3, 4, 4, 5, 3, 4, 4, 5, 4, 5, 5, 6, 3, 4, 4, 5, 4, 5, 5, 6, 4, 5, 5, 6, 5, 6, 6, 7, 1, 2, 2, 3, 2, 3, 3, 4, 2, 3, 3, 4, 3, 4, 4, 5, 2, 3, 3, 4, 3, 4, 4, 5, 3, 4, 4, 5, 4, 5, 5, 6, 2, 3, 3, 4, 3, 4, 4, 5, 3, 4, 4, 5, 4, 5, 5, 6, 3, 4, 4, 5, 4, 5, 5, 6, 4, 5, 5, 6, 5, 6, 6, 7, 2, 3, 3, 4, 3, 4, 4, 5, 3, 4, 4, 5, 4, 5, 5, 6, 3, 4, 4, 5, 4, 5, 5, 6, 4, 5, 5, 6, 5, 6, 6, 7, 3, 4, 4, 5, 4, 5, 5, 6, 4, 5, 5, 6, 5, 6, 6, 7, 4, 5, 5, 6, 5, 6, 6, 7, 5, 6, 6, 7, 6, 7, 7, 8] (QD .u16 x 255)).bind fun b2 =>
  some (i64 (u8 (b + b2)))
theorem Zgj (x : Int) : Le (Zbz x) (J3 x) := by
  unfold Zbz J3
  with_reducible repeat' (first | exact Le.refl _ | apply Le.bind | intro _)

noncomputable def Zc1 (w : Int) : Option Bool :=
  (gd ((decide (w ≤ 4095)) == true) 0 (Zbz w)).bind fun y =>
  (gd ((decide (w ≤ 4095)) == true) 0 (rem y 2)).bind fun q =>
  some ((decide (w ≤ 4095)) && (decide (q = 1)))
theorem Zg2 (w : Int) : Le (Zc1 w) (ZaR w) := by
  unfold Zc1 ZaR
  with_reducible repeat' (first | exact Le.refl _ | apply Le.bind | apply Le.gd | apply Zgj | intro _)

noncomputable def ZcE (f : Vector Int 64) (out5 : List api_Flaw) (i2 : Int) : Option (((List api_Flaw) × Int) ⊕ ((List api_Flaw))) :=
  if (decide (i2 < 64)) = true then
  (ZP f i2).bind fun x4 =>
  (Zc1 x4).bind fun y2 =>
  if (!y2) = true then
  (app out5 ([(api_Flaw.mk i2 2)] : List api_Flaw)).bind fun l3 =>
  some (.inl (l3, (i64 (i2 + 1))))
  else
  some (.inl (out5, (i64 (i2 + 1))))
  else
  some (.inr out5)
theorem Zg3 (f : Vector Int 64) (out5 : List api_Flaw) (i2 : Int) : Le (ZcE f out5 i2) (Jj f out5 i2) := by
  unfold ZcE Jj
  with_reducible repeat' (first | exact Le.refl _ | apply Le.bind | apply Le.ite | apply Zg2 | intro _)

noncomputable def ZcI (f : Vector Int 64) (n2 : Int) (i : Int) : Option ((Int × Int) ⊕ (Int)) :=
  if (decide (i < 60)) = true then
  (ZP f (i64 (i + 1))).bind fun x =>
  (Jv x).bind fun y =>
  some (.inl ((Zcd .i64 n2 y), (i64 (i + 1))))
  else
  some (.inr n2)
theorem Zhb (f : Vector Int 64) (n2 : Int) (i : Int) : Le (ZcI f n2 i) (Je f n2 i) := by
  unfold ZcI Je
  with_reducible repeat' (first | exact Le.refl _ | apply Le.bind | apply Le.ite | apply Zeu | intro _)

noncomputable def Zem (f : Vector Int 64) : Option Int :=
  ((QV (t2 (ZcI f)) (0, 0)) : Option ((Int))).bind (t1 fun (n : Int) =>
  some n)
theorem Zjq (f : Vector Int 64) : Le (Zem f) (ZaL f) := by
  unfold Zem ZaL
  with_reducible repeat' (first | exact Le.refl _ | apply Le.bind | apply Le.loop | apply Le.t1 | apply Le.t2 | apply Zhb | intro _)

noncomputable def ZbB (f : Vector Int 64) (i : Int) (n4 : Int) (k : Int) : Option ((Int × Int) ⊕ (Int)) :=
  if (decide (0 ≤ k)) = true then
  (shl .i64 n4 1).bind fun q =>
  (ZP f i).bind fun x =>
  (shr .u16 x k).bind fun q2 =>
  if (!((!decide ((QD .i64 n4 2097152) = 0)) == (decide ((QD .u16 q2 1) = 1)))) = true then
  some (.inl ((Zcd .i64 (QD .i64 q 4194303) 2097167), (i64 (k - 1))))
  else
  some (.inl ((QD .i64 q 4194303), (i64 (k - 1))))
  else
  some (.inr n4)
theorem Zgq (f : Vector Int 64) (i : Int) (n4 : Int) (k : Int) : Le (ZbB f i n4 k) (Xe f i n4 k) := by
  unfold ZbB Xe
  with_reducible repeat' (first | exact Le.refl _ | apply Le.bind | apply Le.ite | intro _)

noncomputable def Zbs (f : Vector Int 64) (n2 : Int) (i : Int) : Option ((Int × Int) ⊕ (Int)) :=
  if (decide (i < 62)) = true then
  ((QV (t2 (ZbB f i)) (n2, 11)) : Option ((Int))).bind (t1 fun (n3 : Int) =>
  some (.inl (n3, (i64 (i + 1)))))
  else
  some (.inr n2)
theorem Zgo (f : Vector Int 64) (n2 : Int) (i : Int) : Le (Zbs f n2 i) (XC f n2 i) := by
  unfold Zbs XC
  with_reducible repeat' (first | exact Le.refl _ | apply Le.bind | apply Le.ite | apply Le.loop | apply Le.t1 | apply Le.t2 | apply Zgq | intro _)

noncomputable def Zdo (f : Vector Int 64) : Option Int :=
  ((QV (t2 (Zbs f)) (0, 0)) : Option ((Int))).bind (t1 fun (n : Int) =>
  some n)
theorem ZhE (f : Vector Int 64) : Le (Zdo f) (JM f) := by
  unfold Zdo JM
  with_reducible repeat' (first | exact Le.refl _ | apply Le.bind | apply Le.loop | apply Le.t1 | apply Le.t2 | apply Zgo | intro _)

noncomputable def ZcQ (f : Vector Int 64) : Option (List api_Flaw) :=
  ((QV (t2 (Zcv f)) ([], 0)) : Option (((List api_Flaw)))).bind (t1 fun (out : List api_Flaw) =>
  if (decide (0 < (out.length : Int))) = true then
  some out
  else
  (((ZP f 0).bind fun x2 =>
  (ZaS f).bind fun y =>
  (rem y 4).bind fun q =>
  (ZP gv_frame_syncs q).bind fun x3 =>
  if (!decide (x2 = x3)) = true then
  (app out ([(api_Flaw.mk 0 1)] : List api_Flaw)).bind fun l2 =>
  some l2
  else
  some out) : Option (((List api_Flaw)))).bind (t1 fun (out3 : List api_Flaw) =>
  ((QV (t2 (ZcE f)) (out3, 1)) : Option (((List api_Flaw)))).bind (t1 fun (out4 : List api_Flaw) =>
  (((ZP f 61).bind fun x5 =>
  (Jv x5).bind fun y3 =>
  (Zem f).bind fun y4 =>
  if (!decide (y3 = y4)) = true then
  (app out4 ([(api_Flaw.mk 61 3)] : List api_Flaw)).bind fun l4 =>
  some l4
  else
  some out4) : Option (((List api_Flaw)))).bind (t1 fun (out6 : List api_Flaw) =>
  (ZP f 62).bind fun x6 =>
  (Jv x6).bind fun y5 =>
  (shl .i64 y5 11).bind fun q2 =>
  (ZP f 63).bind fun x7 =>
  (Jv x7).bind fun y6 =>
  (Zdo f).bind fun y7 =>
  if (!decide ((bor .i64 q2 y6) = y7)) = true then
  (app out6 ([(api_Flaw.mk 62 4)] : List api_Flaw)).bind fun l5 =>
  some l5
  else
  some out6))))
theorem ZfN (f : Vector Int 64) : Le (ZcQ f) (Zab f) := by
  unfold ZcQ Zab
  with_reducible repeat' (first | exact Le.refl _ | apply Le.bind | apply Le.ite | apply Le.loop | apply Le.t1 | apply Le.t2 | apply Zhr | apply Zel | apply Zg3 | apply Zeu | apply Zjq | apply ZhE | intro _)

noncomputable def Zb3 (f : Vector Int 64) : Option (Int × Bool) :=
  (ZP f 1).bind fun x =>
  (Zc1 x).bind fun y =>
  (gd ((!y) == false) 0 (ZP f 2)).bind fun x2 =>
  (gd ((!y) == false) false (Zc1 x2)).bind fun y2 =>
  if ((!y) || (!y2)) = true then
  some (0, false)
  else
  (ZaS f).bind fun y3 =>
  some (y3, true)
theorem Zfq (f : Vector Int 64) : Le (Zb3 f) (X8 f) := by
  unfold Zb3 X8
  with_reducible repeat' (first | exact Le.refl _ | apply Le.bind | apply Le.ite | apply Le.gd | apply Zg2 | apply Zel | intro _)

noncomputable def Zcc (number : Int) (memories : Int) (copies : Int) (out2 : List Int) (i : Int) : Option (((List Int) × Int) ⊕ ((List Int))) :=
  if (decide (i < copies)) = true then
  (rem (i64 (number + i)) memories).bind fun q =>
  (apz 8 out2 ([q] : List Int)).bind fun l =>
  some (.inl (l, (i64 (i + 1))))
  else
  some (.inr out2)
theorem ZgQ (number : Int) (memories : Int) (copies : Int) (out2 : List Int) (i : Int) : Le (Zcc number memories copies out2 i) (X3 number memories copies out2 i) := by
  unfold Zcc X3
  with_reducible repeat' (first | exact Le.refl _ | apply Le.bind | apply Le.ite | intro _)

noncomputable def ZdO (number : Int) (memories : Int) (copies : Int) : Option (List Int) :=
  ((QV (t2 (Zcc number memories copies)) ([], 0)) : Option (((List Int)))).bind (t1 fun (out : List Int) =>
  some out)
theorem ZiE (number : Int) (memories : Int) (copies : Int) : Le (ZdO number memories copies) (Zaj number memories copies) := by
  unfold ZdO Zaj
  with_reducible repeat' (first | exact Le.refl _ | apply Le.bind | apply Le.loop | apply Le.t1 | apply Le.t2 | apply ZgQ | intro _)

noncomputable def Jd (b : ring_bank) (k : Int) : Option Bool :=
  (idx b.spots k).bind fun x =>
  (gd ((decide (x.sector < 0)) == false) (ring_spot.mk 0 0) (idx b.spots k)).bind fun x2 =>
  (gd ((decide (x.sector < 0)) == false) (api_Memory.mk 0 0 [] [] []) (idx b.memories k)).bind fun x3 =>
  some ((decide (x.sector < 0)) || (decide (x2.slot = x3.Slots)))
theorem Za3 (b : ring_bank) (k : Int) : Le (Jd b k) (QK b k) := by
  unfold Jd QK
  with_reducible repeat' (first | exact Le.refl _ | apply Le.bind | apply Le.gd | intro _)

noncomputable def Za8 (b : ring_bank) (k : Int) (x : api_Memory) (i : Int) : Option ((Int) ⊕ (Int) ⊕ (Unit)) :=
  if (decide (i < (x.Sectors.length : Int))) = true then
  (idx b.spots k).bind fun x2 =>
  (rem (i64 ((i64 (x2.sector + 1)) + i)) (x.Sectors.length : Int)).bind fun q =>
  (idx x.Bad q).bind fun x3 =>
  (gd ((!x3) == true) 0 (idx x.Wear q)).bind fun x4 =>
  if ((!x3) && (decide (x4 < x.Limit))) = true then
  some (.inr (.inl q))
  else
  some (.inl (i64 (i + 1)))
  else
  some (.inr (.inr ()))
theorem Zf3 (b : ring_bank) (k : Int) (x : api_Memory) (i : Int) : Le (Za8 b k x i) (Xn b k x i) := by
  unfold Za8 Xn
  with_reducible repeat' (first | exact Le.refl _ | apply Le.bind | apply Le.ite | apply Le.gd | intro _)

noncomputable def JV (b : ring_bank) (k : Int) : Option Int :=
  (idx b.memories k).bind fun x =>
  ((QV (t1 (Za8 b k x)) 0) : Option ((Int) ⊕ (Unit))).bind (Sum.elim (fun q' => some q') (t0 (some (-1))))
theorem ZbV (b : ring_bank) (k : Int) : Le (JV b k) (Q7 b k) := by
  unfold JV Q7
  with_reducible repeat' (first | exact Le.refl _ | apply Le.bind | apply Le.loop | apply Le.t0 | apply Le.t1 | apply Le.elim | apply Zf3 | intro _)

noncomputable def ZaI (b : ring_bank) (l : List Int) (i : Int) : Option ((Int) ⊕ (Int) ⊕ (Unit)) :=
  if (decide (i < (l.length : Int))) = true then
  (idx l i).bind fun x =>
  (Jd b x).bind fun y =>
  (gd (y == true) 0 (JV b x)).bind fun y2 =>
  if (y && (decide (y2 < 0))) = true then
  some (.inr (.inl 4))
  else
  some (.inl (i64 (i + 1)))
  else
  some (.inr (.inr ()))
theorem Zfx (b : ring_bank) (l : List Int) (i : Int) : Le (ZaI b l i) (Q9 b l i) := by
  unfold ZaI Q9
  with_reducible repeat' (first | exact Le.refl _ | apply Le.bind | apply Le.ite | apply Le.gd | apply Za3 | apply ZbV | intro _)

noncomputable def JZ (sector : Int) (x : api_Memory) (most2 : Int) (i : Int) : Option ((Int × Int) ⊕ (Int)) :=
  if (decide (i < (x.Sectors.length : Int))) = true then
  (idx x.Sectors i).bind fun x2 =>
  (ZaB x2).bind fun y =>
  if (y.2.2 && (!decide (i = sector))) = true then
  some (.inl ((max most2 y.1), (i64 (i + 1))))
  else
  some (.inl (most2, (i64 (i + 1))))
  else
  some (.inr most2)
theorem Zey (sector : Int) (x : api_Memory) (most2 : Int) (i : Int) : Le (JZ sector x most2 i) (QN sector x most2 i) := by
  unfold JZ QN
  with_reducible repeat' (first | exact Le.refl _ | apply Le.bind | apply Le.ite | apply Zcm | intro _)

noncomputable def Jx (b : ring_bank) (k : Int) (sector : Int) : Option Int :=
  (((idx b.memories k).bind fun x =>
  QV (t2 (JZ sector x)) (0, 0)) : Option ((Int))).bind (t1 fun (most : Int) =>
  some (i64 (most + 1)))
theorem Zcs (b : ring_bank) (k : Int) (sector : Int) : Le (Jx b k sector) (QE b k sector) := by
  unfold Jx QE
  with_reducible repeat' (first | exact Le.refl _ | apply Le.bind | apply Le.loop | apply Le.t1 | apply Le.t2 | apply Zey | intro _)

noncomputable def ZaG (b : ring_bank) (l : List Int) (i2 : Int) : Option ((Int) ⊕ (Int) ⊕ (Unit)) :=
  if (decide (i2 < (l.length : Int))) = true then
  (idx l i2).bind fun x2 =>
  (Jd b x2).bind fun y3 =>
  (gd (y3 == true) 0 (JV b x2)).bind fun y4 =>
  (gd (y3 == true) 0 (Jx b x2 y4)).bind fun y5 =>
  if (y3 && (decide (1073741824 < y5))) = true then
  some (.inr (.inl 3))
  else
  some (.inl (i64 (i2 + 1)))
  else
  some (.inr (.inr ()))
theorem Zfw (b : ring_bank) (l : List Int) (i2 : Int) : Le (ZaG b l i2) (Xa b l i2) := by
  unfold ZaG Xa
  with_reducible repeat' (first | exact Le.refl _ | apply Le.bind | apply Le.ite | apply Le.gd | apply Za3 | apply ZbV | apply Zcs | intro _)

noncomputable def Zb0 (b : ring_bank) (l : List Int) : Option Int :=
  ((QV (t1 (ZaI b l)) 0) : Option ((Int) ⊕ (Unit))).bind (Sum.elim (fun q' => some q') (t0 (((QV (t1 (ZaG b l)) 0) : Option ((Int) ⊕ (Unit))).bind (Sum.elim (fun q' => some q') (t0 (some 0))))))
theorem ZgJ (b : ring_bank) (l : List Int) : Le (Zb0 b l) (X5 b l) := by
  unfold Zb0 X5
  with_reducible repeat' (first | exact Le.refl _ | apply Le.bind | apply Le.loop | apply Le.t0 | apply Le.t1 | apply Le.elim | apply Zfx | apply Zfw | intro _)

noncomputable def Zdh (f : Vector Int 64) (i : Int) : Option ((Int) ⊕ (Bool) ⊕ (Unit)) :=
  if (decide (i < 64)) = true then
  (ZP f i).bind fun x =>
  if (decide (4095 < x)) = true then
  some (.inr (.inl true))
  else
  some (.inl (i64 (i + 1)))
  else
  some (.inr (.inr ()))
theorem Zh9 (f : Vector Int 64) (i : Int) : Le (Zdh f i) (JE f i) := by
  unfold Zdh JE
  with_reducible repeat' (first | exact Le.refl _ | apply Le.bind | apply Le.ite | intro _)

noncomputable def Ze6 (f : Vector Int 64) : Option Bool :=
  ((QV (t1 (Zdh f)) 0) : Option ((Bool) ⊕ (Unit))).bind (Sum.elim (fun q' => some q') (t0 (some false)))
theorem ZjI (f : Vector Int 64) : Le (Ze6 f) (Zbx f) := by
  unfold Ze6 Zbx
  with_reducible repeat' (first | exact Le.refl _ | apply Le.bind | apply Le.loop | apply Le.t0 | apply Le.t1 | apply Le.elim | apply Zh9 | intro _)

noncomputable def ZbL (p : Vector Int 96) (i : Int) (w : Int) : Option (Vector Int 96) :=
  (quo .i64 i 2).bind fun q =>
  (rem i 2).bind fun q2 =>
  if (decide (q2 = 0)) = true then
  (shr .u16 w 4).bind fun q3 =>
  (ZP p (i64 ((i64 (q * 3)) + 1))).bind fun x =>
  (ZP p (i64 (q * 3))).bind fun x2 =>
  (shl .u16 (QD .u16 w 15) 4).bind fun q4 =>
  (ZP (JQ p (i64 (q * 3)) (u8 q3)) (i64 ((i64 (q * 3)) + 1))).bind fun x3 =>
  some (JQ (JQ p (i64 (q * 3)) (u8 q3)) (i64 ((i64 (q * 3)) + 1)) (bor .u8 (u8 q4) (QD .u8 x 15)))
  else
  (ZP p (i64 ((i64 (q * 3)) + 1))).bind fun x4 =>
  (shr .u16 w 8).bind fun q5 =>
  (ZP p (i64 ((i64 (q * 3)) + 1))).bind fun x5 =>
  (ZP (JQ p (i64 ((i64 (q * 3)) + 1)) (bor .u8 (QD .u8 x4 240) (u8 q5))) (i64 ((i64 (q * 3)) + 2))).bind fun x6 =>
  some (JQ (JQ p (i64 ((i64 (q * 3)) + 1)) (bor .u8 (QD .u8 x4 240) (u8 q5))) (i64 ((i64 (q * 3)) + 2)) (u8 w))
theorem ZgH (p : Vector Int 96) (i : Int) (w : Int) : Le (ZbL p i w) (X4 p i w) := by
  unfold ZbL X4
  with_reducible repeat' (first | exact Le.refl _ | apply Le.bind | apply Le.ite | intro _)

noncomputable def Zdq (f : Vector Int 64) (o : Vector Int 96) (i : Int) : Option (((Vector Int 96) × Int) ⊕ ((Vector Int 96))) :=
  if (decide (i < 64)) = true then
  (ZP f i).bind fun x =>
  (ZbL o i x).bind fun y =>
  some (.inl (y, (i64 (i + 1))))
  else
  some (.inr o)
theorem Zh2 (f : Vector Int 64) (o : Vector Int 96) (i : Int) : Le (Zdq f o i) (JI f o i) := by
  unfold Zdq JI
  with_reducible repeat' (first | exact Le.refl _ | apply Le.bind | apply Le.ite | apply ZgH | intro _)

noncomputable def Zfg (p : Vector Int 96) (f : Vector Int 64) : Option (Vector Int 96) :=
  QV (t2 (Zdq f)) (p, 0)
theorem ZjP (p : Vector Int 96) (f : Vector Int 64) : Le (Zfg p f) (Zcw p f) := by
  unfold Zfg Zcw
  with_reducible repeat' (first | exact Le.refl _ | apply Le.bind | apply Le.loop | apply Le.t2 | apply Zh2 | intro _)

noncomputable def Zdl (f : Vector Int 64) : Option ((List Int) × Int) :=
  (Ze6 f).bind fun y =>
  if y = true then
  some ([], 9)
  else
  (Zfg (Vector.replicate 96 0) f).bind fun y2 =>
  (slc y2.toList 0 (96 : Int)).bind fun l =>
  some (l, 0)
theorem ZhN (f : Vector Int 64) : Le (Zdl f) (JK f) := by
  unfold Zdl JK
  with_reducible repeat' (first | exact Le.refl _ | apply Le.bind | apply Le.ite | apply ZjI | apply ZjP | intro _)

noncomputable def Zap (q : Int) (o2 : List Int) (i : Int) : Option (((List Int) × Int) ⊕ ((List Int))) :=
  if (decide (i < ((Int.toNat (q - 0) : Nat) : Int))) = true then
  (ck (decide ((0 : Int) ≤ i) && decide (i < ((Int.toNat (q - 0) : Nat) : Int)))).bind fun u2 =>
  (idx o2 (0 + i)).bind fun x2 =>
  some (.inl ((o2.set (0 + i).toNat 255), (i64 (i + 1))))
  else
  some (.inr o2)
theorem Ze1 (q : Int) (o2 : List Int) (i : Int) : Le (Zap q o2 i) (Qq q o2 i) := by
  unfold Zap Qq
  with_reducible repeat' (first | exact Le.refl _ | apply Le.bind | apply Le.ite | intro _)

noncomputable def Zaq (s : List Int) (o4 : List Int) (i2 : Int) : Option (((List Int) × Int) ⊕ ((List Int))) :=
  if (decide (i2 < (s.length : Int))) = true then
  (idx o4 i2).bind fun x3 =>
  some (.inl ((o4.set i2.toNat 255), (i64 (i2 + 1))))
  else
  some (.inr o4)
theorem Zfh (s : List Int) (o4 : List Int) (i2 : Int) : Le (Zaq s o4 i2) (Qr s o4 i2) := by
  unfold Zaq Qr
  with_reducible repeat' (first | exact Le.refl _ | apply Le.bind | apply Le.ite | intro _)

noncomputable def Zbt (s : List Int) (power : Int) : Option (Int × Bool × (List Int)) :=
  if (decide (power = 0)) = true then
  (quo .i64 (s.length : Int) 2).bind fun q =>
  (slp s 0 q).bind fun u =>
  ((QV (t2 (Zap q)) (s, 0)) : Option (((List Int)))).bind (t1 fun (o : List Int) =>
  some ((max (i64 (power - 1)) 0), (decide (0 < power)), o))
  else
  ((QV (t2 (Zaq s)) (s, 0)) : Option (((List Int)))).bind (t1 fun (o3 : List Int) =>
  some ((max (i64 (power - 1)) 0), (decide (0 < power)), o3))
theorem Zgh (s : List Int) (power : Int) : Le (Zbt s power) (QW s power) := by
  unfold Zbt QW
  with_reducible repeat' (first | exact Le.refl _ | apply Le.bind | apply Le.ite | apply Le.loop | apply Le.t1 | apply Le.t2 | apply Ze1 | apply Zfh | intro _)

noncomputable def Zbu (at_ : Int) (data : List Int) (o2 : List Int) (power3 : Int) (i : Int) : Option (((List Int) × Int × Int) ⊕ (Int × Bool × (List Int)) ⊕ ((List Int) × Int)) :=
  if (decide (i < (data.length : Int))) = true then
  (idx data i).bind fun x =>
  if (decide (power3 = 0)) = true then
  (idx o2 (i64 (at_ + i))).bind fun x2 =>
  (idx o2 (i64 (at_ + i))).bind fun x3 =>
  some (.inr (.inl (0, false, (o2.set (i64 (at_ + i)).toNat (QD .u8 x2 (bor .u8 x 15))))))
  else
  (idx o2 (i64 (at_ + i))).bind fun x4 =>
  (idx o2 (i64 (at_ + i))).bind fun x5 =>
  some (.inl ((o2.set (i64 (at_ + i)).toNat (QD .u8 x4 x)), (i64 (power3 - 1)), (i64 (i + 1))))
  else
  some (.inr (.inr (o2, power3)))
theorem Zgp (at_ : Int) (data : List Int) (o2 : List Int) (power3 : Int) (i : Int) : Le (Zbu at_ data o2 power3 i) (QL at_ data o2 power3 i) := by
  unfold Zbu QL
  with_reducible repeat' (first | exact Le.refl _ | apply Le.bind | apply Le.ite | intro _)

noncomputable def Zbq (s : List Int) (at_ : Int) (data : List Int) (power : Int) : Option (Int × Bool × (List Int)) :=
  ((QV (t3 (Zbu at_ data)) (s, power, 0)) : Option ((Int × Bool × (List Int)) ⊕ ((List Int) × Int))).bind (Sum.elim (fun q' => some q') (t2 fun (o : List Int) (power2 : Int) =>
  some (power2, true, o)))
theorem ZeM (s : List Int) (at_ : Int) (data : List Int) (power : Int) : Le (Zbq s at_ data power) (QT s at_ data power) := by
  unfold Zbq QT
  with_reducible repeat' (first | exact Le.refl _ | apply Le.bind | apply Le.loop | apply Le.t2 | apply Le.t3 | apply Le.elim | apply Zgp | intro _)

noncomputable def Za0 (b : ring_Recorder) (k : Int) (power : Int) : Option (Int × Bool × ring_Recorder) :=
  (idx b.bank.memories k).bind fun x =>
  (JV b.bank k).bind fun y =>
  (Jx b.bank k y).bind fun y2 =>
  (idx x.Wear y).bind fun x2 =>
  (idx x.Wear y).bind fun x3 =>
  (idx x.Sectors y).bind fun x8 =>
  (Zbt x8 power).bind fun y3 =>
  if (!y3.2.1) = true then
  some (y3.1, false, (ring_Recorder.mk (ring_bank.mk ((b.bank.memories.set k.toNat (api_Memory.mk x.Slots x.Limit x.Sectors (x.Wear.set y.toNat (i64 (x2 + 1))) x.Bad)).set k.toNat (api_Memory.mk x.Slots x.Limit (x.Sectors.set y.toNat y3.2.2) (x.Wear.set y.toNat (i64 (x2 + 1))) x.Bad)) b.bank.spots) b.copies b.frozen b.stopped b.last b.some_))
  else
  (((idx ((b.bank.memories.set k.toNat (api_Memory.mk x.Slots x.Limit x.Sectors (x.Wear.set y.toNat (i64 (x2 + 1))) x.Bad)).set k.toNat (api_Memory.mk x.Slots x.Limit (x.Sectors.set y.toNat y3.2.2) (x.Wear.set y.toNat (i64 (x2 + 1))) x.Bad)) k).bind fun x14 =>
  (idx x14.Sectors y).bind fun x15 =>
  (idx x14.Sectors y).bind fun x16 =>
  (ZcS y2).bind fun y4 =>
  (Zbq x15 0 y4 y3.1).bind fun y5 =>
  if y5.2.1 = true then
  (idx b.bank.spots k).bind fun x22 =>
  some ((((b.bank.memories.set k.toNat (api_Memory.mk x.Slots x.Limit x.Sectors (x.Wear.set y.toNat (i64 (x2 + 1))) x.Bad)).set k.toNat (api_Memory.mk x.Slots x.Limit (x.Sectors.set y.toNat y3.2.2) (x.Wear.set y.toNat (i64 (x2 + 1))) x.Bad)).set k.toNat (api_Memory.mk x14.Slots x14.Limit (x14.Sectors.set y.toNat y5.2.2) x14.Wear x14.Bad)), (b.bank.spots.set k.toNat (ring_spot.mk y 0)), y5.1, y5.2.1)
  else
  some ((((b.bank.memories.set k.toNat (api_Memory.mk x.Slots x.Limit x.Sectors (x.Wear.set y.toNat (i64 (x2 + 1))) x.Bad)).set k.toNat (api_Memory.mk x.Slots x.Limit (x.Sectors.set y.toNat y3.2.2) (x.Wear.set y.toNat (i64 (x2 + 1))) x.Bad)).set k.toNat (api_Memory.mk x14.Slots x14.Limit (x14.Sectors.set y.toNat y5.2.2) x14.Wear x14.Bad)), b.bank.spots, y5.1, y5.2.1)) : Option (((List api_Memory) × (List ring_spot) × Int × Bool))).bind (t4 fun (memories : List api_Memory) (spots : List ring_spot) (power2 : Int) (all : Bool) =>
  some (power2, all, (ring_Recorder.mk (ring_bank.mk memories spots) b.copies b.frozen b.stopped b.last b.some_)))
theorem ZfF (b : ring_Recorder) (k : Int) (power : Int) : Le (Za0 b k power) (Xl b k power) := by
  unfold Za0 Xl
  with_reducible repeat' (first | exact Le.refl _ | apply Le.bind | apply Le.ite | apply Le.t4 | apply ZbV | apply Zcs | apply Zgh | apply ZfU | apply ZeM | intro _)

noncomputable def Zcj (b : ring_Recorder) (k : Int) (data : List Int) (power : Int) : Option (Int × Bool × ring_Recorder) :=
  (((Jd b.bank k).bind fun y =>
  if y = true then
  (Za0 b k power).bind fun y2 =>
  if (!y2.2.1) = true then
  some (.inl (y2.1, false, y2.2.2))
  else
  some (.inr (y2.2.2.bank.memories, y2.2.2.bank.spots, y2.2.2.copies, y2.2.2.frozen, y2.2.2.stopped, y2.2.2.last, y2.2.2.some_, y2.1))
  else
  some (.inr (b.bank.memories, b.bank.spots, b.copies, b.frozen, b.stopped, b.last, b.some_, power))) : Option ((Int × Bool × ring_Recorder) ⊕ ((List api_Memory) × (List ring_spot) × Int × Bool × Bool × Int × Bool × Int))).bind (Sum.elim (fun q' => some q') (t8 fun (memories : List api_Memory) (spots : List ring_spot) (copies : Int) (frozen : Bool) (stopped : Bool) (last : Int) (some_ : Bool) (power2 : Int) =>
  (idx spots k).bind fun x =>
  (idx memories k).bind fun x2 =>
  (idx x2.Sectors x.sector).bind fun x3 =>
  (idx memories k).bind fun x4 =>
  (idx x2.Sectors x.sector).bind fun x5 =>
  (apz 1 data ([0] : List Int)).bind fun l =>
  (Zbq x3 (i64 (16 + (i64 (x.slot * 97)))) l power2).bind fun y3 =>
  some (y3.1, y3.2.1, (ring_Recorder.mk (ring_bank.mk (memories.set k.toNat (api_Memory.mk x2.Slots x2.Limit (x2.Sectors.set x.sector.toNat y3.2.2) x2.Wear x2.Bad)) (spots.set k.toNat (ring_spot.mk x.sector (i64 (x.slot + 1))))) copies frozen stopped last some_))))
theorem Zgx (b : ring_Recorder) (k : Int) (data : List Int) (power : Int) : Le (Zcj b k data power) (XY b k data power) := by
  unfold Zcj XY
  with_reducible repeat' (first | exact Le.refl _ | apply Le.bind | apply Le.ite | apply Le.t8 | apply Le.elim | apply Za3 | apply ZfF | apply ZeM | intro _)

noncomputable def Jp (y4 : (List Int)) (y6 : (List Int) × Int) (memories2 : List api_Memory) (spots2 : List ring_spot) (copies2 : Int) (frozen2 : Bool) (stopped2 : Bool) (last2 : Int) (some_2 : Bool) (power3 : Int) (i : Int) : Option (((List api_Memory) × (List ring_spot) × Int × Bool × Bool × Int × Bool × Int × Int) ⊕ (Int × Bool × Int × ring_Recorder) ⊕ ((List api_Memory) × (List ring_spot) × Int × Bool × Bool × Int × Bool × Int)) :=
  if (decide (i < (y4.length : Int))) = true then
  (idx y4 i).bind fun x =>
  (slc y6.1 0 (y6.1.length : Int)).bind fun l =>
  (Zcj (ring_Recorder.mk (ring_bank.mk memories2 spots2) copies2 frozen2 stopped2 last2 some_2) x l power3).bind fun y7 =>
  if (!y7.2.1) = true then
  some (.inr (.inl (y7.1, false, 0, (ring_Recorder.mk y7.2.2.bank y7.2.2.copies y7.2.2.frozen true y7.2.2.last y7.2.2.some_))))
  else
  some (.inl (y7.2.2.bank.memories, y7.2.2.bank.spots, y7.2.2.copies, y7.2.2.frozen, y7.2.2.stopped, y7.2.2.last, y7.2.2.some_, y7.1, (i64 (i + 1))))
  else
  some (.inr (.inr (memories2, spots2, copies2, frozen2, stopped2, last2, some_2, power3)))
theorem ZdS (y4 : (List Int)) (y6 : (List Int) × Int) (memories2 : List api_Memory) (spots2 : List ring_spot) (copies2 : Int) (frozen2 : Bool) (stopped2 : Bool) (last2 : Int) (some_2 : Bool) (power3 : Int) (i : Int) : Le (Jp y4 y6 memories2 spots2 copies2 frozen2 stopped2 last2 some_2 power3 i) (Z6 y4 y6 memories2 spots2 copies2 frozen2 stopped2 last2 some_2 power3 i) := by
  unfold Jp Z6
  with_reducible repeat' (first | exact Le.refl _ | apply Le.bind | apply Le.ite | apply Zgx | intro _)

noncomputable def Zag (r_ : ring_Recorder) (f : Vector Int 64) (power : Int) : Option (Int × Bool × Int × ring_Recorder) :=
  (ZaK r_ power).bind fun y =>
  if (!decide (y = 0)) = true then
  some (0, false, y, r_)
  else
  (ZcQ f).bind fun y2 =>
  if (decide (0 < (y2.length : Int))) = true then
  some (0, false, 2, r_)
  else
  (Zb3 f).bind fun y3 =>
  (ZdO y3.1 (r_.bank.memories.length : Int) r_.copies).bind fun y4 =>
  (Zb0 r_.bank y4).bind fun y5 =>
  if (!decide (y5 = 0)) = true then
  some (0, false, y5, r_)
  else
  (Zdl f).bind fun y6 =>
  ((QV (t9 (Jp y4 y6)) (r_.bank.memories, r_.bank.spots, r_.copies, r_.frozen, r_.stopped, r_.last, r_.some_, power, 0)) : Option ((Int × Bool × Int × ring_Recorder) ⊕ ((List api_Memory) × (List ring_spot) × Int × Bool × Bool × Int × Bool × Int))).bind (Sum.elim (fun q' => some q') (t8 fun (memories : List api_Memory) (spots : List ring_spot) (copies : Int) (frozen : Bool) (stopped : Bool) (last : Int) (some_ : Bool) (power2 : Int) =>
  some (power2, true, 0, (ring_Recorder.mk (ring_bank.mk memories spots) copies frozen stopped y3.1 true))))
theorem ZeD (r_ : ring_Recorder) (f : Vector Int 64) (power : Int) : Le (Zag r_ f power) (Qv r_ f power) := by
  unfold Zag Qv
  with_reducible repeat' (first | exact Le.refl _ | apply Le.bind | apply Le.ite | apply Le.loop | apply Le.t8 | apply Le.t9 | apply Le.elim | apply Zfy | apply ZfN | apply Zfq | apply ZiE | apply ZgJ | apply ZhN | apply ZdS | intro _)

noncomputable def JP (r_ : ring_Recorder) : Option (List api_Memory) :=
  (Zcg r_.bank.memories).bind fun y =>
  some y
theorem Zd1 (r_ : ring_Recorder) : Le (JP r_) (Qb r_) := by
  unfold JP Qb
  with_reducible repeat' (first | exact Le.refl _ | apply Le.bind | apply Zfp | intro _)

noncomputable def ZdP (p : Vector Int 96) (i : Int) : Option Int :=
  (quo .i64 i 2).bind fun q =>
  (rem i 2).bind fun q2 =>
  if (decide (q2 = 0)) = true then
  (ZP p (i64 (q * 3))).bind fun x =>
  (shl .u16 (u16 x) 4).bind fun q3 =>
  (ZP p (i64 ((i64 (q * 3)) + 1))).bind fun x2 =>
  (shr .u16 (u16 x2) 4).bind fun q4 =>
  some (bor .u16 q3 q4)
  else
  (ZP p (i64 ((i64 (q * 3)) + 1))).bind fun x3 =>
  (shl .u16 (QD .u16 (u16 x3) 15) 8).bind fun q5 =>
  (ZP p (i64 ((i64 (q * 3)) + 2))).bind fun x4 =>
  some (bor .u16 q5 (u16 x4))
theorem Zix (p : Vector Int 96) (i : Int) : Le (ZdP p i) (ZbR p i) := by
  unfold ZdP ZbR
  with_reducible repeat' (first | exact Le.refl _ | apply Le.bind | apply Le.ite | intro _)

noncomputable def Zdp (p : Vector Int 96) (f2 : Vector Int 64) (i : Int) : Option (((Vector Int 64) × Int) ⊕ ((Vector Int 64))) :=
  if (decide (i < 64)) = true then
  (ZdP p i).bind fun y =>
  (ZP f2 i).bind fun x =>
  some (.inl ((JQ f2 i y), (i64 (i + 1))))
  else
  some (.inr f2)
theorem Zh8 (p : Vector Int 96) (f2 : Vector Int 64) (i : Int) : Le (Zdp p f2 i) (ZcP p f2 i) := by
  unfold Zdp ZcP
  with_reducible repeat' (first | exact Le.refl _ | apply Le.bind | apply Le.ite | apply Zix | intro _)

noncomputable def Ze9 (p : Vector Int 96) : Option (Vector Int 64) :=
  ((QV (t2 (Zdp p)) ((Vector.replicate 64 0), 0)) : Option (((Vector Int 64)))).bind (t1 fun (f : Vector Int 64) =>
  some f)
theorem ZjQ (p : Vector Int 96) : Le (Ze9 p) (Zd0 p) := by
  unfold Ze9 Zd0
  with_reducible repeat' (first | exact Le.refl _ | apply Le.bind | apply Le.loop | apply Le.t1 | apply Le.t2 | apply Zh8 | intro _)

noncomputable def ZbM (b : List Int) : Option ((Vector Int 64) × Int) :=
  if (decide ((b.length : Int) < 96)) = true then
  some ((#v[0, 0, 0, 0, 0, 0, 0, 0, 0, 0, 0, 0, 0, 0, 0, 0, 0, 0, 0, 0, 0, 0, 0, 0, 0, 0, 0, 0, 0, 0, 0, 0, 0, 0, 0, 0, 0, 0, 0, 0, 0, 0, 0, 0, 0, 0, 0, 0, 0, 0, 0, 0, 0, 0, 0, 0, 0, 0, 0, 0, 0, 0, 0, 0] : Vector Int 64), 3)
  else
  (slc b 0 96).bind fun l =>
  (tov 96 l).bind fun v =>
  (Ze9 v).bind fun y =>
  some (y, 0)
theorem ZgD (b : List Int) : Le (ZbM b) (Zan b) := by
  unfold ZbM Zan
  with_reducible repeat' (first | exact Le.refl _ | apply Le.bind | apply Le.ite | apply ZjQ | intro _)

noncomputable def Zcl (i : Int) (x : api_Memory) (x2 : Int) (y3 : Int × Bool × Bool) (out6 : List api_Kept) (i3 : Int) : Option (((List api_Kept) × Int) ⊕ ((List api_Kept))) :=
  if (decide (i3 < x.Slots)) = true then
  (idx x.Sectors x2).bind fun x4 =>
  (ZcR x4 i3).bind fun y4 =>
  (ZbP y4).bind fun y5 =>
  if (decide (y5 = 1)) = true then
  (slc y4.toList 0 (97 : Int)).bind fun l2 =>
  (ZbM l2).bind fun y6 =>
  (apz 160 out6 ([(api_Kept.mk i x2 y3.1 i3 y6.1)] : List api_Kept)).bind fun l3 =>
  some (.inl (l3, (i64 (i3 + 1))))
  else
  some (.inl (out6, (i64 (i3 + 1))))
  else
  some (.inr out6)
theorem ZgM (i : Int) (x : api_Memory) (x2 : Int) (y3 : Int × Bool × Bool) (out6 : List api_Kept) (i3 : Int) : Le (Zcl i x x2 y3 out6 i3) (Zbo i x x2 y3 out6 i3) := by
  unfold Zcl Zbo
  with_reducible repeat' (first | exact Le.refl _ | apply Le.bind | apply Le.ite | apply ZfE | apply Zfn | apply ZgD | intro _)

noncomputable def Zce (i : Int) (x : api_Memory) (y2 : (List Int)) (out4 : List api_Kept) (i2 : Int) : Option (((List api_Kept) × Int) ⊕ ((List api_Kept))) :=
  if (decide (i2 < (y2.length : Int))) = true then
  (((idx y2 i2).bind fun x2 =>
  (idx x.Sectors x2).bind fun x3 =>
  (ZaB x3).bind fun y3 =>
  QV (t2 (Zcl i x x2 y3)) (out4, 0)) : Option (((List api_Kept)))).bind (t1 fun (out5 : List api_Kept) =>
  some (.inl (out5, (i64 (i2 + 1)))))
  else
  some (.inr out4)
theorem ZgC (i : Int) (x : api_Memory) (y2 : (List Int)) (out4 : List api_Kept) (i2 : Int) : Le (Zce i x y2 out4 i2) (Zbm i x y2 out4 i2) := by
  unfold Zce Zbm
  with_reducible repeat' (first | exact Le.refl _ | apply Le.bind | apply Le.ite | apply Le.loop | apply Le.t1 | apply Le.t2 | apply Zcm | apply ZgM | intro _)

noncomputable def ZbY (l : List api_Memory) (out2 : List api_Kept) (i : Int) : Option (((List api_Kept) × Int) ⊕ ((List api_Kept))) :=
  if (decide (i < (l.length : Int))) = true then
  (((idx l i).bind fun x =>
  (Zb8 x).bind fun y2 =>
  QV (t2 (Zce i x y2)) (out2, 0)) : Option (((List api_Kept)))).bind (t1 fun (out3 : List api_Kept) =>
  some (.inl (out3, (i64 (i + 1)))))
  else
  some (.inr out2)
theorem ZgO (l : List api_Memory) (out2 : List api_Kept) (i : Int) : Le (ZbY l out2 i) (Zbj l out2 i) := by
  unfold ZbY Zbj
  with_reducible repeat' (first | exact Le.refl _ | apply Le.bind | apply Le.ite | apply Le.loop | apply Le.t1 | apply Le.t2 | apply Zfm | apply ZgC | intro _)

noncomputable def ZdL (l : List api_Memory) : Option ((List api_Kept) × Int) :=
  (Zbl l).bind fun y =>
  if (!decide (y = 0)) = true then
  some ([], y)
  else
  ((QV (t2 (ZbY l)) ([], 0)) : Option (((List api_Kept)))).bind (t1 fun (out : List api_Kept) =>
  some (out, 0))
theorem Ziz (l : List api_Memory) : Le (ZdL l) (Zb7 l) := by
  unfold ZdL Zb7
  with_reducible repeat' (first | exact Le.refl _ | apply Le.bind | apply Le.ite | apply Le.loop | apply Le.t1 | apply Le.t2 | apply ZeA | apply ZgO | intro _)

noncomputable def ZcK (y : (List api_Kept) × Int) (best2 : List (Int × api_Kept)) (numbers2 : List Int) (i : Int) : Option (((List (Int × api_Kept)) × (List Int) × Int) ⊕ ((List (Int × api_Kept)) × (List Int))) :=
  if (decide (i < (y.1.length : Int))) = true then
  (idx y.1 i).bind fun x =>
  (ZcQ x.Frame).bind fun y2 =>
  if (decide (0 < (y2.length : Int))) = true then
  some (.inl (best2, numbers2, (i64 (i + 1))))
  else
  (Zb3 x.Frame).bind fun y3 =>
  (some (mget kqI best2 y3.1)).bind fun o =>
  ((if (!o.isSome) = true then
  (apz 8 numbers2 ([y3.1] : List Int)).bind fun l2 =>
  some l2
  else
  some numbers2) : Option (((List Int)))).bind (t1 fun (numbers3 : List Int) =>
  if ((!o.isSome) || (decide (((o.getD (api_Kept.mk 0 0 0 0 (Vector.replicate 64 0))).Sequence) < x.Sequence))) = true then
  some (.inl ((Zlg kqI best2 y3.1 x), numbers3, (i64 (i + 1))))
  else
  some (.inl (best2, numbers3, (i64 (i + 1)))))
  else
  some (.inr (best2, numbers2))
theorem Zhs (y : (List api_Kept) × Int) (best2 : List (Int × api_Kept)) (numbers2 : List Int) (i : Int) : Le (ZcK y best2 numbers2 i) (Zck y best2 numbers2 i) := by
  unfold ZcK Zck
  with_reducible repeat' (first | exact Le.refl _ | apply Le.bind | apply Le.ite | apply Le.t1 | apply ZfN | apply Zfq | intro _)

noncomputable def Zcx (best : List (Int × api_Kept)) (y4 : List Int) (out2 : List (Vector Int 64)) (i2 : Int) : Option (((List (Vector Int 64)) × Int) ⊕ ((List (Vector Int 64)))) :=
  if (decide (i2 < (y4.length : Int))) = true then
  (idx y4 i2).bind fun x2 =>
  (some ((mget kqI best x2).getD (api_Kept.mk 0 0 0 0 (Vector.replicate 64 0)))).bind fun o2 =>
  (apz 128 out2 ([o2.Frame] : List (Vector Int 64))).bind fun l3 =>
  some (.inl (l3, (i64 (i2 + 1))))
  else
  some (.inr out2)
theorem Zhi (best : List (Int × api_Kept)) (y4 : List Int) (out2 : List (Vector Int 64)) (i2 : Int) : Le (Zcx best y4 out2 i2) (ZbG best y4 out2 i2) := by
  unfold Zcx ZbG
  with_reducible repeat' (first | exact Le.refl _ | apply Le.bind | apply Le.ite | intro _)

noncomputable def Zep (l : List api_Memory) : Option ((List (Vector Int 64)) × Int) :=
  (ZdL l).bind fun y =>
  if (!decide (y.2 = 0)) = true then
  some ([], y.2)
  else
  ((QV (t3 (ZcK y)) (([] : List (Int × api_Kept)), [], 0)) : Option (((List (Int × api_Kept)) × (List Int)))).bind (t2 fun (best : List (Int × api_Kept)) (numbers : List Int) =>
  (Zo2 numbers).bind fun y4 =>
  ((QV (t2 (Zcx best y4)) ([], 0)) : Option (((List (Vector Int 64))))).bind (t1 fun (out : List (Vector Int 64)) =>
  some (out, 0)))
theorem Zjn (l : List api_Memory) : Le (Zep l) (Zc3 l) := by
  unfold Zep Zc3
  with_reducible repeat' (first | exact Le.refl _ | apply Le.bind | apply Le.ite | apply Le.loop | apply Le.t1 | apply Le.t2 | apply Le.t3 | apply Ziz | apply Zhs | apply Zhi | apply ZnQ | intro _)

noncomputable def ZfL : Option Bool :=
  (mkz 8 58 0).bind fun l =>
  (ZgB 4 l).bind fun y =>
  (Zcz 2 1 3).bind fun y2 =>
  if (!decide (y2.2 = 0)) = true then
  some false
  else
  (ZeY ([y2.1] : List api_Memory) 1).bind (Sum.elim (fun y3 =>
  if (!decide (y3 = 0)) = true then
  some false
  else
  none) (fun y3 =>
  if (!decide (y3.2 = 0)) = true then
  some false
  else
  (Zag y3.1 y.1 109).bind fun y4 =>
  (JP y4.2.2.2).bind fun y5 =>
  (Zep y5).bind fun y6 =>
  (gd ((((((decide (y4.1 = 1)) && y4.2.1) && (decide (y4.2.2.1 = 0))) && (decide (y6.2 = 0))) && (decide ((y6.1.length : Int) = 1))) == true) (Vector.replicate 64 0) (idx y6.1 0)).bind fun x =>
  some ((((((decide (y4.1 = 1)) && y4.2.1) && (decide (y4.2.2.1 = 0))) && (decide (y6.2 = 0))) && (decide ((y6.1.length : Int) = 1))) && (decide (x = y.1)))))
theorem Zkj : Le (ZfL ) (ZbD ) := by
  unfold ZfL ZbD
  with_reducible repeat' (first | exact Le.refl _ | apply Le.bind | apply Le.ite | apply Le.gd | apply Le.elim | apply ZkM | apply Zg6 | apply ZjR | apply ZeD | apply Zd1 | apply Zjn | intro _)
end Go.Vx

namespace Go.Vx
open Go Go.RowKit
theorem ZpK : ZfL = some true := by decide +kernel
theorem ZnH : ZbD = some true := Zkj true ZpK
end Go.Vx

namespace Go.Vx
open Go Go.RowKit
theorem Zbb {α : Type} {s : Nat} {xs ys : List α} (h : xs.length + ys.length ≤ 140737488355328 / s) : apz s xs ys = some (xs ++ ys) := by unfold apz; rw [if_pos h]
theorem ixr {n k x : Nat} (h : (List.range n)[k]? = some x) : x = k ∧ k < n := by
  have hl := (List.getElem?_eq_some_iff.1 h).1
  rw [List.length_range] at hl
  rw [List.getElem?_range hl] at h
  cases h; exact ⟨rfl, hl⟩
theorem Znm {β : Type} {n : Nat} {body : List β → Int → Option ((List β × Int) ⊕ List β)} (g : Nat → β)
    (hstep : ∀ (k : Nat) acc, k < n → acc.length = k → body acc k = some (.inl (acc ++ [g k], (k : Int) + 1)))
    (hend : ∀ acc, body acc n = some (.inr acc)) : loop (t2 body) ([], 0) = some ((List.range n).map g) :=
  Znd g (fun k x acc hx ha => by obtain ⟨rfl, h⟩ := ixr hx; exact hstep _ acc h ha) (fun acc => by rw [List.length_range]; exact hend acc)
theorem ZiH {α : Type} [DecidableEq α] {a b : List α} {body : Int → Option (Int ⊕ (Bool ⊕ Unit))} (hl : a.length = b.length)
    (h : ∀ (k : Nat) x y, a[k]? = some x → b[k]? = some y → body k = if x = y then some (.inl ((k : Int) + 1)) else some (.inr (.inl false)))
    (hend : body a.length = some (.inr (.inr ()))) : loop (t1 body) 0 = some (if a = b then .inr () else .inl false) := by
  refine (Zlf (xs := a) (fun k => if a.drop k = b.drop k then (.inr () : Bool ⊕ Unit) else .inl false) (fun k x hx => ?_) ?_).trans (by simp)
  · have hk := (List.getElem?_eq_some_iff.1 hx).1
    obtain ⟨y, hy⟩ := Za6 (xs := b) (k := k) (by omega)
    rw [h k x y hx hy, ZdG hx, ZdG hy]
    by_cases e : x = y
    · left; subst e; refine ⟨by rw [if_pos rfl], ?_⟩
      simp
    · right; rw [if_neg e, if_neg (by simp [e])]
  · rw [hend, if_pos (by rw [List.drop_length, hl, List.drop_length])]
theorem eqI {a b : List Int} (ha : a.length ≤ 9223372036854775807) : XI a b = some (decide (a = b)) := by
  unfold XI
  by_cases hl : a.length = b.length
  · rw [if_neg (by simp [hl]), ZiH (a := a) (b := b) hl (fun k x y hx hy => ?_) (by simp [XV])]
    · by_cases e : a = b <;> simp [e]
    · have hlt := Zmp hx
      simp only [XV, hlt, decide_true, if_true, ZG hx, ZG hy, Option.bind_some]
      rw [show i64 ((k : Int) + 1) = (k : Int) + 1 from Zo (by omega) (by omega)]
      by_cases e : x = y <;> simp [e]
  · rw [if_pos (by simpa using fun e => hl (by omega))]
    rw [decide_eq_false (fun e => hl (by rw [e]))]
theorem eqY {a b : List Int} (ha : a.length ≤ 9223372036854775807) : QC a b = some (decide (a = b)) := by
  unfold QC
  by_cases hl : a.length = b.length
  · rw [if_neg (by simp [hl]), ZiH (a := a) (b := b) hl (fun k x y hx hy => ?_) (by simp [Qy])]
    · by_cases e : a = b <;> simp [e]
    · have hlt := Zmp hx
      simp only [Qy, hlt, decide_true, if_true, ZG hx, ZG hy, Option.bind_some]
      rw [show i64 ((k : Int) + 1) = (k : Int) + 1 from Zo (by omega) (by omega)]
      by_cases e : x = y <;> simp [e]
  · rw [if_pos (by simpa using fun e => hl (by omega))]
    rw [decide_eq_false (fun e => hl (by rw [e]))]
theorem eqB {a b : List Bool} (ha : a.length ≤ 9223372036854775807) : Xk a b = some (decide (a = b)) := by
  unfold Xk
  by_cases hl : a.length = b.length
  · rw [if_neg (by simp [hl]), ZiH (a := a) (b := b) hl (fun k x y hx hy => ?_) (by simp [Xz])]
    · by_cases e : a = b <;> simp [e]
    · have hlt := Zmp hx
      simp only [Xz, hlt, decide_true, if_true, ZG hx, ZG hy, Option.bind_some]
      rw [show i64 ((k : Int) + 1) = (k : Int) + 1 from Zo (by omega) (by omega)]
      by_cases e : x = y <;> simp [e]
  · rw [if_pos (by simpa using fun e => hl (by omega))]
    rw [decide_eq_false (fun e => hl (by rw [e]))]
theorem eqF {a : List (List Int)} (ha : a.length ≤ 9223372036854775807) : Z8 a a (fun z0 z1 => Zc5 z0 z1) = some true := by
  unfold Z8
  rw [if_neg (by simp), ZiH (a := a) (b := a) rfl (fun k x y hx hy => ?_) (by simp [Qk])]
  · simp
  · have hlt := Zmp hx
    rw [hx] at hy; cases hy
    simp only [Qk, hlt, decide_true, if_true, ZG hx, Option.bind_some, Zc5]
    rw [show i64 ((k : Int) + 1) = (k : Int) + 1 from Zo (by omega) (by omega)]
    simp
theorem ZpX (m : api_Memory) (h1 : m.Sectors.length ≤ 9223372036854775807) (h2 : m.Wear.length ≤ 9223372036854775807) (h3 : m.Bad.length ≤ 9223372036854775807) : Xt m m = some true := by
  unfold Xt
  simp [eqF h1, eqI h2, eqB h3, gd]
theorem Zq9 {number memories copies : Int} (h1 : 0 ≤ number ∧ number ≤ 4194303) (h2 : 1 ≤ memories ∧ memories ≤ 8) (h3 : 1 ≤ copies ∧ copies ≤ memories) :
    loop (t2 (X3 number memories copies)) ([], 0) = some ((List.range copies.toNat).map fun (k : Nat) => (number + (k : Int)).tmod memories) := by
  refine Znm (fun (k : Nat) => (number + (k : Int)).tmod memories) (fun k acc hk ha => ?_) (fun acc => ?_)
  · unfold X3
    rw [if_pos (by simp; omega), show i64 (number + (k : Int)) = number + k from Zo (by omega) (by omega), show i64 ((k : Int) + 1) = (k : Int) + 1 from Zo (by omega) (by omega)]
    unfold rem
    rw [if_neg (by omega), Option.bind_some, Zbb (by simp; omega)]; rfl
  · unfold X3
    rw [if_neg (by simp; omega)]
end Go.Vx

namespace Go.Vx
open Go Go.RowKit
end Go.Vx

namespace Go.Vx
open Go Go.RowKit
def Zbi (s : List Int) (a : Nat) : List Int → Int → Int × Bool × List Int
  | [], p => (p, true, s)
  | b :: tl, p => if p = 0 then (0, false, s.set a (QD .u8 (s.getD a 0) (bor .u8 b 15))) else Zbi (s.set a (QD .u8 (s.getD a 0) b)) (a + 1) tl (p - 1)
theorem Zi5 : ∀ (d : List Int) (s : List Int) (a : Nat) (p : Int), (Zbi s a d p).2.2.length = s.length
  | [], s, a, p => rfl
  | b :: tl, s, a, p => by
    unfold Zbi
    split
    · simp
    · rw [Zi5 tl]; simp
theorem Zhe : ∀ (d : List Int) (s : List Int) (a : Nat) (p : Int), 0 ≤ p → 0 ≤ (Zbi s a d p).1 ∧ (Zbi s a d p).1 ≤ p
  | [], s, a, p, h => ⟨h, Int.le_refl _⟩
  | b :: tl, s, a, p, h => by
    unfold Zbi
    split
    · exact ⟨Int.le_refl _, h⟩
    · have := Zhe tl (s.set a (QD .u8 (s.getD a 0) b)) (a + 1) (p - 1) (by omega)
      omega
def ZpV (r : Int × Bool × List Int) : (Int × Bool × List Int) ⊕ (List Int × Int) := if r.2.1 = true then .inr (r.2.2, r.1) else .inl r
theorem JR {α : Type} {s : List α} {k : Nat} (h : k < s.length) (d : α) : s[k]? = some (s.getD k d) := by
  rw [List.getD_eq_getElem?_getD, List.getElem?_eq_getElem h]; rfl
theorem ZnJ {s d : List Int} {a : Nat} {p : Int} (hs : s.length ≤ 140737488355328) (ha : a + d.length ≤ s.length) (hp : 0 ≤ p ∧ p ≤ 1000000000) : QT s (a : Int) d p = some (Zbi s a d p) := by
  have key : loop (t3 (QL (a : Int) d)) (s, p, 0) = some (ZpV (Zbi s a d p)) := by
    refine (Zf8 (body := t3 (QL (a : Int) d)) (fun q => ∃ k : Nat, q.2.2 = k ∧ k ≤ d.length ∧ q.1.length = s.length ∧ 0 ≤ q.2.1 ∧ q.2.1 ≤ 1000000000) (fun q => d.length - q.2.2.toNat)
      (fun q => ZpV (Zbi q.1 (a + q.2.2.toNat) (d.drop q.2.2.toNat) q.2.1)) ?_ (s, p, 0) ⟨0, rfl, Nat.zero_le _, rfl, hp⟩).trans (by simp)
    rintro ⟨o, p, i⟩ ⟨k, hi, hk, hl, hp0, hp1⟩
    simp only at hi hl hp0 hp1
    subst hi
    simp only [Zdd, Int.toNat_natCast]
    unfold QL
    rcases Nat.lt_or_ge k d.length with h | h
    · obtain ⟨b, hb⟩ := Za6 h
      rw [if_pos (by simpa using h), ZG hb, Option.bind_some, ZdG hb]
      have e1 : i64 ((a : Int) + (k : Int)) = ((a + k : Nat) : Int) := (Zo (by omega) (by omega)).trans (by push_cast; rfl)
      have hx : o[a + k]? = some (o.getD (a + k) 0) := JR (by omega) 0
      rw [e1]
      simp only [ZG hx, Option.bind_some, Int.toNat_natCast]
      by_cases h0 : p = 0
      · right
        rw [if_pos (by simpa using h0)]
        subst h0
        rfl
      · left
        rw [if_neg (by simpa using h0)]
        rw [show i64 (p - 1) = p - 1 from Zo (by omega) (by omega), show i64 ((k : Int) + 1) = ((k + 1 : Nat) : Int) from (Zo (by omega) (by omega)).trans (by push_cast; rfl)]
        refine ⟨_, rfl, ⟨k + 1, rfl, h, by simp [hl], by simp only; omega, by simp only; omega⟩, by simp only [Int.toNat_natCast]; omega, ?_⟩
        simp only [Int.toNat_natCast]
        rw [Zbi, if_neg h0]; rfl
    · right
      rw [if_neg (by simpa using h), List.drop_of_length_le h]; rfl
  unfold QT
  rw [key, Option.bind_some]
  unfold ZpV
  split
  · rename_i h
    simp only [Sum.elim_inr, Q2]
    congr 1
    generalize Zbi s a d p = q at h
    obtain ⟨x, y, z⟩ := q
    simp only at h
    subst h; rfl
  · simp only [Sum.elim_inl]
theorem Zph (w : Nat) (X : BitVec w) : BitVec.ofInt w (X.toNat : Int) = X := by
  apply BitVec.eq_of_toNat_eq; simp [BitVec.toNat_ofInt]
theorem Zo7 (X : BitVec 8) : IntKind.u8.wrap (X.toNat : Int) = (X.toNat : Int) := by
  have h := X.isLt
  have : ∀ n : Nat, n < 256 → IntKind.u8.wrap (n : Int) = (n : Int) := by
    intro n hn
    show ((n : Int) % 256) = n
    omega
  exact this _ h
theorem Zpd (a b : Int) : QD .u8 a b = ((BitVec.ofInt 8 a &&& BitVec.ofInt 8 b).toNat : Int) := Zo7 _
theorem Znc (a b : Int) : Zk0 .u8 a b = ((BitVec.ofInt 8 a &&& ~~~ BitVec.ofInt 8 b).toNat : Int) := Zo7 _
theorem Zlt (a : Int) : Zk0 .u8 a a = 0 := by
  rw [Znc]; simp
theorem ZlF {x y b : Int} (h : Zk0 .u8 x y = 0) : Zk0 .u8 (QD .u8 x b) y = 0 := by
  rw [Znc] at h ⊢
  rw [Zpd, Zph]
  have h' : (BitVec.ofInt 8 x &&& ~~~ BitVec.ofInt 8 y) = 0#8 := by
    apply BitVec.eq_of_toNat_eq; simpa using h
  have : (BitVec.ofInt 8 x &&& BitVec.ofInt 8 b) &&& ~~~ BitVec.ofInt 8 y = (BitVec.ofInt 8 x &&& ~~~ BitVec.ofInt 8 y) &&& BitVec.ofInt 8 b := by
    rw [BitVec.and_assoc, BitVec.and_comm (BitVec.ofInt 8 b), ← BitVec.and_assoc]
  rw [this, h']; simp
def SubB (t s : List Int) : Prop := ∀ (k : Nat) x y, t[k]? = some x → s[k]? = some y → Zk0 .u8 x y = 0
theorem SubB.refl (s : List Int) : SubB s s := fun k x y hx hy => by rw [hx] at hy; cases hy; exact Zlt x
theorem SubB.set {t s : List Int} (h : SubB t s) (a : Nat) (b : Int) : SubB (t.set a (QD .u8 (t.getD a 0) b)) s := by
  intro k x y hx hy
  rw [List.getElem?_set] at hx
  split at hx
  · rename_i e
    subst e
    split at hx
    · rename_i hl
      cases hx
      exact ZlF (h a _ y (JR hl 0) hy)
    · cases hx
  · exact h k x y hx hy
end Go.Vx

namespace Go.Vx
open Go Go.RowKit
section
variable {σ ρ : Type} {body : σ → Option (σ ⊕ ρ)} {s s' : σ} {r : ρ}
theorem Jn (h : body s = some (.inl s')) (k : loop body s' = some r) : loop body s = some r := by
  obtain ⟨n, hn⟩ := ZcM k
  exact ZeR (n := n + 1) (by simp only [ZaO, h, Option.bind_some]; exact hn)
theorem ZfB (h : body s = some (.inr r)) : loop body s = some r := ZeR (n := 1) (by simp only [ZaO, h, Option.bind_some]; rfl)
end
def u8R (l : List Int) : Prop := ∀ x ∈ l, 0 ≤ x ∧ x ≤ 255
theorem Zpt {l : List Int} (h : u8R l) {k : Nat} {x : Int} (hx : l[k]? = some x) : 0 ≤ x ∧ x ≤ 255 := h x (List.mem_of_getElem? hx)
theorem Zgr {l : List Int} (h : u8R l) (k : Nat) : 0 ≤ l.getD k 0 ∧ l.getD k 0 ≤ 255 := by
  by_cases hk : k < l.length
  · exact Zpt h (JR hk 0)
  · rw [List.getD_eq_getElem?_getD, List.getElem?_eq_none (by omega)]; decide
theorem ZpP {a b s : Nat} (hb : b < 2 ^ s) (h : a * 2 ^ s + b < 2 ^ 62) : bor .i64 ((a * 2 ^ s : Nat) : Int) (b : Int) = ((a * 2 ^ s + b : Nat) : Int) := by
  unfold bor
  have e : (BitVec.ofInt IntKind.i64.bits ((a * 2 ^ s : Nat) : Int) ||| BitVec.ofInt IntKind.i64.bits (b : Int)).toNat = a * 2 ^ s + b := by
    have h1 : ∀ n : Nat, BitVec.ofInt IntKind.i64.bits (n : Int) = BitVec.ofNat 64 n := fun n => BitVec.ofInt_natCast ..
    rw [h1, h1]
    show (BitVec.ofNat 64 (a * 2 ^ s) ||| BitVec.ofNat 64 b).toNat = _
    rw [BitVec.toNat_or, BitVec.toNat_ofNat, BitVec.toNat_ofNat, Nat.mod_eq_of_lt (by omega), Nat.mod_eq_of_lt (by omega), ← Nat.shiftLeft_eq, ← Nat.shiftLeft_add_eq_or_of_lt hb]
  rw [e]
  exact Zo (by omega) (by omega)
def ZkE (a b c d : Int) : Int := a * 16777216 + b * 65536 + c * 256 + d
theorem Zpo {n j : Nat} (h1 : n ≤ 255) (h2 : j ≤ 24) : shl .i64 (n : Int) (j : Int) = some ((n * 2 ^ j : Nat) : Int) := by
  unfold shl
  rw [if_neg (by omega)]
  have e1 : min (Int.toNat (j : Int)) IntKind.i64.bits = j := by
    show min (Int.toNat (j : Int)) 64 = j
    simp; omega
  have e2 : (2 : Nat) ^ j ≤ 2 ^ 24 := Nat.pow_le_pow_right (by omega) h2
  have e3 : n * 2 ^ j ≤ 255 * 2 ^ 24 := Nat.mul_le_mul h1 e2
  rw [e1]
  have e4 : ((n : Int) * 2 ^ j) = ((n * 2 ^ j : Nat) : Int) := by push_cast; rfl
  rw [e4, Zo (by omega) (by omega)]
theorem ZqC {m n : Nat} (h : m = n) : (m : Int) = (n : Int) := congrArg _ h
theorem Zpq {a b c d : Int} (ha : 0 ≤ a ∧ a ≤ 255) (hb : 0 ≤ b ∧ b ≤ 255) (hc : 0 ≤ c ∧ c ≤ 255) (hd : 0 ≤ d ∧ d ≤ 255) :
    ∃ q q2 q3, shl .i64 (i64 a) 24 = some q ∧ shl .i64 (i64 b) 16 = some q2 ∧ shl .i64 (i64 c) 8 = some q3 ∧ bor .i64 (bor .i64 (bor .i64 q q2) q3) (i64 d) = ZkE a b c d := by
  obtain ⟨a, rfl⟩ := Int.eq_ofNat_of_zero_le ha.1
  obtain ⟨b, rfl⟩ := Int.eq_ofNat_of_zero_le hb.1
  obtain ⟨c, rfl⟩ := Int.eq_ofNat_of_zero_le hc.1
  obtain ⟨d, rfl⟩ := Int.eq_ofNat_of_zero_le hd.1
  have e : ∀ n : Nat, n ≤ 255 → i64 (n : Int) = n := fun n h => Zo (by omega) (by omega)
  rw [e a (by omega), e b (by omega), e c (by omega), e d (by omega)]
  refine ⟨_, _, _, Zpo (j := 24) (by omega) (by omega), Zpo (j := 16) (by omega) (by omega), Zpo (j := 8) (by omega) (by omega), ?_⟩
  have b1 : bor .i64 ((a * 2 ^ 24 : Nat) : Int) ((b * 2 ^ 16 : Nat) : Int) = (((a * 2 ^ 8 + b) * 2 ^ 16 : Nat) : Int) :=
    (ZpP (s := 24) (by omega) (by omega)).trans (ZqC (by omega))
  have b2 : bor .i64 (((a * 2 ^ 8 + b) * 2 ^ 16 : Nat) : Int) ((c * 2 ^ 8 : Nat) : Int) = ((((a * 2 ^ 8 + b) * 2 ^ 8 + c) * 2 ^ 8 : Nat) : Int) :=
    (ZpP (s := 16) (by omega) (by omega)).trans (ZqC (by omega))
  rw [b1, b2]
  refine (ZpP (s := 8) (by omega) (by omega)).trans ?_
  unfold ZkE; omega
def hdL (n : Int) : List Int := [79, 66, n / 16777216 % 256, n / 65536 % 256, n / 256 % 256, n % 256, 255 - n / 16777216 % 256, 255 - n / 65536 % 256, 255 - n / 256 % 256, 255 - n % 256]
theorem Zqe (n : Int) : u8R (hdL n) := by
  intro x hx
  simp only [hdL, List.mem_cons, List.not_mem_nil, or_false] at hx
  rcases hx with h | h | h | h | h | h | h | h | h | h <;> omega
theorem Zp8 {k : IntKind} {n : Int} {j : Nat} (h : j ≤ k.bits) : shr k n (j : Int) = some (n / (2 : Int) ^ j) := by
  unfold shr
  rw [if_neg (by omega)]
  have e1 : min (Int.toNat (j : Int)) k.bits = j := by simp; omega
  rw [e1, Int.fdiv_eq_ediv_of_nonneg _ (Int.pow_nonneg (by decide))]
theorem u8m (z : Int) : u8 z = z % 256 := rfl
theorem Zlp {n : Int} (h : 1 ≤ n ∧ n ≤ 1073741824) : J9 n = some (hdL n) := by
  have st : ∀ (o : List Int) (j : Nat), j ≤ 24 → o.length ≤ 10 → Xo n o (j : Int) = some (.inl (o ++ [n / (2 : Int) ^ j % 256], (j : Int) - 8)) := by
    intro o j hj ho
    unfold Xo
    rw [if_pos (by simp), Zp8 (by show j ≤ 64; omega), Option.bind_some, Zbb (by simp; omega), Option.bind_some, show i64 ((j : Int) - 8) = (j : Int) - 8 from Zo (by omega) (by omega), u8m]
  have h1 : loop (t2 (Xo n)) ([79, 66], 24) = some [79, 66, n / 16777216 % 256, n / 65536 % 256, n / 256 % 256, n % 256] := by
    refine Jn (st [79, 66] 24 (by omega) (by simp)) ?_
    refine Jn (st _ 16 (by omega) (by simp)) ?_
    refine Jn (st _ 8 (by omega) (by simp)) ?_
    refine Jn (st _ 0 (by omega) (by simp)) ?_
    refine ZfB ?_
    show Xo n _ (((0 : Nat) : Int) - 8) = _
    unfold Xo
    rw [if_neg (by decide)]
    simp
  have bx : ∀ x : Int, 0 ≤ x → x ≤ 255 → Zcd .u8 255 x = 255 - x := by
    have key : (List.range 256).all (fun n => decide (Zcd .u8 255 (n : Int) = 255 - (n : Int))) = true := by decide +kernel
    intro x h0 h1
    obtain ⟨m, rfl⟩ := Int.eq_ofNat_of_zero_le h0
    exact of_decide_eq_true (List.all_eq_true.1 key m (List.mem_range.2 (by omega)))
  unfold J9
  rw [h1]
  simp only [Option.bind_some, XL]
  rw [show slp [79, 66, n / 16777216 % 256, n / 65536 % 256, n / 256 % 256, n % 256] 2 6 = some () from rfl, Option.bind_some]
  have st2 : ∀ (o : List Int) (j : Nat) (x : Int), j < 4 → o.length ≤ 10 → idx [79, 66, n / 16777216 % 256, n / 65536 % 256, n / 256 % 256, n % 256] (2 + (j : Int)) = some x → 0 ≤ x → x ≤ 255 →
      Xm [79, 66, n / 16777216 % 256, n / 65536 % 256, n / 256 % 256, n % 256] o (j : Int) = some (.inl (o ++ [255 - x], (j : Int) + 1)) := by
    intro o j x hj ho hx h0 h1
    unfold Xm
    have e4 : (decide ((j : Int) < ((Int.toNat (6 - 2) : Nat) : Int))) = true := by simp; omega
    have e5 : (decide ((0 : Int) ≤ (j : Int))) = true := by simp
    rw [if_pos e4, e4, e5]
    simp only [Bool.and_self, ck, if_true, Option.bind_some, hx]
    rw [Zbb (by simp; omega), Option.bind_some, show i64 ((j : Int) + 1) = (j : Int) + 1 from Zo (by omega) (by omega), bx x h0 h1]
  have h2 : loop (t2 (Xm [79, 66, n / 16777216 % 256, n / 65536 % 256, n / 256 % 256, n % 256])) ([79, 66, n / 16777216 % 256, n / 65536 % 256, n / 256 % 256, n % 256], 0) = some (hdL n) := by
    refine Jn (st2 _ 0 (n / 16777216 % 256) (by omega) (by simp) rfl (by omega) (by omega)) ?_
    refine Jn (st2 _ 1 (n / 65536 % 256) (by omega) (by simp) rfl (by omega) (by omega)) ?_
    refine Jn (st2 _ 2 (n / 256 % 256) (by omega) (by simp) rfl (by omega) (by omega)) ?_
    refine Jn (st2 _ 3 (n % 256) (by omega) (by simp) rfl (by omega) (by omega)) ?_
    refine ZfB ?_
    show Xm _ _ (((3 : Nat) : Int) + 1) = _
    unfold Xm
    rw [if_neg (by decide)]
    rfl
  rw [h2]; rfl
theorem ZqR {n : Nat} (h : n < 4294967296) : Zcd .u32 4294967295 (n : Int) = 4294967295 - (n : Int) := by
  unfold Zcd
  have e : (BitVec.ofInt IntKind.u32.bits 4294967295 ^^^ BitVec.ofInt IntKind.u32.bits (n : Int)).toNat = 4294967295 - n := by
    have h1 : BitVec.ofInt IntKind.u32.bits (n : Int) = BitVec.ofNat 32 n := BitVec.ofInt_natCast ..
    have h2 : BitVec.ofInt IntKind.u32.bits 4294967295 = BitVec.allOnes 32 := by
      show BitVec.ofInt 32 4294967295 = BitVec.allOnes 32
      decide
    rw [h1, h2]
    show (BitVec.allOnes 32 ^^^ BitVec.ofNat 32 n).toNat = _
    rw [BitVec.allOnes_xor, BitVec.toNat_not, BitVec.toNat_ofNat, Nat.mod_eq_of_lt (by omega)]
    try omega
  rw [e]
  have w : ∀ z : Int, 0 ≤ z → z < 4294967296 → IntKind.u32.wrap z = z := fun z h0 h1 => by
    show z % 4294967296 = z
    omega
  rw [w _ (by omega) (by omega)]; omega
theorem ZnO {n : Int} (h : 1 ≤ n ∧ n ≤ 1073741824) : ZfO n = some (hdL n) := by
  have eu : u32 n = n := by
    show n % 4294967296 = n
    omega
  have ex : Zcd .u32 4294967295 (u32 n) = 4294967295 - n := by
    rw [eu]
    obtain ⟨m, rfl⟩ := Int.eq_ofNat_of_zero_le (show 0 ≤ n by omega)
    exact ZqR (by omega)
  have st : ∀ (x : Int) (o : List Int) (j : Nat), j ≤ 24 → o.length ≤ 10 → J4 x o (j : Int) = some (.inl (o ++ [x / (2 : Int) ^ j % 256], (j : Int) - 8)) := by
    intro x o j hj ho
    unfold J4
    rw [if_pos (by simp), Zp8 (by show j ≤ 32; omega), Option.bind_some, Zbb (by simp; omega), Option.bind_some, show i64 ((j : Int) - 8) = (j : Int) - 8 from Zo (by omega) (by omega), u8m]
  have lp : ∀ (x : Int) (o : List Int), o.length ≤ 6 → loop (t2 (J4 x)) (o, 24) = some (o ++ [x / 16777216 % 256, x / 65536 % 256, x / 256 % 256, x % 256]) := by
    intro x o ho
    refine Jn (st x o 24 (by omega) (by omega)) ?_
    refine Jn (st x _ 16 (by omega) (by simp; omega)) ?_
    refine Jn (st x _ 8 (by omega) (by simp; omega)) ?_
    refine Jn (st x _ 0 (by omega) (by simp; omega)) ?_
    refine ZfB ?_
    show J4 x _ (((0 : Nat) : Int) - 8) = _
    unfold J4
    rw [if_neg (by decide)]
    simp
  have st1 : ∀ (o : List Int) (j : Nat) (x : Int), j < 2 → o.length ≤ 6 → idx [n, 4294967295 - n] (j : Int) = some x → J5 n o (j : Int) = some (.inl (o ++ [x / 16777216 % 256, x / 65536 % 256, x / 256 % 256, x % 256], (j : Int) + 1)) := by
    intro o j x hj ho hx
    unfold J5
    rw [ex, eu, if_pos (by simp; omega), hx, Option.bind_some, lp x o ho]
    simp only [Option.bind_some, XL]
    rw [show i64 ((j : Int) + 1) = (j : Int) + 1 from Zo (by omega) (by omega)]
  have h1 : loop (t2 (J5 n)) ([79, 66], 0) = some (hdL n) := by
    refine Jn (st1 _ 0 n (by omega) (by simp) rfl) ?_
    refine Jn (st1 _ 1 (4294967295 - n) (by omega) (by simp) rfl) ?_
    refine ZfB ?_
    show J5 n _ (((1 : Nat) : Int) + 1) = _
    unfold J5
    rw [ex, eu, if_neg (by simp)]
    unfold hdL
    congr 2
    simp only [List.append_assoc, List.cons_append, List.nil_append, List.cons.injEq, true_and, and_true]
    refine ⟨?_, ?_, ?_, ?_⟩ <;> omega
  unfold ZfO
  rw [h1]; rfl
theorem ZlV : ∀ {l m : List Int}, u8R l → u8R m → (JT l = JT m ↔ l = m)
  | [], [], _, _ => by simp
  | [], y :: m, _, _ => by simp [JT]
  | x :: l, [], _, _ => by simp [JT]
  | x :: l, y :: m, h1, h2 => by
    have hx := h1 x (List.mem_cons_self ..)
    have hy := h2 y (List.mem_cons_self ..)
    have ih := ZlV (l := l) (m := m) (fun z hz => h1 z (List.mem_cons_of_mem _ hz)) (fun z hz => h2 z (List.mem_cons_of_mem _ hz))
    unfold JT at ih ⊢
    simp only [List.map_cons, List.cons.injEq, ih]
    have : UInt8.ofNat x.toNat = UInt8.ofNat y.toNat ↔ x = y := by
      constructor
      · intro e
        have := congrArg UInt8.toNat e
        simp at this
        omega
      · rintro rfl; rfl
    rw [this]
def XU (s : List Int) : Int × Bool × Bool :=
  if s.length < 16 then (0, false, false) else
  let n := ZkE (s.getD 2 0) (s.getD 3 0) (s.getD 4 0) (s.getD 5 0)
  if 1 ≤ n ∧ n ≤ 1073741824 ∧ s.take 10 = hdL n then (n, !decide (s.getD 10 0 = 255), true) else (0, false, false)
theorem Zkq {α : Type} {n : Nat} {v : Vector α n} {k : Nat} {x : α} (h : v.toList[k]? = some x) : ZP v (k : Int) = some x := by
  unfold ZP; rw [if_pos (by omega)]; simpa using h
theorem ZgR {α : Type} {xs : List α} {a b : Nat} (h1 : a ≤ b) (h2 : b ≤ xs.length) : slc xs (a : Int) (b : Int) = some ((xs.take b).drop a) := by
  unfold slc; rw [if_pos ⟨by omega, by omega, by omega⟩]; simp
theorem ZnT {α : Type} {m : Nat} {xs : List α} (h : m ≤ xs.length) : ∃ v : Vector α m, tov m xs = some v ∧ v.toList = xs.take m := by
  have : tov m xs = some ⟨(xs.take m).toArray, by simp; omega⟩ := by unfold tov; rw [dif_pos h]
  exact ⟨_, this, by simp⟩
theorem Zko {s : List Int} (hs : u8R s) : JY s = some (XU s) := by
  unfold JY XU
  by_cases hl : s.length < 16
  · rw [if_pos (by simp; omega), if_pos hl]
  · rw [if_neg (by simp; omega), if_neg hl]
    rw [show slc s 0 16 = some (s.take 16) from (ZgR (a := 0) (b := 16) (by omega) (by omega)).trans (by simp), Option.bind_some]
    obtain ⟨v, hv, hvl⟩ := ZnT (m := 16) (xs := s.take 16) (by simp; omega)
    rw [List.take_take, Nat.min_self] at hvl
    rw [hv, Option.bind_some]
    have hg : ∀ (z : Int) (k : Nat), z = (k : Int) → k < 16 → ZP v z = some (s.getD k 0) := fun z k hz hk => by
      subst hz
      exact Zkq (by rw [hvl, List.getElem?_take_of_lt hk]; exact JR (by omega) 0)
    obtain ⟨q, q2, q3, e1, e2, e3, e4⟩ := Zpq (Zgr hs 2) (Zgr hs 3) (Zgr hs 4) (Zgr hs 5)
    rw [hg 2 2 rfl (by omega), Option.bind_some, e1, Option.bind_some, hg 3 3 rfl (by omega), Option.bind_some, e2, Option.bind_some, hg 4 4 rfl (by omega), Option.bind_some, e3, Option.bind_some, hg 5 5 rfl (by omega), Option.bind_some, e4, hg 10 10 rfl (by omega)]
    generalize ZkE (s.getD 2 0) (s.getD 3 0) (s.getD 4 0) (s.getD 5 0) = n
    unfold Qo
    simp only [Option.bind_some]
    by_cases hn : 1 ≤ n ∧ n ≤ 1073741824
    · have hy : (decide (1 ≤ n) && decide (n ≤ 1073741824)) = true := by simpa using hn
      rw [hy]
      simp only [Bool.not_true, gd, beq_self_eq_true, if_true, Bool.false_or]
      rw [show slc v.toList 0 10 = some (s.take 10) from (ZgR (a := 0) (b := 10) (by omega) (by simp)).trans (by rw [hvl]; simp [List.take_take])]
      simp only [Option.bind_some, Zlp hn]
      have hlen : (s.take 10).length ≤ 10 := by rw [List.length_take]; omega
      rw [eqY (by omega), Option.bind_some]
      by_cases e : s.take 10 = hdL n
      · rw [if_neg (by simp [e]), if_pos ⟨hn.1, hn.2, e⟩]
      · rw [if_pos (by simp [e]), if_neg (fun q => e q.2.2)]
    · have hy : (decide (1 ≤ n) && decide (n ≤ 1073741824)) = false := by simpa using hn
      rw [hy]
      simp only [gd, Bool.not_false, Bool.true_eq_false, beq_iff_eq, if_false, Option.bind_some]
      rw [if_pos (by simp), if_neg (fun q => hn ⟨q.1, q.2.1⟩)]
theorem Znq {s : List Int} (hs : u8R s) : Zf5 s = some (XU s) := by
  unfold Zf5 XU
  by_cases hl : s.length < 16
  · rw [if_pos (by simp; omega), if_pos hl]
  · rw [if_neg (by simp; omega), if_neg hl]
    have hg : ∀ k : Nat, k < 16 → idx s (k : Int) = some (s.getD k 0) := fun k hk => ZG (JR (by omega) 0)
    have st : ∀ (q : Int) (k : Nat), 0 ≤ q → q ≤ 4294967295 → k < 6 → ZaQ s q (k : Int) = some (.inl (q * 256 + s.getD k 0, (k : Int) + 1)) := by
      intro q k h0 h1 hk
      have hb := Zgr hs k
      unfold ZaQ
      rw [if_pos (by simp; omega), hg k (by omega), Option.bind_some, show i64 (s.getD k 0) = s.getD k 0 from Zo (by omega) (by omega), show i64 (q * 256) = q * 256 from Zo (by omega) (by omega),
        show i64 (q * 256 + s.getD k 0) = q * 256 + s.getD k 0 from Zo (by omega) (by omega), show i64 ((k : Int) + 1) = (k : Int) + 1 from Zo (by omega) (by omega)]
    have b2 := Zgr hs 2
    have b3 := Zgr hs 3
    have b4 := Zgr hs 4
    have b5 := Zgr hs 5
    have lp : loop (t2 (ZaQ s)) (0, 2) = some (ZkE (s.getD 2 0) (s.getD 3 0) (s.getD 4 0) (s.getD 5 0)) := by
      refine Jn (st 0 2 (by omega) (by omega) (by omega)) ?_
      refine Jn (st _ 3 (by omega) (by omega) (by omega)) ?_
      refine Jn (st _ 4 (by omega) (by omega) (by omega)) ?_
      refine Jn (st _ 5 (by omega) (by omega) (by omega)) ?_
      refine ZfB ?_
      show ZaQ s _ (((5 : Nat) : Int) + 1) = _
      unfold ZaQ
      rw [if_neg (by decide)]
      congr 2
      unfold ZkE; omega
    rw [lp]
    simp only [Option.bind_some, XL]
    generalize ZkE (s.getD 2 0) (s.getD 3 0) (s.getD 4 0) (s.getD 5 0) = n
    unfold JB
    simp only [Option.bind_some]
    rw [show idx s 10 = some (s.getD 10 0) from hg 10 (by omega)]
    by_cases hn : 1 ≤ n ∧ n ≤ 1073741824
    · have hy : (decide (n < 1) || decide (1073741824 < n)) = false := by simp; omega
      rw [hy]
      simp only [gd, beq_self_eq_true, if_true, Bool.false_or, ZnO hn]
      rw [show slc s 0 10 = some (s.take 10) from (ZgR (a := 0) (b := 10) (by omega) (by omega)).trans (by simp)]
      simp only [Option.bind_some]
      have hiff := ZlV (l := hdL n) (m := s.take 10) (Zqe n) (fun x hx => hs x (List.mem_of_mem_take hx))
      by_cases e : s.take 10 = hdL n
      · rw [if_neg (by simp [e]), if_pos ⟨hn.1, hn.2, e⟩]
      · rw [if_pos (by simp; intro q; exact e (hiff.1 q).symm), if_neg (fun q => e q.2.2)]
    · have hy : (decide (n < 1) || decide (1073741824 < n)) = true := by simp; omega
      rw [hy]
      simp only [gd, Bool.true_eq_false, beq_iff_eq, if_false, Option.bind_some]
      rw [if_pos (by simp), if_neg (fun q => hn ⟨q.1, q.2.1⟩)]
end Go.Vx

namespace Go.Vx
open Go Go.RowKit
section
variable {key : Int → Int} {D : Int → Prop} {cmp : Int → Int → Option Int}
theorem Zlj {L A M B R : List Int} (h : A.length = B.length) (hb : (L ++ A ++ M ++ B ++ R).length ≤ 4611686018427387904) :
    ZJ (L ++ A ++ M ++ B ++ R) (L.length : Int) ((L.length + A.length + M.length : Nat) : Int) (A.length : Int) cmp = some (L ++ B ++ M ++ A ++ R) := by
  unfold ZJ
  have hb' : L.length + A.length + M.length + B.length + R.length ≤ 4611686018427387904 := by simpa [Nat.add_assoc] using hb
  refine ZqT (a := L.length) (b := L.length + A.length + M.length) (n := A.length) (fun L' M' R' x y i hi h1 h2 => ?_) (fun d => ?_) A B L M R 0 h (by omega) (by omega) (by omega)
  · unfold ZW
    have e1 : i64 ((L.length : Int) + (i : Int)) = ((L'.length : Nat) : Int) := (Zo (by omega) (by omega)).trans (by omega)
    have e2 : i64 (((L.length + A.length + M.length : Nat) : Int) + (i : Int)) = ((L'.length + 1 + M'.length : Nat) : Int) := (Zo (by omega) (by omega)).trans (by omega)
    have g1 : (L' ++ x :: M' ++ y :: R')[L'.length]? = some x := by simp
    have g2 : (L' ++ x :: M' ++ y :: R')[L'.length + 1 + M'.length]? = some y := by
      rw [List.getElem?_append_right (by simp; omega)]; simp; rw [show L'.length + 1 + M'.length - (L'.length + (M'.length + 1)) = 0 by omega]; rfl
    have g3 : ((L' ++ x :: M' ++ y :: R').set L'.length y)[L'.length + 1 + M'.length]? = some y := by
      rw [List.getElem?_set_ne (by omega)]; exact g2
    rw [if_pos (by simpa using hi), e1, e2, ZG g2, Option.bind_some, ZG g1, Option.bind_some, Option.bind_some]
    simp only [Int.toNat_natCast]
    rw [ZG g3, Option.bind_some, ZiN, show i64 ((i : Int) + 1) = (i : Int) + 1 from Zo (by omega) (by omega)]
  · unfold ZW
    rw [if_neg (by simp)]
theorem ZnN {L X Y R : List Int} (hX : X ≠ []) (hY : Y ≠ []) (hb : (L ++ X ++ Y ++ R).length ≤ 4611686018427387904) :
    Qd (L ++ X ++ Y ++ R) (L.length : Int) ((L.length + X.length : Nat) : Int) ((L.length + X.length + Y.length : Nat) : Int) cmp = some (L ++ Y ++ X ++ R) := by
  have hb' : L.length + X.length + Y.length + R.length ≤ 4611686018427387904 := by simpa [Nat.add_assoc] using hb
  unfold Qd
  obtain ⟨o', i', h1, h2, h3⟩ := Zq6 (body := Qa ((L.length + X.length : Nat) : Int) cmp) (sr := fun d a b n => ZJ d a b n cmp)
    (m := L.length + X.length) (N := L.length + X.length + Y.length + R.length) (fun L A M B R h hN => Zlj h (by simp only [List.length_append]; omega)) (fun o i j hi hj => by
      unfold Qa
      have e1 : i64 (((L.length + X.length : Nat) : Int) - (i : Int)) = ((L.length + X.length - i : Nat) : Int) := (Zo (by omega) (by omega)).trans (by omega)
      have e2 : i64 (((L.length + X.length : Nat) : Int) + (j : Int)) = ((L.length + X.length + j : Nat) : Int) := (Zo (by omega) (by omega)).trans (by omega)
      have e3 : i64 (((L.length + X.length + j : Nat) : Int) - (i : Int)) = ((L.length + X.length + j - i : Nat) : Int) := (Zo (by omega) (by omega)).trans (by omega)
      rw [e1, e2, e3]
      by_cases h : i = j
      · rw [if_neg (by simp [h]), if_pos h]
      · rw [if_pos (by simp; omega), if_neg h]
        by_cases h' : j < i
        · rw [if_pos (by simpa using h'), if_pos h', show i64 ((i : Int) - (j : Int)) = ((i - j : Nat) : Int) from (Zo (by omega) (by omega)).trans (by omega)]
        · rw [if_neg (by simpa using h'), if_neg h', show i64 ((j : Int) - (i : Int)) = ((j - i : Nat) : Int) from (Zo (by omega) (by omega)).trans (by omega)]) _ X Y L R rfl hX hY rfl rfl
  have f1 : i64 (((L.length + X.length : Nat) : Int) - (L.length : Int)) = (X.length : Int) := (Zo (by omega) (by omega)).trans (by omega)
  have f2 : i64 (((L.length + X.length + Y.length : Nat) : Int) - ((L.length + X.length : Nat) : Int)) = (Y.length : Int) := (Zo (by omega) (by omega)).trans (by omega)
  have f3 : i64 (((L.length + X.length : Nat) : Int) - (i' : Int)) = ((L.length + X.length - i' : Nat) : Int) := (Zo (by omega) (by omega)).trans (by omega)
  rw [f1, f2, h1]
  simp only [Option.bind_some, Q2]
  rw [f3, h3]; rfl
theorem Zkx {n : Nat} (h : n ≤ 4611686018427387904) : shr .u64 (u64 (i64 (n : Int))) 1 = some ((n / 2 : Nat) : Int) := by
  rw [show i64 (n : Int) = (n : Int) from Zo (by omega) (by omega), show u64 (n : Int) = (n : Int) from ZpB (by omega) (by omega)]
  rw [show (1 : Int) = ((1 : Nat) : Int) from rfl, Zp8 (by decide)]
  congr 1
end
end Go.Vx

namespace Go.Vx
open Go Go.RowKit
section
variable {key : Int → Int} {D : Int → Prop} {cmp : Int → Int → Option Int}
theorem Zkh {L X R : List Int} {c : Nat} (h1 : L.length ≤ c) (h2 : c < L.length + X.length) : (L ++ X ++ R)[c]? = some (X.getD (c - L.length) 0) := by
  obtain ⟨t, rfl⟩ : ∃ t, c = L.length + t := ⟨c - L.length, by omega⟩
  rw [ZpF (by omega), show L.length + t - L.length = t by omega]
  exact JR (by omega) 0
theorem ZbN {X : List Int} {t : Nat} (h : t < X.length) : X.getD t 0 ∈ X := by
  rw [List.getD_eq_getElem?_getD, List.getElem?_eq_getElem h]; exact List.getElem_mem h
theorem ZoR (hc : ∀ x y, D x → D y → ∃ c, cmp x y = some c ∧ (c < 0 ↔ key x < key y)) {L Y R : List Int} {x : Int} (hN : L.length + 1 + Y.length + R.length ≤ 1000000) (hY : Srt key Y) (hlt : ∀ y ∈ Y, x < y) (hD : ∀ z ∈ x :: Y, D z) :
    ∃ Z, ((loop (t2 (Qg (L ++ [x] ++ Y ++ R) (L.length : Int) cmp)) (((L.length + 1 : Nat) : Int), ((L.length + 1 + Y.length : Nat) : Int))) : Option Int).bind (t1 fun (i : Int) =>
      (loop (t2 (ZL i)) (L ++ [x] ++ Y ++ R, (L.length : Int))).bind (t1 fun (o : List Int) => some o)) = some (L ++ Z ++ R) ∧ Z.Perm (x :: Y) ∧ Srt key Z := by
  obtain ⟨s, h1, h2, h3, h4, h5⟩ := Zkg (body := Qg (L ++ [x] ++ Y ++ R) (L.length : Int) cmp) (fun c => decide (key (Y.getD (c - (L.length + 1)) 0) < key x)) (lo := L.length + 1) (hi := L.length + 1 + Y.length) (by omega) (fun i j a1 a2 a3 => by
      have e1 : i64 ((i : Int) + (j : Int)) = i64 ((i + j : Nat) : Int) := by push_cast; rfl
      have e2 : i64 (((i + j) / 2 : Nat) : Int) = (((i + j) / 2 : Nat) : Int) := Zo (by omega) (by omega)
      have e3 : i64 ((((i + j) / 2 : Nat) : Int) + 1) = (((i + j) / 2 + 1 : Nat) : Int) := (Zo (by omega) (by omega)).trans (by omega)
      have g1 : (L ++ [x] ++ Y ++ R)[(i + j) / 2]? = some (Y.getD ((i + j) / 2 - (L.length + 1)) 0) := by
        have := Zkh (L := L ++ [x]) (X := Y) (R := R) (c := (i + j) / 2) (by simp; omega) (by simp; omega)
        simpa using this
      have g2 : (L ++ [x] ++ Y ++ R)[L.length]? = some x := by simp
      unfold Qg
      rw [if_pos (by simpa using a2), e1, Zkx (by omega), Option.bind_some, e2, ZG g1, Option.bind_some, ZG g2, Option.bind_some]
      obtain ⟨c, c1, c2⟩ := hc (Y.getD ((i + j) / 2 - (L.length + 1)) 0) x (hD _ (List.mem_cons_of_mem _ (ZbN (by omega)))) (hD _ (List.mem_cons_self ..))
      rw [c1, Option.bind_some, e3]
      by_cases q : key (Y.getD ((i + j) / 2 - (L.length + 1)) 0) < key x
      · rw [if_pos (by simpa using c2.2 q), if_pos (by simpa using q)]
      · rw [if_neg (by simpa using fun w => q (c2.1 w)), if_neg (by simpa using q)]) (fun i a1 a2 => by
      unfold Qg
      rw [if_neg (by simp)])
  rw [h3, Option.bind_some, XL]
  have sU := Zqu (body := ZL (s : Int)) (e := s - 1) (fun L' R' p q hl => by
      unfold ZL
      have e1 : i64 ((s : Int) - 1) = ((s - 1 : Nat) : Int) := (Zo (by omega) (by omega)).trans (by omega)
      have e2 : i64 ((L'.length : Int) + 1) = ((L'.length + 1 : Nat) : Int) := (Zo (by omega) (by omega)).trans (by omega)
      have g1 : (L' ++ p :: q :: R')[L'.length + 1]? = some q := by
        rw [List.getElem?_append_right (by omega)]; simp
      have g2 : (L' ++ p :: q :: R')[L'.length]? = some p := by simp
      have g3 : ((L' ++ p :: q :: R').set L'.length q)[L'.length + 1]? = some q := by rw [List.getElem?_set_ne (by omega)]; exact g1
      rw [e1, e2, if_pos (by simpa using hl), ZG g1, Option.bind_some, ZG g2, Option.bind_some, Option.bind_some]
      simp only [Int.toNat_natCast]
      rw [ZG g3, Option.bind_some]
      have := ZiN (L := L') (M := []) (R := R') (x := p) (y := q)
      simp only [List.length_nil, Nat.add_zero, List.append_nil] at this
      rw [show L' ++ p :: q :: R' = L' ++ [p] ++ q :: R' by simp, this]
      simp) (fun d => by
      unfold ZL
      have e1 : i64 ((s : Int) - 1) = ((s - 1 : Nat) : Int) := (Zo (by omega) (by omega)).trans (by omega)
      rw [e1, if_neg (by simp)]) (Y.take (s - (L.length + 1))) L (Y.drop (s - (L.length + 1)) ++ R) x (by rw [List.length_take]; omega)
  have ed : L ++ [x] ++ Y ++ R = L ++ x :: (Y.take (s - (L.length + 1)) ++ (Y.drop (s - (L.length + 1)) ++ R)) := by
    rw [← List.append_assoc (Y.take _), List.take_append_drop]; simp
  rw [ed, sU]
  refine ⟨Y.take (s - (L.length + 1)) ++ x :: Y.drop (s - (L.length + 1)), by simp, ?_, ?_⟩
  · refine List.perm_middle.trans ?_
    rw [List.take_append_drop]
  · have hA : Srt key (Y.take (s - (L.length + 1))) := hY.sublist (List.take_sublist ..)
    have hB : Srt key (Y.drop (s - (L.length + 1))) := hY.sublist (List.drop_sublist ..)
    have hAx : ∀ a ∈ Y.take (s - (L.length + 1)), LtK key a x := by
      have := Zf2 (key := key) (m := [x]) hA (List.pairwise_singleton ..) (fun a b ha hb => by
        cases hb
        rw [List.getLast?_eq_getElem?, List.length_take] at ha
        have l2 := (List.getElem?_eq_some_iff.1 ha).1
        rw [List.length_take] at l2
        rw [List.getElem?_take_of_lt (by omega)] at ha
        have q := h4 (by omega)
        rw [show s - 1 - (L.length + 1) = min (s - (L.length + 1)) Y.length - 1 by omega, List.getD_eq_getElem?_getD, ha] at q
        exact .inl (by simpa using q))
      exact fun a ha => this a ha x (List.mem_singleton.2 rfl)
    have hxB : ∀ b ∈ Y.drop (s - (L.length + 1)), LtK key x b := by
      have := Zf2 (key := key) (l := [x]) (List.pairwise_singleton ..) hB (fun a b ha hb => by
        simp only [List.getLast?_singleton, Option.some.injEq] at ha
        subst ha
        rw [List.head?_drop] at hb
        have l1 := (List.getElem?_eq_some_iff.1 hb).1
        have q := h5 (by omega)
        rw [List.getD_eq_getElem?_getD, hb] at q
        simp only [Option.getD_some, decide_eq_false_iff_not] at q
        have : x < b := hlt b (List.mem_of_getElem? hb)
        unfold LtK; omega)
      exact fun b hb => this x (List.mem_singleton.2 rfl) b hb
    refine hA.app (List.pairwise_cons.2 ⟨hxB, hB⟩) fun a ha b hb => ?_
    rcases List.mem_cons.1 hb with rfl | hb
    · exact hAx a ha
    · exact (hAx a ha).trans (hxB b hb)
theorem ZnV (hc : ∀ x y, D x → D y → ∃ c, cmp x y = some c ∧ (c < 0 ↔ key x < key y)) {L X R : List Int} {y : Int} (hN : L.length + X.length + 1 + R.length ≤ 1000000) (hX : Srt key X) (hlt : ∀ x ∈ X, x < y) (hD : ∀ z ∈ y :: X, D z) :
    ∃ Z, ((loop (t2 (Qi (L ++ X ++ [y] ++ R) ((L.length + X.length : Nat) : Int) cmp)) ((L.length : Int), ((L.length + X.length : Nat) : Int))) : Option Int).bind (t1 fun (i : Int) =>
      (loop (t2 (ZM i)) (L ++ X ++ [y] ++ R, ((L.length + X.length : Nat) : Int))).bind (t1 fun (o : List Int) => some o)) = some (L ++ Z ++ R) ∧ Z.Perm (X ++ [y]) ∧ Srt key Z := by
  obtain ⟨s, h1, h2, h3, h4, h5⟩ := Zkg (body := Qi (L ++ X ++ [y] ++ R) ((L.length + X.length : Nat) : Int) cmp) (fun c => !decide (key y < key (X.getD (c - L.length) 0))) (lo := L.length) (hi := L.length + X.length) (by omega) (fun i j a1 a2 a3 => by
      have e1 : i64 ((i : Int) + (j : Int)) = i64 ((i + j : Nat) : Int) := by push_cast; rfl
      have e2 : i64 (((i + j) / 2 : Nat) : Int) = (((i + j) / 2 : Nat) : Int) := Zo (by omega) (by omega)
      have e3 : i64 ((((i + j) / 2 : Nat) : Int) + 1) = (((i + j) / 2 + 1 : Nat) : Int) := (Zo (by omega) (by omega)).trans (by omega)
      have g1 : (L ++ X ++ [y] ++ R)[(i + j) / 2]? = some (X.getD ((i + j) / 2 - L.length) 0) := by
        have := Zkh (L := L) (X := X) (R := [y] ++ R) (c := (i + j) / 2) (by omega) (by omega)
        simpa using this
      have g2 : (L ++ X ++ [y] ++ R)[L.length + X.length]? = some y := by
        rw [List.append_assoc, List.getElem?_append_right (by simp)]; simp
      unfold Qi
      rw [if_pos (by simpa using a2), e1, Zkx (by omega), Option.bind_some, e2, ZG g2, Option.bind_some, ZG g1, Option.bind_some]
      obtain ⟨c, c1, c2⟩ := hc y (X.getD ((i + j) / 2 - L.length) 0) (hD _ (List.mem_cons_self ..)) (hD _ (List.mem_cons_of_mem _ (ZbN (by omega))))
      rw [c1, Option.bind_some, e3]
      by_cases q : key y < key (X.getD ((i + j) / 2 - L.length) 0)
      · rw [if_neg (by simpa using c2.2 q), if_neg (by simpa using q)]
      · rw [if_pos (by simpa using fun w => q (c2.1 w)), if_pos (by simpa using q)]) (fun i a1 a2 => by
      unfold Qi
      rw [if_neg (by simp)])
  rw [h3, Option.bind_some, XL]
  have hdl : (X.drop (s - L.length)).length = L.length + X.length - s := by rw [List.length_drop]; omega
  have htl : (X.take (s - L.length)).length = s - L.length := by rw [List.length_take]; omega
  have sD := ZqO (body := ZM (s : Int)) (e := s) (N := 1000000) (fun L' R' p q hl hl2 => by
      unfold ZM
      have e1 : i64 ((L'.length : Int) + 1 - 1) = ((L'.length : Nat) : Int) := (Zo (by omega) (by omega)).trans (by omega)
      have e2 : (L'.length : Int) + 1 = ((L'.length + 1 : Nat) : Int) := by omega
      have g1 : (L' ++ p :: q :: R')[L'.length + 1]? = some q := by
        rw [List.getElem?_append_right (by omega)]; simp
      have g2 : (L' ++ p :: q :: R')[L'.length]? = some p := by simp
      have g3 : ((L' ++ p :: q :: R').set (L'.length + 1) p)[L'.length]? = some p := by rw [List.getElem?_set_ne (by omega)]; exact g2
      rw [e1, e2, if_pos (by simp; omega), ZG g2, Option.bind_some, ZG g1, Option.bind_some, Option.bind_some]
      simp only [Int.toNat_natCast]
      rw [ZG g3, Option.bind_some]
      have := ZiN (L := L') (M := []) (R := R') (x := p) (y := q)
      simp only [List.length_nil, Nat.add_zero, List.append_nil] at this
      rw [show L' ++ p :: q :: R' = L' ++ [p] ++ q :: R' by simp, List.set_comm _ _ (by omega), this]
      simp) (fun d => by
      unfold ZM
      rw [if_neg (by simp)]) _ (X.drop (s - L.length)) (L ++ X.take (s - L.length)) R y rfl (by rw [List.length_append]; omega) (by rw [List.length_append]; omega)
  have ed : L ++ X ++ [y] ++ R = L ++ X.take (s - L.length) ++ X.drop (s - L.length) ++ y :: R := by
    rw [List.append_assoc L (X.take _), List.take_append_drop]; simp
  have el : ((L.length + X.length : Nat) : Int) = ((L ++ X.take (s - L.length)).length : Int) + ((X.drop (s - L.length)).length : Int) := by
    rw [List.length_append]; omega
  rw [ed, el, sD]
  refine ⟨X.take (s - L.length) ++ y :: X.drop (s - L.length), by simp, ?_, ?_⟩
  · refine List.perm_middle.trans ?_
    rw [List.take_append_drop]
    exact (List.perm_append_comm (l₁ := X) (l₂ := [y])).symm
  · have hA : Srt key (X.take (s - L.length)) := hX.sublist (List.take_sublist ..)
    have hB : Srt key (X.drop (s - L.length)) := hX.sublist (List.drop_sublist ..)
    have hAy : ∀ a ∈ X.take (s - L.length), LtK key a y := by
      have := Zf2 (key := key) (m := [y]) hA (List.pairwise_singleton ..) (fun a b ha hb => by
        cases hb
        rw [List.getLast?_eq_getElem?, htl] at ha
        have l2 := (List.getElem?_eq_some_iff.1 ha).1
        rw [htl] at l2
        rw [List.getElem?_take_of_lt (by omega)] at ha
        have q := h4 (by omega)
        rw [show s - 1 - L.length = s - L.length - 1 by omega, List.getD_eq_getElem?_getD, ha] at q
        simp only [Option.getD_some, Bool.not_eq_true', decide_eq_false_iff_not] at q
        have : a < y := hlt a (List.mem_of_getElem? ha)
        unfold LtK; omega)
      exact fun a ha => this a ha y (List.mem_singleton.2 rfl)
    have hyB : ∀ b ∈ X.drop (s - L.length), LtK key y b := by
      have := Zf2 (key := key) (l := [y]) (List.pairwise_singleton ..) hB (fun a b ha hb => by
        simp only [List.getLast?_singleton, Option.some.injEq] at ha
        subst ha
        rw [List.head?_drop] at hb
        have l1 := (List.getElem?_eq_some_iff.1 hb).1
        have q := h5 (by omega)
        rw [List.getD_eq_getElem?_getD, hb] at q
        exact .inl (by simpa using q))
      exact fun b hb => this y (List.mem_singleton.2 rfl) b hb
    refine hA.app (List.pairwise_cons.2 ⟨hyB, hB⟩) fun a ha b hb => ?_
    rcases List.mem_cons.1 hb with rfl | hb
    · exact hAy a ha
    · exact (hAy a ha).trans (hyB b hb)
end
end Go.Vx
