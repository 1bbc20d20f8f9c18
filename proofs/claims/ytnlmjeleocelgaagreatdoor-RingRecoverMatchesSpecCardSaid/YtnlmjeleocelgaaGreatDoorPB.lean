/- A text of the proof: a verified executor of the program form, or the contracts of the functions that the law reaches. -/
import Derived.Test.YtnlmjeleocelgaaGreatDoorPA
import Derived.Test.YtnlmjeleocelgaaGreatDoorShT
set_option linter.all false
namespace Go.Vx
open Go Go.RowKit
set_option linter.unusedVariables false

noncomputable def ZeL (data : List Int) (f2 : Vector Int 64) (i : Int) : Option (((Vector Int 64) × Int) ⊕ ((Vector Int 64) × Int) ⊕ ((Vector Int 64))) :=
  if (decide (i < (data.length : Int))) = true then
  (idx data i).bind fun x3 =>
  if ((decide (x3 < 0)) || (decide (2047 < x3))) = true then
  some (.inr (.inl ((#v[0, 0, 0, 0, 0, 0, 0, 0, 0, 0, 0, 0, 0, 0, 0, 0, 0, 0, 0, 0, 0, 0, 0, 0, 0, 0, 0, 0, 0, 0, 0, 0, 0, 0, 0, 0, 0, 0, 0, 0, 0, 0, 0, 0, 0, 0, 0, 0, 0, 0, 0, 0, 0, 0, 0, 0, 0, 0, 0, 0, 0, 0, 0, 0] : Vector Int 64), 9)))
  else
  (ZK f2 (i64 (3 + i))).bind fun x4 =>
  some (.inl ((XX f2 (i64 (3 + i)) (u16 x3)), (i64 (i + 1))))
  else
  some (.inr (.inr f2))
theorem Zjl (data : List Int) (f2 : Vector Int 64) (i : Int) : Le (ZeL data f2 i) (Zez data f2 i) := by
  unfold ZeL Zez
  with_reducible repeat' (first | exact Le.refl _ | apply Le.bind | apply Le.ite | intro _)

noncomputable def ZeS (n2 : Int) (ones2 : Int) : Option ((Int × Int) ⊕ (Int)) :=
  if (decide (0 < n2)) = true then
  (rem n2 2).bind fun q =>
  (quo .i64 n2 2).bind fun q2 =>
  some (.inl (q2, (i64 (ones2 + q))))
  else
  some (.inr ones2)
theorem Zjx (n2 : Int) (ones2 : Int) : Le (ZeS n2 ones2) (Zey n2 ones2) := by
  unfold ZeS Zey
  with_reducible repeat' (first | exact Le.refl _ | apply Le.bind | apply Le.ite | intro _)

noncomputable def ZcJ (n : Int) : Option Bool :=
  ((QO (t2 (ZeS)) (n, 0)) : Option ((Int))).bind (t1 fun (ones : Int) =>
  (rem ones 2).bind fun q3 =>
  some (decide (q3 = 1)))
theorem ZiK (n : Int) : Le (ZcJ n) (Zcd n) := by
  unfold ZcJ Zcd
  with_reducible repeat' (first | exact Le.refl _ | apply Le.bind | apply Le.loop | apply Le.t1 | apply Le.t2 | apply Zjx | intro _)

noncomputable def Zb1 (data : Int) : Option Int :=
  (ZcJ data).bind fun y =>
  if y = true then
  some data
  else
  some (i64 (data + 2048))
theorem Zfl (data : Int) : Le (Zb1 data) (Zb2 data) := by
  unfold Zb1 Zb2
  with_reducible repeat' (first | exact Le.refl _ | apply Le.bind | apply Le.ite | apply ZiK | intro _)

noncomputable def ZcG (f3 : Vector Int 64) (i : Int) : Option (((Vector Int 64) × Int) ⊕ ((Vector Int 64))) :=
  if (decide (i ≤ 60)) = true then
  (ZK f3 i).bind fun x =>
  (rem (i64 x) 2048).bind fun q =>
  (Zb1 q).bind fun y =>
  (ZK f3 i).bind fun x2 =>
  some (.inl ((XX f3 i (u16 y)), (i64 (i + 1))))
  else
  some (.inr f3)
theorem Zhy (f3 : Vector Int 64) (i : Int) : Le (ZcG f3 i) (Zco f3 i) := by
  unfold ZcG Zco
  with_reducible repeat' (first | exact Le.refl _ | apply Le.bind | apply Le.ite | apply Zfl | intro _)

noncomputable def ZdB (f : Vector Int 64) : Option Int :=
  (ZK f 1).bind fun x =>
  (rem (i64 x) 2048).bind fun q =>
  (ZK f 2).bind fun x2 =>
  (rem (i64 x2) 2048).bind fun q2 =>
  some (i64 (q + (i64 (q2 * 2048))))
theorem Zh4 (f : Vector Int 64) : Le (ZdB f) (Xx f) := by
  unfold ZdB Xx
  with_reducible repeat' (first | exact Le.refl _ | apply Le.bind | intro _)

noncomputable def ZeQ (number : Int) : Option Int :=
  (rem number 4).bind fun q =>
  (ZK (#v[583, 1464, 2631, 3512] : Vector Int 4) q).bind fun x =>
  some x
theorem Zjj (number : Int) : Le (ZeQ number) (J7 number) := by
  unfold ZeQ J7
  with_reducible repeat' (first | exact Le.refl _ | apply Le.bind | intro _)

noncomputable def ZeJ (f : Vector Int 64) (x2 : Int) (i : Int) : Option ((Int × Int) ⊕ (Int)) :=
  if (decide (i ≤ 60)) = true then
  (ZK f i).bind fun x3 =>
  (rem (i64 x3) 2048).bind fun q =>
  some (.inl ((ZaL .i64 x2 q), (i64 (i + 1))))
  else
  some (.inr x2)
theorem ZjD (f : Vector Int 64) (x2 : Int) (i : Int) : Le (ZeJ f x2 i) (Za3 f x2 i) := by
  unfold ZeJ Za3
  with_reducible repeat' (first | exact Le.refl _ | apply Le.bind | apply Le.ite | intro _)

noncomputable def Zg3 (f : Vector Int 64) : Option Int :=
  ((QO (t2 (ZeJ f)) (0, 1)) : Option ((Int))).bind (t1 fun (x : Int) =>
  some x)
theorem ZkT (f : Vector Int 64) : Le (Zg3 f) (Zdm f) := by
  unfold Zg3 Zdm
  with_reducible repeat' (first | exact Le.refl _ | apply Le.bind | apply Le.loop | apply Le.t1 | apply Le.t2 | apply ZjD | intro _)

noncomputable def Zdz (f : Vector Int 64) (rest2 : Int) (i : Int) : Option ((Int × Int) ⊕ (Int)) :=
  if (decide (i < 766)) = true then
  ((if (decide (i < 744)) = true then
  (quo .i64 i 12).bind fun q =>
  (ZK f q).bind fun x =>
  (rem i 12).bind fun q2 =>
  (shr .i64 (i64 x) (i64 (11 - q2))).bind fun q3 =>
  some (Q1 .i64 q3 1)
  else
  some 0) : Option ((Int))).bind (t1 fun (bit : Int) =>
  if (decide (4194304 ≤ (i64 ((i64 (rest2 * 2)) + bit)))) = true then
  some (.inl ((ZaL .i64 (i64 ((i64 (rest2 * 2)) + bit)) 6291471), (i64 (i + 1))))
  else
  some (.inl ((i64 ((i64 (rest2 * 2)) + bit)), (i64 (i + 1)))))
  else
  some (.inr rest2)
theorem Zh7 (f : Vector Int 64) (rest2 : Int) (i : Int) : Le (Zdz f rest2 i) (JM f rest2 i) := by
  unfold Zdz JM
  with_reducible repeat' (first | exact Le.refl _ | apply Le.bind | apply Le.ite | apply Le.t1 | intro _)

noncomputable def Zfr (f : Vector Int 64) : Option Int :=
  ((QO (t2 (Zdz f)) (0, 0)) : Option ((Int))).bind (t1 fun (rest : Int) =>
  some rest)
theorem Zj4 (f : Vector Int 64) : Le (Zfr f) (Za1 f) := by
  unfold Zfr Za1
  with_reducible repeat' (first | exact Le.refl _ | apply Le.bind | apply Le.loop | apply Le.t1 | apply Le.t2 | apply Zh7 | intro _)

noncomputable def Zei (f : Vector Int 64) : Option (Vector Int 64) :=
  (Zfr f).bind fun y =>
  (quo .i64 y 2048).bind fun q =>
  (Zb1 q).bind fun y2 =>
  (rem y 2048).bind fun q2 =>
  (Zb1 q2).bind fun y3 =>
  (ZK f 62).bind fun x =>
  (ZK (XX f 62 (u16 y2)) 63).bind fun x2 =>
  some (XX (XX f 62 (u16 y2)) 63 (u16 y3))
theorem ZiV (f : Vector Int 64) : Le (Zei f) (Zcz f) := by
  unfold Zei Zcz
  with_reducible repeat' (first | exact Le.refl _ | apply Le.bind | apply Zj4 | apply Zfl | intro _)

noncomputable def ZeM (f : Vector Int 64) : Option (Vector Int 64) :=
  ((QO (t2 (ZcG)) (f, 1)) : Option (((Vector Int 64)))).bind (t1 fun (f2 : Vector Int 64) =>
  (ZdB f2).bind fun y2 =>
  (ZeQ y2).bind fun y3 =>
  (ZK f2 0).bind fun x3 =>
  (Zg3 (XX f2 0 (u16 y3))).bind fun y4 =>
  (Zb1 y4).bind fun y5 =>
  (ZK (XX f2 0 (u16 y3)) 61).bind fun x4 =>
  (Zei (XX (XX f2 0 (u16 y3)) 61 (u16 y5))).bind fun y6 =>
  some y6)
theorem Zjb (f : Vector Int 64) : Le (ZeM f) (Zdl f) := by
  unfold ZeM Zdl
  with_reducible repeat' (first | exact Le.refl _ | apply Le.bind | apply Le.loop | apply Le.t1 | apply Le.t2 | apply Zhy | apply Zh4 | apply Zjj | apply ZkT | apply Zfl | apply ZiV | intro _)

noncomputable def Zg5 (number : Int) (data : List Int) : Option ((Vector Int 64) × Int) :=
  if ((decide (number < 0)) || (decide (4194304 ≤ number))) = true then
  some ((#v[0, 0, 0, 0, 0, 0, 0, 0, 0, 0, 0, 0, 0, 0, 0, 0, 0, 0, 0, 0, 0, 0, 0, 0, 0, 0, 0, 0, 0, 0, 0, 0, 0, 0, 0, 0, 0, 0, 0, 0, 0, 0, 0, 0, 0, 0, 0, 0, 0, 0, 0, 0, 0, 0, 0, 0, 0, 0, 0, 0, 0, 0, 0, 0] : Vector Int 64), 9)
  else
  if (!decide ((data.length : Int) = 58)) = true then
  some ((#v[0, 0, 0, 0, 0, 0, 0, 0, 0, 0, 0, 0, 0, 0, 0, 0, 0, 0, 0, 0, 0, 0, 0, 0, 0, 0, 0, 0, 0, 0, 0, 0, 0, 0, 0, 0, 0, 0, 0, 0, 0, 0, 0, 0, 0, 0, 0, 0, 0, 0, 0, 0, 0, 0, 0, 0, 0, 0, 0, 0, 0, 0, 0, 0] : Vector Int 64), 3)
  else
  (rem number 2048).bind fun q =>
  (quo .i64 number 2048).bind fun q2 =>
  (ZK (#v[0, 0, 0, 0, 0, 0, 0, 0, 0, 0, 0, 0, 0, 0, 0, 0, 0, 0, 0, 0, 0, 0, 0, 0, 0, 0, 0, 0, 0, 0, 0, 0, 0, 0, 0, 0, 0, 0, 0, 0, 0, 0, 0, 0, 0, 0, 0, 0, 0, 0, 0, 0, 0, 0, 0, 0, 0, 0, 0, 0, 0, 0, 0, 0] : Vector Int 64) 1).bind fun x =>
  (ZK (XX (#v[0, 0, 0, 0, 0, 0, 0, 0, 0, 0, 0, 0, 0, 0, 0, 0, 0, 0, 0, 0, 0, 0, 0, 0, 0, 0, 0, 0, 0, 0, 0, 0, 0, 0, 0, 0, 0, 0, 0, 0, 0, 0, 0, 0, 0, 0, 0, 0, 0, 0, 0, 0, 0, 0, 0, 0, 0, 0, 0, 0, 0, 0, 0, 0] : Vector Int 64) 1 (u16 q)) 2).bind fun x2 =>
  ((QO (t2 (ZeL data)) ((XX (XX (#v[0, 0, 0, 0, 0, 0, 0, 0, 0, 0, 0, 0, 0, 0, 0, 0, 0, 0, 0, 0, 0, 0, 0, 0, 0, 0, 0, 0, 0, 0, 0, 0, 0, 0, 0, 0, 0, 0, 0, 0, 0, 0, 0, 0, 0, 0, 0, 0, 0, 0, 0, 0, 0, 0, 0, 0, 0, 0, 0, 0, 0, 0, 0, 0] : Vector Int 64) 1 (u16 q)) 2 (u16 q2)), 0)) : Option (((Vector Int 64) × Int) ⊕ ((Vector Int 64)))).bind (Sum.elim (fun q' => some q') (t1 fun (f : Vector Int 64) =>
  (ZeM f).bind fun y =>
  some (y, 0)))
theorem ZkZ (number : Int) (data : List Int) : Le (Zg5 number data) (ZfV number data) := by
  unfold Zg5 ZfV
  with_reducible repeat' (first | exact Le.refl _ | apply Le.bind | apply Le.ite | apply Le.loop | apply Le.t1 | apply Le.t2 | apply Le.elim | apply Zjl | apply Zjb | intro _)

noncomputable def QI (n : Int) (low : Int) (high : Int) : Option Bool :=
  some ((decide (low ≤ n)) && (decide (n ≤ high)))
theorem X7 (n : Int) (low : Int) (high : Int) : Le (QI n low high) (Z9 n low high) := by
  unfold QI Z9
  with_reducible repeat' (first | exact Le.refl _ | apply Le.bind | intro _)

noncomputable def Zag (slots : Int) : Option Int :=
  some (i64 (16 + (i64 (slots * 97))))
theorem ZdK (slots : Int) : Le (Zag slots) (Q3 slots) := by
  unfold Zag Q3
  with_reducible repeat' (first | exact Le.refl _ | apply Le.bind | intro _)

noncomputable def Zfe (x : Int) (y : Int) : Option (Int × Int) :=
  (shr .u64 x 32).bind fun q =>
  (shr .u64 y 32).bind fun q2 =>
  (shr .u64 (u64 ((Q1 .u64 x 4294967295) * (Q1 .u64 y 4294967295))) 32).bind fun q3 =>
  (shr .u64 (u64 ((u64 (q * (Q1 .u64 y 4294967295))) + q3)) 32).bind fun q4 =>
  (shr .u64 (u64 ((Q1 .u64 (u64 ((u64 (q * (Q1 .u64 y 4294967295))) + q3)) 4294967295) + (u64 ((Q1 .u64 x 4294967295) * q2)))) 32).bind fun q5 =>
  some ((u64 ((u64 ((u64 (q * q2)) + q4)) + q5)), (u64 (x * y)))
theorem Zj8 (x : Int) (y : Int) : Le (Zfe x y) (Zd2 x y) := by
  unfold Zfe Zd2
  with_reducible repeat' (first | exact Le.refl _ | apply Le.bind | intro _)

noncomputable def Zg4 (x : Int) (y : Int) : Option (Int × Int) :=
  (Zfe x y).bind fun y2 =>
  some (y2.1, y2.2)
theorem Zln (x : Int) (y : Int) : Le (Zg4 x y) (Zgn x y) := by
  unfold Zg4 Zgn
  with_reducible repeat' (first | exact Le.refl _ | apply Le.bind | apply Zj8 | intro _)

noncomputable def XQ (newslice2 : List Int) (n : Int) : Option (((List Int) × Int) ⊕ ((List Int))) :=
  if (decide (n < (newslice2.length : Int))) = true then
  (slq newslice2 n (newslice2.length : Int)).bind fun u =>
  (slq newslice2 0 n).bind fun u2 =>
  some (.inl ((cpy newslice2 n.toNat (Int.toNat ((newslice2.length : Int) - n)) (Int.toNat 0) (Int.toNat (n - 0))), (i64 (n + ((min (Int.toNat (n - 0)) (Int.toNat ((newslice2.length : Int) - n)) : Nat) : Int)))))
  else
  some (.inr newslice2)
theorem Zdj (newslice2 : List Int) (n : Int) : Le (XQ newslice2 n) (Xd newslice2 n) := by
  unfold XQ Xd
  with_reducible repeat' (first | exact Le.refl _ | apply Le.bind | apply Le.ite | intro _)

noncomputable def Jp (x : List Int) (count : Int) : Option (List Int) :=
  if (decide (count < 0)) = true then
  none
  else
  (Zg4 (u64 (x.length : Int)) (u64 count)).bind fun y =>
  if ((decide (0 < y.1)) || (decide (9223372036854775807 < y.2))) = true then
  none
  else
  (mks (i64 y.2) 0).bind fun l =>
  ((QO (t2 (XQ)) ((ZiT l x), ((min x.length l.length : Nat) : Int))) : Option (((List Int)))).bind (t1 fun (newslice : List Int) =>
  some newslice)
theorem Zd4 (x : List Int) (count : Int) : Le (Jp x count) (Q4 x count) := by
  unfold Jp Q4
  with_reducible repeat' (first | exact Le.refl _ | apply Le.bind | apply Le.ite | apply Le.loop | apply Le.t1 | apply Le.t2 | apply Zln | apply Zdj | intro _)

noncomputable def Zbn (sectors : Int) (slots : Int) (Sectors2 : List (List Int)) (i : Int) : Option (((List (List Int)) × Int) ⊕ ((List (List Int)))) :=
  if (decide (i < sectors)) = true then
  (((Zag slots).bind fun y4 =>
  (Jp ([255] : List Int) y4).bind fun y5 =>
  (app Sectors2 [y5]).bind fun l3 =>
  some l3) : Option (((List (List Int))))).bind (t1 fun (Sectors3 : List (List Int)) =>
  some (.inl (Sectors3, (i64 (i + 1)))))
  else
  some (.inr Sectors2)
theorem Zf1 (sectors : Int) (slots : Int) (Sectors2 : List (List Int)) (i : Int) : Le (Zbn sectors slots Sectors2 i) (ZaF sectors slots Sectors2 i) := by
  unfold Zbn ZaF
  with_reducible repeat' (first | exact Le.refl _ | apply Le.bind | apply Le.ite | apply Le.t1 | apply ZdK | apply Zd4 | intro _)

noncomputable def Zc1 (sectors : Int) (slots : Int) (limit : Int) : Option (api_Memory × Int) :=
  (QI sectors 2 64).bind fun y =>
  (gd ((!y) == false) false (QI slots 1 64)).bind fun y2 =>
  (gd (((!y) || (!y2)) == false) false (QI limit 1 1000000)).bind fun y3 =>
  if (((!y) || (!y2)) || (!y3)) = true then
  some ((api_Memory.mk 0 0 [] [] []), 9)
  else
  (((mkz 8 sectors 0).bind fun l =>
  (mkz 1 sectors false).bind fun l2 =>
  some (l, l2)) : Option (((List Int) × (List Bool)))).bind (t2 fun (Wear : List Int) (Bad : List Bool) =>
  ((QO (t2 (Zbn sectors slots)) ([], 0)) : Option (((List (List Int))))).bind (t1 fun (Sectors : List (List Int)) =>
  some ((api_Memory.mk slots limit Sectors Wear Bad), 0)))
theorem ZhS (sectors : Int) (slots : Int) (limit : Int) : Le (Zc1 sectors slots limit) (ZaY sectors slots limit) := by
  unfold Zc1 ZaY
  with_reducible repeat' (first | exact Le.refl _ | apply Le.bind | apply Le.ite | apply Le.gd | apply Le.loop | apply Le.t1 | apply Le.t2 | apply X7 | apply Zf1 | intro _)

noncomputable def ZaC (m : api_Memory) (i : Int) : Option ((Int) ⊕ (Int) ⊕ (Unit)) :=
  if (decide (i < (m.Sectors.length : Int))) = true then
  (idx m.Sectors i).bind fun x =>
  (Zag m.Slots).bind fun y4 =>
  if (!decide ((x.length : Int) = y4)) = true then
  some (.inr (.inl 3))
  else
  (idx m.Wear i).bind fun x2 =>
  (QI x2 0 m.Limit).bind fun y5 =>
  if (!y5) = true then
  some (.inr (.inl 9))
  else
  some (.inl (i64 (i + 1)))
  else
  some (.inr (.inr ()))
theorem Zfk (m : api_Memory) (i : Int) : Le (ZaC m i) (Qq m i) := by
  unfold ZaC Qq
  with_reducible repeat' (first | exact Le.refl _ | apply Le.bind | apply Le.ite | apply ZdK | apply X7 | intro _)

noncomputable def ZbX (m : api_Memory) : Option Int :=
  (QI m.Slots 1 64).bind fun y =>
  (gd ((!y) == false) false (QI m.Limit 1 1000000)).bind fun y2 =>
  (gd (((!y) || (!y2)) == false) false (QI (m.Sectors.length : Int) 2 64)).bind fun y3 =>
  if (((!y) || (!y2)) || (!y3)) = true then
  some 9
  else
  if ((!decide ((m.Wear.length : Int) = (m.Sectors.length : Int))) || (!decide ((m.Bad.length : Int) = (m.Sectors.length : Int)))) = true then
  some 2
  else
  ((QO (t1 (ZaC m)) 0) : Option ((Int) ⊕ (Unit))).bind (Sum.elim (fun q' => some q') (t0 (some 0)))
theorem ZgD (m : api_Memory) : Le (ZbX m) (QP m) := by
  unfold ZbX QP
  with_reducible repeat' (first | exact Le.refl _ | apply Le.bind | apply Le.ite | apply Le.gd | apply Le.loop | apply Le.t0 | apply Le.t1 | apply Le.elim | apply X7 | apply Zfk | intro _)

noncomputable def ZbP (l : List api_Memory) (i : Int) : Option ((Int) ⊕ (Int) ⊕ (Unit)) :=
  if (decide (i < (l.length : Int))) = true then
  (idx l i).bind fun x =>
  (ZbX x).bind fun y2 =>
  if (!decide (y2 = 0)) = true then
  some (.inr (.inl y2))
  else
  some (.inl (i64 (i + 1)))
  else
  some (.inr (.inr ()))
theorem ZgL (l : List api_Memory) (i : Int) : Le (ZbP l i) (ring_checkAll_L1 l i) := by
  unfold ZbP ring_checkAll_L1
  with_reducible repeat' (first | exact Le.refl _ | apply Le.bind | apply Le.ite | apply ZgD | intro _)

noncomputable def ZbE (l : List api_Memory) : Option Int :=
  (QI (l.length : Int) 1 8).bind fun y =>
  if (!y) = true then
  some 3
  else
  ((QO (t1 (ZbP l)) 0) : Option ((Int) ⊕ (Unit))).bind (Sum.elim (fun q' => some q') (t0 (some 0)))
theorem ZeZ (l : List api_Memory) : Le (ZbE l) (Q0 l) := by
  unfold ZbE Q0
  with_reducible repeat' (first | exact Le.refl _ | apply Le.bind | apply Le.ite | apply Le.loop | apply Le.t0 | apply Le.t1 | apply Le.elim | apply X7 | apply ZgL | intro _)

noncomputable def ZaS (m : api_Memory) (sectors2 : List (List Int)) (i : Int) : Option (((List (List Int)) × Int) ⊕ ((List (List Int)))) :=
  if (decide (i < (m.Sectors.length : Int))) = true then
  (idx m.Sectors i).bind fun x =>
  (Zff 1 x).bind fun y =>
  (app sectors2 [y]).bind fun l =>
  some (.inl (l, (i64 (i + 1))))
  else
  some (.inr sectors2)
theorem ZfM (m : api_Memory) (sectors2 : List (List Int)) (i : Int) : Le (ZaS m sectors2 i) (Zak m sectors2 i) := by
  unfold ZaS Zak
  with_reducible repeat' (first | exact Le.refl _ | apply Le.bind | apply Le.ite | intro _)

noncomputable def Zct (m : api_Memory) : Option api_Memory :=
  ((QO (t2 (ZaS m)) ([], 0)) : Option (((List (List Int))))).bind (t1 fun (sectors : List (List Int)) =>
  (Zff 8 m.Wear).bind fun y2 =>
  (Zff 1 m.Bad).bind fun y3 =>
  some (api_Memory.mk m.Slots m.Limit sectors y2 y3))
theorem Zg0 (m : api_Memory) : Le (Zct m) (Zam m) := by
  unfold Zct Zam
  with_reducible repeat' (first | exact Le.refl _ | apply Le.bind | apply Le.loop | apply Le.t1 | apply Le.t2 | apply ZfM | intro _)

noncomputable def ZcA (l : List api_Memory) (out2 : List api_Memory) (i : Int) : Option (((List api_Memory) × Int) ⊕ ((List api_Memory))) :=
  if (decide (i < (l.length : Int))) = true then
  (idx l i).bind fun x =>
  (Zct x).bind fun y =>
  (app out2 [y]).bind fun l2 =>
  some (.inl (l2, (i64 (i + 1))))
  else
  some (.inr out2)
theorem Zhd (l : List api_Memory) (out2 : List api_Memory) (i : Int) : Le (ZcA l out2 i) (Zan l out2 i) := by
  unfold ZcA Zan
  with_reducible repeat' (first | exact Le.refl _ | apply Le.bind | apply Le.ite | apply Zg0 | intro _)

noncomputable def Zb5 (l : List api_Memory) : Option (List api_Memory) :=
  ((QO (t2 (ZcA l)) ([], 0)) : Option (((List api_Memory)))).bind (t1 fun (out : List api_Memory) =>
  some out)
theorem ZfD (l : List api_Memory) : Le (Zb5 l) (JA l) := by
  unfold Zb5 JA
  with_reducible repeat' (first | exact Le.refl _ | apply Le.bind | apply Le.loop | apply Le.t1 | apply Le.t2 | apply Zhd | intro _)

noncomputable def ZcZ (sequence : Int) (out2 : List Int) (shift : Int) : Option (((List Int) × Int) ⊕ ((List Int))) :=
  if (decide (0 ≤ shift)) = true then
  (shr .i64 sequence shift).bind fun q =>
  (apz 1 out2 ([(u8 q)] : List Int)).bind fun l =>
  some (.inl (l, (i64 (shift - 8))))
  else
  some (.inr out2)
theorem Zht (sequence : Int) (out2 : List Int) (shift : Int) : Le (ZcZ sequence out2 shift) (Xc sequence out2 shift) := by
  unfold ZcZ Xc
  with_reducible repeat' (first | exact Le.refl _ | apply Le.bind | apply Le.ite | intro _)

noncomputable def ZcR (out : List Int) (out4 : List Int) (i : Int) : Option (((List Int) × Int) ⊕ ((List Int))) :=
  if (decide (i < ((Int.toNat (6 - 2) : Nat) : Int))) = true then
  (ck (decide ((0 : Int) ≤ i) && decide (i < ((Int.toNat (6 - 2) : Nat) : Int)))).bind fun u2 =>
  (idx out (2 + i)).bind fun x2 =>
  (apz 1 out4 ([(ZaL .u8 255 x2)] : List Int)).bind fun l2 =>
  some (.inl (l2, (i64 (i + 1))))
  else
  some (.inr out4)
theorem ZhK (out : List Int) (out4 : List Int) (i : Int) : Le (ZcR out out4 i) (Xf out out4 i) := by
  unfold ZcR Xf
  with_reducible repeat' (first | exact Le.refl _ | apply Le.bind | apply Le.ite | intro _)

noncomputable def Zda (sequence : Int) : Option (List Int) :=
  ((QO (t2 (ZcZ sequence)) (([79, 66] : List Int), 24)) : Option (((List Int)))).bind (t1 fun (out : List Int) =>
  (((slp out 2 6).bind fun u =>
  QO (t2 (ZcR out)) (out, 0)) : Option (((List Int)))).bind (t1 fun (out3 : List Int) =>
  some out3))
theorem Zgb (sequence : Int) : Le (Zda sequence) (J9 sequence) := by
  unfold Zda J9
  with_reducible repeat' (first | exact Le.refl _ | apply Le.bind | apply Le.loop | apply Le.t1 | apply Le.t2 | apply Zht | apply ZhK | intro _)

noncomputable def X3 (s1 : List Int) (s2 : List Int) (i : Int) : Option ((Int) ⊕ (Bool) ⊕ (Unit)) :=
  if (decide (i < (s1.length : Int))) = true then
  (idx s1 i).bind fun x =>
  (idx s2 i).bind fun x2 =>
  if (!decide (x = x2)) = true then
  some (.inr (.inl false))
  else
  some (.inl (i64 (i + 1)))
  else
  some (.inr (.inr ()))
theorem ZdE (s1 : List Int) (s2 : List Int) (i : Int) : Le (X3 s1 s2 i) (QA s1 s2 i) := by
  unfold X3 QA
  with_reducible repeat' (first | exact Le.refl _ | apply Le.bind | apply Le.ite | intro _)

noncomputable def JJ (s1 : List Int) (s2 : List Int) : Option Bool :=
  if (!decide ((s1.length : Int) = (s2.length : Int))) = true then
  some false
  else
  ((QO (t1 (X3 s1 s2)) 0) : Option ((Bool) ⊕ (Unit))).bind (Sum.elim (fun q' => some q') (t0 (some true)))
theorem Zeu (s1 : List Int) (s2 : List Int) : Le (JJ s1 s2) (QB s1 s2) := by
  unfold JJ QB
  with_reducible repeat' (first | exact Le.refl _ | apply Le.bind | apply Le.ite | apply Le.loop | apply Le.t0 | apply Le.t1 | apply Le.elim | apply ZdE | intro _)

noncomputable def Za2 (s : List Int) : Option (Int × Bool × Bool) :=
  if (decide ((s.length : Int) < 16)) = true then
  some (0, false, false)
  else
  (slc s 0 16).bind fun l =>
  (tov 16 l).bind fun v =>
  (ZK v 2).bind fun x =>
  (shl .i64 (i64 x) 24).bind fun q =>
  (ZK v 3).bind fun x2 =>
  (shl .i64 (i64 x2) 16).bind fun q2 =>
  (ZK v 4).bind fun x3 =>
  (shl .i64 (i64 x3) 8).bind fun q3 =>
  (ZK v 5).bind fun x4 =>
  (QI (bor .i64 (bor .i64 (bor .i64 q q2) q3) (i64 x4)) 1 1073741824).bind fun y =>
  (gd ((!y) == false) [] (slc v.toList 0 10)).bind fun l2 =>
  (gd ((!y) == false) [] (Zda (bor .i64 (bor .i64 (bor .i64 q q2) q3) (i64 x4)))).bind fun y2 =>
  (gd ((!y) == false) false (JJ l2 y2)).bind fun y3 =>
  if ((!y) || (!y3)) = true then
  some (0, false, false)
  else
  (ZK v 10).bind fun x5 =>
  some ((bor .i64 (bor .i64 (bor .i64 q q2) q3) (i64 x4)), (!decide (x5 = 255)), true)
theorem Zcm (s : List Int) : Le (Za2 s) (JV s) := by
  unfold Za2 JV
  with_reducible repeat' (first | exact Le.refl _ | apply Le.bind | apply Le.ite | apply Le.gd | apply X7 | apply Zgb | apply Zeu | intro _)

noncomputable def Zcv (m : api_Memory) (out2 : List Int) (i : Int) : Option (((List Int) × Int) ⊕ ((List Int))) :=
  if (decide (i < (m.Sectors.length : Int))) = true then
  (idx m.Sectors i).bind fun x =>
  (Za2 x).bind fun y =>
  (gd (y.2.2 == true) false (idx m.Bad i)).bind fun x2 =>
  if (y.2.2 && (!x2)) = true then
  (apz 8 out2 ([i] : List Int)).bind fun l =>
  some (.inl (l, (i64 (i + 1))))
  else
  some (.inl (out2, (i64 (i + 1))))
  else
  some (.inr out2)
theorem Zhh (m : api_Memory) (out2 : List Int) (i : Int) : Le (Zcv m out2 i) (XW m out2 i) := by
  unfold Zcv XW
  with_reducible repeat' (first | exact Le.refl _ | apply Le.bind | apply Le.ite | apply Le.gd | apply Zcm | intro _)

noncomputable def QT (a : Int) (cmp : Int → Int → Option Int) (o3 : List Int) (j : Int) : Option (((List Int) × Int) ⊕ ((List Int))) :=
  (gd ((decide (a < j)) == true) 0 (idx o3 j)).bind fun x =>
  (gd ((decide (a < j)) == true) 0 (idx o3 (i64 (j - 1)))).bind fun x2 =>
  (gd ((decide (a < j)) == true) 0 (cmp x x2)).bind fun y =>
  if ((decide (a < j)) && (decide (y < 0))) = true then
  (idx o3 (i64 (j - 1))).bind fun x3 =>
  (idx o3 j).bind fun x4 =>
  (idx o3 j).bind fun x5 =>
  (idx (o3.set j.toNat x3) (i64 (j - 1))).bind fun x6 =>
  some (.inl (((o3.set j.toNat x3).set (i64 (j - 1)).toNat x4), (i64 (j - 1))))
  else
  some (.inr o3)
theorem Zbf (a : Int) (cmp : Int → Int → Option Int) (o3 : List Int) (j : Int) (cmp' : Int → Int → Option Int) (h_cmp : ∀ z0 z1, Le (cmp z0 z1) (cmp' z0 z1)) : Le (QT a cmp o3 j) (Zx a cmp' o3 j) := by
  unfold QT Zx
  with_reducible repeat' (first | exact Le.refl _ | apply Le.bind | apply Le.ite | apply Le.gd | apply h_cmp | intro _)

noncomputable def QV (a : Int) (b : Int) (cmp : Int → Int → Option Int) (o : List Int) (i : Int) : Option (((List Int) × Int) ⊕ ((List Int))) :=
  if (decide (i < b)) = true then
  ((QO (t2 (QT a cmp)) (o, i)) : Option (((List Int)))).bind (t1 fun (o2 : List Int) =>
  some (.inl (o2, (i64 (i + 1)))))
  else
  some (.inr o)
theorem Zbg (a : Int) (b : Int) (cmp : Int → Int → Option Int) (o : List Int) (i : Int) (cmp' : Int → Int → Option Int) (h_cmp : ∀ z0 z1, Le (cmp z0 z1) (cmp' z0 z1)) : Le (QV a b cmp o i) (Zu a b cmp' o i) := by
  unfold QV Zu
  with_reducible repeat' (first | exact Le.refl _ | apply Le.bind | apply Le.ite | apply Le.loop | apply Le.t1 | apply Le.t2 | apply Zbf | apply h_cmp | intro _)

noncomputable def QH (data : List Int) (a : Int) (b : Int) (cmp : Int → Int → Option Int) : Option (List Int) :=
  QO (t2 (QV a b cmp)) (data, (i64 (a + 1)))
theorem X9 (data : List Int) (a : Int) (b : Int) (cmp : Int → Int → Option Int) (cmp' : Int → Int → Option Int) (h_cmp : ∀ z0 z1, Le (cmp z0 z1) (cmp' z0 z1)) : Le (QH data a b cmp) (Zy data a b cmp') := by
  unfold QH Zy
  with_reducible repeat' (first | exact Le.refl _ | apply Le.bind | apply Le.loop | apply Le.t2 | apply Zbg | apply h_cmp | intro _)

noncomputable def XL (n : Int) (cmp : Int → Int → Option Int) (o2 : List Int) (a2 : Int) (b : Int) : Option (((List Int) × Int × Int) ⊕ ((List Int) × Int)) :=
  if (decide (b ≤ n)) = true then
  (QH o2 a2 b cmp).bind fun y =>
  some (.inl (y, b, (i64 (b + 20))))
  else
  some (.inr (o2, a2))
theorem ZcO (n : Int) (cmp : Int → Int → Option Int) (o2 : List Int) (a2 : Int) (b : Int) (cmp' : Int → Int → Option Int) (h_cmp : ∀ z0 z1, Le (cmp z0 z1) (cmp' z0 z1)) : Le (XL n cmp o2 a2 b) (ZI n cmp' o2 a2 b) := by
  unfold XL ZI
  with_reducible repeat' (first | exact Le.refl _ | apply Le.bind | apply Le.ite | apply X9 | apply h_cmp | intro _)

noncomputable def XP (n_ : Nat) : List Int → Int → Int → Int → (Int → Int → Option Int) → Option (List Int) := fun _ _ _ _ _ => none
theorem J6 (n_ : Nat) {z0 : List Int} {z1 : Int} {z2 : Int} {z3 : Int} {z4 : (Int → Int → Option Int)} {z4' : (Int → Int → Option Int)} : Le (XP n_ z0 z1 z2 z3 z4) (ZE n_ z0 z1 z2 z3 z4') := fun r h => by cases h

noncomputable def XF (n : Int) (cmp : Int → Int → Option Int) (blockSize : Int) (o5 : List Int) (a4 : Int) (b2 : Int) : Option (((List Int) × Int × Int) ⊕ ((List Int) × Int)) :=
  if (decide (b2 ≤ n)) = true then
  (XP 100 o5 a4 (i64 (a4 + blockSize)) b2 cmp).bind fun y3 =>
  some (.inl (y3, b2, (i64 (b2 + (i64 (2 * blockSize))))))
  else
  some (.inr (o5, a4))
theorem ZcQ (n : Int) (cmp : Int → Int → Option Int) (blockSize : Int) (o5 : List Int) (a4 : Int) (b2 : Int) (cmp' : Int → Int → Option Int) (h_cmp : ∀ z0 z1, Le (cmp z0 z1) (cmp' z0 z1)) : Le (XF n cmp blockSize o5 a4 b2) (ZB n cmp' blockSize o5 a4 b2) := by
  unfold XF ZB
  with_reducible repeat' (first | exact Le.refl _ | apply Le.bind | apply Le.ite | apply J6 | apply h_cmp | intro _)

noncomputable def XG (n : Int) (cmp : Int → Int → Option Int) (o3 : List Int) (blockSize : Int) : Option (((List Int) × Int) ⊕ ((List Int))) :=
  if (decide (blockSize < n)) = true then
  ((QO (t3 (XF n cmp blockSize)) (o3, 0, (i64 (2 * blockSize)))) : Option (((List Int) × Int))).bind (t2 fun (o4 : List Int) (a3 : Int) =>
  if (decide ((i64 (a3 + blockSize)) < n)) = true then
  (XP 100 o4 a3 (i64 (a3 + blockSize)) n cmp).bind fun y4 =>
  some (.inl (y4, (i64 (blockSize * 2))))
  else
  some (.inl (o4, (i64 (blockSize * 2)))))
  else
  some (.inr o3)
theorem ZcF (n : Int) (cmp : Int → Int → Option Int) (o3 : List Int) (blockSize : Int) (cmp' : Int → Int → Option Int) (h_cmp : ∀ z0 z1, Le (cmp z0 z1) (cmp' z0 z1)) : Le (XG n cmp o3 blockSize) (ZC n cmp' o3 blockSize) := by
  unfold XG ZC
  with_reducible repeat' (first | exact Le.refl _ | apply Le.bind | apply Le.ite | apply Le.loop | apply Le.t2 | apply Le.t3 | apply ZcQ | apply J6 | apply h_cmp | intro _)

noncomputable def Je (data : List Int) (n : Int) (cmp : Int → Int → Option Int) : Option (List Int) :=
  ((QO (t3 (XL n cmp)) (data, 0, 20)) : Option (((List Int) × Int))).bind (t2 fun (o : List Int) (a : Int) =>
  (QH o a n cmp).bind fun y2 =>
  QO (t2 (XG n cmp)) (y2, 20))
theorem ZdU (data : List Int) (n : Int) (cmp : Int → Int → Option Int) (cmp' : Int → Int → Option Int) (h_cmp : ∀ z0 z1, Le (cmp z0 z1) (cmp' z0 z1)) : Le (Je data n cmp) (Z8 data n cmp') := by
  unfold Je Z8
  with_reducible repeat' (first | exact Le.refl _ | apply Le.bind | apply Le.loop | apply Le.t2 | apply Le.t3 | apply ZcO | apply X9 | apply ZcF | apply h_cmp | intro _)

noncomputable def Xl (x : List Int) (cmp : Int → Int → Option Int) : Option (List Int) :=
  (Je x (x.length : Int) cmp).bind fun y =>
  some y
theorem Zb8 (x : List Int) (cmp : Int → Int → Option Int) (cmp' : Int → Int → Option Int) (h_cmp : ∀ z0 z1, Le (cmp z0 z1) (cmp' z0 z1)) : Le (Xl x cmp) (ZN x cmp') := by
  unfold Xl ZN
  with_reducible repeat' (first | exact Le.refl _ | apply Le.bind | apply ZdU | apply h_cmp | intro _)

noncomputable def Za9 (i : Int) (c0 : api_Memory) : Option Int :=
  (idx c0.Sectors i).bind fun x =>
  (Za2 x).bind fun y =>
  some y.1
theorem ZhD (i : Int) (c0 : api_Memory) : Le (Za9 i c0) (XD i c0) := by
  unfold Za9 XD
  with_reducible repeat' (first | exact Le.refl _ | apply Le.bind | apply Zcm | intro _)

noncomputable def Zc3 (a : Int) (b : Int) (k : api_Memory) : Option Int :=
  (Za9 a k).bind fun y =>
  (Za9 b k).bind fun y2 =>
  some (i64 (y - y2))
theorem ZhV (a : Int) (b : Int) (k : api_Memory) : Le (Zc3 a b k) (XH a b k) := by
  unfold Zc3 XH
  with_reducible repeat' (first | exact Le.refl _ | apply Le.bind | apply ZhD | intro _)

noncomputable def Zcj (m : api_Memory) : Option (List Int) :=
  ((QO (t2 (Zcv m)) ([], 0)) : Option (((List Int)))).bind (t1 fun (out : List Int) =>
  (Xl out (fun z0 z1 => Zc3 z0 z1 m)).bind fun y2 =>
  some y2)
theorem ZfH (m : api_Memory) : Le (Zcj m) (Xb m) := by
  unfold Zcj Xb
  with_reducible repeat' (first | exact Le.refl _ | apply Le.bind | apply Le.loop | apply Le.t1 | apply Le.t2 | apply Zhh | apply Zb8 | apply ZhV | intro _)

noncomputable def Zc8 (s : List Int) (i : Int) : Option (Vector Int 97) :=
  (slc s (i64 (16 + (i64 (i * 97)))) (i64 ((i64 (16 + (i64 (i * 97)))) + 97))).bind fun l =>
  (tov 97 l).bind fun v =>
  some v
theorem Zf5 (s : List Int) (i : Int) : Le (Zc8 s i) (Jy s i) := by
  unfold Zc8 Jy
  with_reducible repeat' (first | exact Le.refl _ | apply Le.bind | intro _)

noncomputable def Xj (s : List Int) (f : Int → Option Bool) (i : Int) : Option ((Int) ⊕ (Int) ⊕ (Unit)) :=
  if (decide (i < (s.length : Int))) = true then
  (idx s i).bind fun x =>
  (f x).bind fun y =>
  if y = true then
  some (.inr (.inl i))
  else
  some (.inl (i64 (i + 1)))
  else
  some (.inr (.inr ()))
theorem Zcw (s : List Int) (f : Int → Option Bool) (i : Int) (f' : Int → Option Bool) (h_f : ∀ z0, Le (f z0) (f' z0)) : Le (Xj s f i) (Z0 s f' i) := by
  unfold Xj Z0
  with_reducible repeat' (first | exact Le.refl _ | apply Le.bind | apply Le.ite | apply h_f | intro _)

noncomputable def XT (s : List Int) (f : Int → Option Bool) : Option Int :=
  ((QO (t1 (Xj s f)) 0) : Option ((Int) ⊕ (Unit))).bind (Sum.elim (fun q' => some q') (t0 (some (-1))))
theorem Zdg (s : List Int) (f : Int → Option Bool) (f' : Int → Option Bool) (h_f : ∀ z0, Le (f z0) (f' z0)) : Le (XT s f) (Qs s f') := by
  unfold XT Qs
  with_reducible repeat' (first | exact Le.refl _ | apply Le.bind | apply Le.loop | apply Le.t0 | apply Le.t1 | apply Le.elim | apply Zcw | apply h_f | intro _)

noncomputable def Xi (s : List Int) (f : Int → Option Bool) : Option Bool :=
  (XT s f).bind fun y =>
  some (decide (0 ≤ y))
theorem Zci (s : List Int) (f : Int → Option Bool) (f' : Int → Option Bool) (h_f : ∀ z0, Le (f z0) (f' z0)) : Le (Xi s f) (ZZ s f') := by
  unfold Xi ZZ
  with_reducible repeat' (first | exact Le.refl _ | apply Le.bind | apply Zdg | apply h_f | intro _)

noncomputable def ZcI (b : Int) : Option Bool :=
  some (!decide (b = 255))
theorem ZhN (b : Int) : Le (ZcI b) (XJ b) := by
  unfold ZcI XJ
  with_reducible repeat' (first | exact Le.refl _ | apply Le.bind | intro _)

noncomputable def Zcg (p : Vector Int 97) : Option Int :=
  (ZK p 96).bind fun x =>
  if (decide (x = 0)) = true then
  some 1
  else
  (slc p.toList 0 (97 : Int)).bind fun l =>
  (Xi l (fun z0 => ZcI z0)).bind fun y =>
  if y = true then
  some 2
  else
  some 0
theorem ZfB (p : Vector Int 97) : Le (Zcg p) (Jw p) := by
  unfold Zcg Jw
  with_reducible repeat' (first | exact Le.refl _ | apply Le.bind | apply Le.ite | apply Zci | apply ZhN | intro _)

noncomputable def ZbW (m : api_Memory) (x : Int) (slot2 : Int) (i : Int) : Option ((Int × Int) ⊕ (Int)) :=
  if (decide (i < m.Slots)) = true then
  (idx m.Sectors x).bind fun x2 =>
  (Zc8 x2 i).bind fun y2 =>
  (Zcg y2).bind fun y3 =>
  if (!decide (y3 = 0)) = true then
  some (.inl ((i64 (i + 1)), (i64 (i + 1))))
  else
  some (.inl (slot2, (i64 (i + 1))))
  else
  some (.inr slot2)
theorem ZgC (m : api_Memory) (x : Int) (slot2 : Int) (i : Int) : Le (ZbW m x slot2 i) (Zbb m x slot2 i) := by
  unfold ZbW Zbb
  with_reducible repeat' (first | exact Le.refl _ | apply Le.bind | apply Le.ite | apply Zf5 | apply ZfB | intro _)

noncomputable def Zdy (m : api_Memory) : Option ring_spot :=
  (Zcj m).bind fun y =>
  if (decide ((y.length : Int) = 0)) = true then
  some (ring_spot.mk (-1) 0)
  else
  (idx y (i64 ((y.length : Int) - 1))).bind fun x =>
  ((QO (t2 (ZbW m x)) (0, 0)) : Option ((Int))).bind (t1 fun (slot : Int) =>
  some (ring_spot.mk x slot))
theorem Zh9 (m : api_Memory) : Le (Zdy m) (Zbs m) := by
  unfold Zdy Zbs
  with_reducible repeat' (first | exact Le.refl _ | apply Le.bind | apply Le.ite | apply Le.loop | apply Le.t1 | apply Le.t2 | apply ZfH | apply ZgC | intro _)

noncomputable def ZdA (y3 : (List api_Memory)) (spots2 : List ring_spot) (frozen2 : Bool) (i : Int) : Option (((List ring_spot) × Bool × Int) ⊕ ((List ring_spot) × Bool)) :=
  if (decide (i < (y3.length : Int))) = true then
  (idx y3 i).bind fun x =>
  (Zdy x).bind fun y4 =>
  (apz 16 spots2 ([y4] : List ring_spot)).bind fun l2 =>
  if (decide (0 ≤ y4.sector)) = true then
  (idx x.Sectors y4.sector).bind fun x2 =>
  (Za2 x2).bind fun y5 =>
  some (.inl (l2, (frozen2 || y5.2.1), (i64 (i + 1))))
  else
  some (.inl (l2, frozen2, (i64 (i + 1))))
  else
  some (.inr (spots2, frozen2))
theorem Zim (y3 : (List api_Memory)) (spots2 : List ring_spot) (frozen2 : Bool) (i : Int) : Le (ZdA y3 spots2 frozen2 i) (Zdc y3 spots2 frozen2 i) := by
  unfold ZdA Zdc
  with_reducible repeat' (first | exact Le.refl _ | apply Le.bind | apply Le.ite | apply Zh9 | apply Zcm | intro _)

noncomputable def Zfq (l : List api_Memory) (copies : Int) : Option ((Int) ⊕ (ring_Recorder × Int)) :=
  (ZbE l).bind fun y =>
  if (!decide (y = 0)) = true then
  some (Sum.inl y)
  else
  (QI copies 1 (l.length : Int)).bind fun y2 =>
  if (!y2) = true then
  some (Sum.inl 9)
  else
  (Zb5 l).bind fun y3 =>
  ((QO (t3 (ZdA y3)) ([], false, 0)) : Option (((List ring_spot) × Bool))).bind (t2 fun (spots : List ring_spot) (frozen : Bool) =>
  some (Sum.inr ((ring_Recorder.mk (ring_bank.mk y3 spots) copies frozen false 0 false), 0)))
theorem ZjY (l : List api_Memory) (copies : Int) : Le (Zfq l copies) (ZbN l copies) := by
  unfold Zfq ZbN
  with_reducible repeat' (first | exact Le.refl _ | apply Le.bind | apply Le.ite | apply Le.loop | apply Le.t2 | apply Le.t3 | apply Le.elim | apply ZeZ | apply X7 | apply ZfD | apply Zim | intro _)

noncomputable def Za5 (r_ : ring_Recorder) (power : Int) : Option Int :=
  if r_.stopped = true then
  some 15
  else
  if r_.frozen = true then
  some 11
  else
  (QI power 0 1000000000).bind fun y =>
  if (!y) = true then
  some 9
  else
  some 0
theorem ZfT (r_ : ring_Recorder) (power : Int) : Le (Za5 r_ power) (Jg r_ power) := by
  unfold Za5 Jg
  with_reducible repeat' (first | exact Le.refl _ | apply Le.bind | apply Le.ite | apply X7 | intro _)

noncomputable def ZcK (f : Vector Int 64) (out2 : List api_Flaw) (i : Int) : Option (((List api_Flaw) × Int) ⊕ ((List api_Flaw))) :=
  if (decide (i < 64)) = true then
  (ZK f i).bind fun x =>
  if (decide (4095 < x)) = true then
  (app out2 ([(api_Flaw.mk i 5)] : List api_Flaw)).bind fun l =>
  some (.inl (l, (i64 (i + 1))))
  else
  some (.inl (out2, (i64 (i + 1))))
  else
  some (.inr out2)
theorem Zhs (f : Vector Int 64) (out2 : List api_Flaw) (i : Int) : Le (ZcK f out2 i) (X6 f out2 i) := by
  unfold ZcK X6
  with_reducible repeat' (first | exact Le.refl _ | apply Le.bind | apply Le.ite | intro _)

noncomputable def JC (w : Int) : Option Int :=
  some (i64 (Q1 .u16 w 2047))
theorem ZeG (w : Int) : Le (JC w) (XU w) := by
  unfold JC XU
  with_reducible repeat' (first | exact Le.refl _ | apply Le.bind | intro _)

noncomputable def Zba (f : Vector Int 64) : Option Int :=
  (ZK f 1).bind fun x =>
  (JC x).bind fun y =>
  (ZK f 2).bind fun x2 =>
  (JC x2).bind fun y2 =>
  (shl .i64 y2 11).bind fun q =>
  some (bor .i64 y q)
theorem ZeA (f : Vector Int 64) : Le (Zba f) (XE f) := by
  unfold Zba XE
  with_reducible repeat' (first | exact Le.refl _ | apply Le.bind | apply ZeG | intro _)

noncomputable def ZbV (x : Int) : Option Int :=
  (shr .u16 x 8).bind fun q =>
  (Zmp [0, 1, 1, 2, 1, 2, 2, 3, 1, 2, 2, 3, 2, 3, 3, 4, 1, 2, 2, 3, 2, 3, 3, 4, 2, 3, 3, 4, 3, 4, 4, 5, 1, 2, 2, 3, 2, 3, 3, 4, 2, 3, 3, 4, 3, 4, 4, 5, 2, 3, 3, 4, 3, 4, 4, 5, 3, 4, 4, 5, 4, 5, 5, 6, 1, 2, 2, 3, 2, 3, 3, 4, 2, 3, 3, 4, 3, 4, 4, 5, 2, 3, 3, 4, 3, 4, 4, 5, 3, 4, 4, 5, 4, 5, 5, 6, 2, 3, 3, 4, 3, 4, 4, 5, 3, 4, 4, 5, 4, 5, 5, 6, 3, 4, 4, 5, 4, 5, 5, 6, 4, 5, 5, 6, 5, 6, 6, 7, 1, 2, 2, 3, 2, 3, 3, 4, 2, 3, 3, 4, 3, 4, 4, 5, 2, 3, 3, 4, 3, 4, 4, 5, 3, 4, 4, 5, 4, 5, 5, 6, 2, 3, 3, 4, 3, 4, 4, 5, 3, 4, 4, 5, 4, 5, 5, 6, 3, 4, 4, 5, 4, 5, 5, 6, 4, 5, 5, 6, 5, 6, 6, 7, 2, 3, 3, 4, 3, 4, 4, 5, 3, 4, 4, 5, 4, 5, 5, 6, 3, 4, 4, 5, 4, 5, 5, 6, 4, 5, 5, 6, 5, 6, 6, 7, 3, 4, 4, 5, 4, 5, 5, 6, 4, 5, 5, 6, 5, 6, 6, 7, 4, 5, 5, 6, 5, 6, 6, 7, 5, 6, 6, 7, 6, 7, 7, 8] q).bind fun b =>
  (Zmp [0, 1, 1, 2, 1, 2, 2, 3, 1, 2, 2, 3, 2, 3, 3, 4, 1, 2, 2, 3, 2, 3, 3, 4, 2, 3, 3, 4, 3, 4, 4, 5, 1, 2, 2, 3, 2, 3, 3, 4, 2, 3, 3, 4, 3, 4, 4, 5, 2, 3, 3, 4, 3, 4, 4, 5, 3, 4, 4, 5, 4, 5, 5, 6, 1, 2, 2, 3, 2, 3, 3, 4, 2, 3, 3, 4, 3, 4, 4, 5, 2, 3, 3, 4, 3, 4, 4, 5, 3, 4, 4, 5, 4, 5, 5, 6, 2, 3, 3, 4, 3, 4, 4, 5, 3, 4, 4, 5, 4, 5, 5, 6, 3, 4, 4, 5, 4, 5, 5, 6, 4, 5, 5, 6, 5, 6, 6, 7, 1, 2, 2, 3, 2, 3, 3, 4, 2, 3, 3, 4, 3, 4, 4, 5, 2, 3, 3, 4, 3, 4, 4, 5, 3, 4, 4, 5, 4, 5, 5, 6, 2, 3, 3, 4, 3, 4, 4, 5, 3, 4, 4, 5, 4, 5, 5, 6, 3, 4, 4, 5, 4, 5, 5, 6, 4, 5, 5, 6, 5, 6, 6, 7, 2, 3, 3, 4, 3, 4, 4, 5, 3, 4, 4, 5, 4, 5, 5, 6, 3, 4, 4, 5, 4, 5, 5, 6, 4, 5, 5, 6, 5, 6, 6, 7, 3, 4, 4, 5, 4, 5, 5, 6, 4, 5, 5, 6, 5, 6, 6, 7, 4, 5, 5, 6, 5, 6, 6, 7, 5, 6, 6, 7, 6, 7, 7, 8] (Q1 .u16 x 255)).bind fun b2 =>
  some (i64 (u8 (b + b2)))
theorem ZgK (x : Int) : Le (ZbV x) (JW x) := by
  unfold ZbV JW
  with_reducible repeat' (first | exact Le.refl _ | apply Le.bind | intro _)

noncomputable def Zdu (w : Int) : Option Bool :=
  (gd ((decide (w ≤ 4095)) == true) 0 (ZbV w)).bind fun y =>
  (gd ((decide (w ≤ 4095)) == true) 0 (rem y 2)).bind fun q =>
  some ((decide (w ≤ 4095)) && (decide (q = 1)))
theorem Zh0 (w : Int) : Le (Zdu w) (Zbc w) := by
  unfold Zdu Zbc
  with_reducible repeat' (first | exact Le.refl _ | apply Le.bind | apply Le.gd | apply ZgK | intro _)

noncomputable def ZcT (f : Vector Int 64) (out5 : List api_Flaw) (i2 : Int) : Option (((List api_Flaw) × Int) ⊕ ((List api_Flaw))) :=
  if (decide (i2 < 64)) = true then
  (ZK f i2).bind fun x4 =>
  (Zdu x4).bind fun y2 =>
  if (!y2) = true then
  (app out5 ([(api_Flaw.mk i2 2)] : List api_Flaw)).bind fun l3 =>
  some (.inl (l3, (i64 (i2 + 1))))
  else
  some (.inl (out5, (i64 (i2 + 1))))
  else
  some (.inr out5)
theorem Zhx (f : Vector Int 64) (out5 : List api_Flaw) (i2 : Int) : Le (ZcT f out5 i2) (Ja f out5 i2) := by
  unfold ZcT Ja
  with_reducible repeat' (first | exact Le.refl _ | apply Le.bind | apply Le.ite | apply Zh0 | intro _)

noncomputable def ZcS (f : Vector Int 64) (n2 : Int) (i : Int) : Option ((Int × Int) ⊕ (Int)) :=
  if (decide (i < 60)) = true then
  (ZK f (i64 (i + 1))).bind fun x =>
  (JC x).bind fun y =>
  some (.inl ((ZaL .i64 n2 y), (i64 (i + 1))))
  else
  some (.inr n2)
theorem Zho (f : Vector Int 64) (n2 : Int) (i : Int) : Le (ZcS f n2 i) (X8 f n2 i) := by
  unfold ZcS X8
  with_reducible repeat' (first | exact Le.refl _ | apply Le.bind | apply Le.ite | apply ZeG | intro _)

noncomputable def ZeN (f : Vector Int 64) : Option Int :=
  ((QO (t2 (ZcS f)) (0, 0)) : Option ((Int))).bind (t1 fun (n : Int) =>
  some n)
theorem ZjE (f : Vector Int 64) : Le (ZeN f) (ZaW f) := by
  unfold ZeN ZaW
  with_reducible repeat' (first | exact Le.refl _ | apply Le.bind | apply Le.loop | apply Le.t1 | apply Le.t2 | apply Zho | intro _)

noncomputable def ZbU (f : Vector Int 64) (i : Int) (n4 : Int) (k : Int) : Option ((Int × Int) ⊕ (Int)) :=
  if (decide (0 ≤ k)) = true then
  (shl .i64 n4 1).bind fun q =>
  (ZK f i).bind fun x =>
  (shr .u16 x k).bind fun q2 =>
  if (!((!decide ((Q1 .i64 n4 2097152) = 0)) == (decide ((Q1 .u16 q2 1) = 1)))) = true then
  some (.inl ((ZaL .i64 (Q1 .i64 q 4194303) 2097167), (i64 (k - 1))))
  else
  some (.inl ((Q1 .i64 q 4194303), (i64 (k - 1))))
  else
  some (.inr n4)
theorem ZgP (f : Vector Int 64) (i : Int) (n4 : Int) (k : Int) : Le (ZbU f i n4 k) (Q5 f i n4 k) := by
  unfold ZbU Q5
  with_reducible repeat' (first | exact Le.refl _ | apply Le.bind | apply Le.ite | intro _)

noncomputable def ZbT (f : Vector Int 64) (n2 : Int) (i : Int) : Option ((Int × Int) ⊕ (Int)) :=
  if (decide (i < 62)) = true then
  ((QO (t2 (ZbU f i)) (n2, 11)) : Option ((Int))).bind (t1 fun (n3 : Int) =>
  some (.inl (n3, (i64 (i + 1)))))
  else
  some (.inr n2)
theorem ZgA (f : Vector Int 64) (n2 : Int) (i : Int) : Le (ZbT f n2 i) (Xv f n2 i) := by
  unfold ZbT Xv
  with_reducible repeat' (first | exact Le.refl _ | apply Le.bind | apply Le.ite | apply Le.loop | apply Le.t1 | apply Le.t2 | apply ZgP | intro _)

noncomputable def ZdI (f : Vector Int 64) : Option Int :=
  ((QO (t2 (ZbT f)) (0, 0)) : Option ((Int))).bind (t1 fun (n : Int) =>
  some n)
theorem Zh6 (f : Vector Int 64) : Le (ZdI f) (JH f) := by
  unfold ZdI JH
  with_reducible repeat' (first | exact Le.refl _ | apply Le.bind | apply Le.loop | apply Le.t1 | apply Le.t2 | apply ZgA | intro _)

noncomputable def Zdb (f : Vector Int 64) : Option (List api_Flaw) :=
  ((QO (t2 (ZcK f)) ([], 0)) : Option (((List api_Flaw)))).bind (t1 fun (out : List api_Flaw) =>
  if (decide (0 < (out.length : Int))) = true then
  some out
  else
  (((ZK f 0).bind fun x2 =>
  (Zba f).bind fun y =>
  (rem y 4).bind fun q =>
  (ZK gv_frame_syncs q).bind fun x3 =>
  if (!decide (x2 = x3)) = true then
  (app out ([(api_Flaw.mk 0 1)] : List api_Flaw)).bind fun l2 =>
  some l2
  else
  some out) : Option (((List api_Flaw)))).bind (t1 fun (out3 : List api_Flaw) =>
  ((QO (t2 (ZcT f)) (out3, 1)) : Option (((List api_Flaw)))).bind (t1 fun (out4 : List api_Flaw) =>
  (((ZK f 61).bind fun x5 =>
  (JC x5).bind fun y3 =>
  (ZeN f).bind fun y4 =>
  if (!decide (y3 = y4)) = true then
  (app out4 ([(api_Flaw.mk 61 3)] : List api_Flaw)).bind fun l4 =>
  some l4
  else
  some out4) : Option (((List api_Flaw)))).bind (t1 fun (out6 : List api_Flaw) =>
  (ZK f 62).bind fun x6 =>
  (JC x6).bind fun y5 =>
  (shl .i64 y5 11).bind fun q2 =>
  (ZK f 63).bind fun x7 =>
  (JC x7).bind fun y6 =>
  (ZdI f).bind fun y7 =>
  if (!decide ((bor .i64 q2 y6) = y7)) = true then
  (app out6 ([(api_Flaw.mk 62 4)] : List api_Flaw)).bind fun l5 =>
  some l5
  else
  some out6))))
theorem ZfU (f : Vector Int 64) : Le (Zdb f) (J4 f) := by
  unfold Zdb J4
  with_reducible repeat' (first | exact Le.refl _ | apply Le.bind | apply Le.ite | apply Le.loop | apply Le.t1 | apply Le.t2 | apply Zhs | apply ZeA | apply Zhx | apply ZeG | apply ZjE | apply Zh6 | intro _)

noncomputable def Zcn (f : Vector Int 64) : Option (Int × Bool) :=
  (ZK f 1).bind fun x =>
  (Zdu x).bind fun y =>
  (gd ((!y) == false) 0 (ZK f 2)).bind fun x2 =>
  (gd ((!y) == false) false (Zdu x2)).bind fun y2 =>
  if ((!y) || (!y2)) = true then
  some (0, false)
  else
  (Zba f).bind fun y3 =>
  some (y3, true)
theorem ZfG (f : Vector Int 64) : Le (Zcn f) (XZ f) := by
  unfold Zcn XZ
  with_reducible repeat' (first | exact Le.refl _ | apply Le.bind | apply Le.ite | apply Le.gd | apply Zh0 | apply ZeA | intro _)

noncomputable def Zch (number : Int) (memories : Int) (copies : Int) (out2 : List Int) (i : Int) : Option (((List Int) × Int) ⊕ ((List Int))) :=
  if (decide (i < copies)) = true then
  (rem (i64 (number + i)) memories).bind fun q =>
  (apz 8 out2 ([q] : List Int)).bind fun l =>
  some (.inl (l, (i64 (i + 1))))
  else
  some (.inr out2)
theorem Zhj (number : Int) (memories : Int) (copies : Int) (out2 : List Int) (i : Int) : Le (Zch number memories copies out2 i) (ZbI number memories copies out2 i) := by
  unfold Zch ZbI
  with_reducible repeat' (first | exact Le.refl _ | apply Le.bind | apply Le.ite | intro _)

noncomputable def Zd6 (number : Int) (memories : Int) (copies : Int) : Option (List Int) :=
  ((QO (t2 (Zch number memories copies)) ([], 0)) : Option (((List Int)))).bind (t1 fun (out : List Int) =>
  some out)
theorem ZiR (number : Int) (memories : Int) (copies : Int) : Le (Zd6 number memories copies) (Zce number memories copies) := by
  unfold Zd6 Zce
  with_reducible repeat' (first | exact Le.refl _ | apply Le.bind | apply Le.loop | apply Le.t1 | apply Le.t2 | apply Zhj | intro _)

noncomputable def Jf (b : ring_bank) (k : Int) : Option Bool :=
  (idx b.spots k).bind fun x =>
  (gd ((decide (x.sector < 0)) == false) (ring_spot.mk 0 0) (idx b.spots k)).bind fun x2 =>
  (gd ((decide (x.sector < 0)) == false) (api_Memory.mk 0 0 [] [] []) (idx b.memories k)).bind fun x3 =>
  some ((decide (x.sector < 0)) || (decide (x2.slot = x3.Slots)))
theorem Zbm (b : ring_bank) (k : Int) : Le (Jf b k) (Xr b k) := by
  unfold Jf Xr
  with_reducible repeat' (first | exact Le.refl _ | apply Le.bind | apply Le.gd | intro _)

noncomputable def Zbk (b : ring_bank) (k : Int) (x : api_Memory) (i : Int) : Option ((Int) ⊕ (Int) ⊕ (Unit)) :=
  if (decide (i < (x.Sectors.length : Int))) = true then
  (idx b.spots k).bind fun x2 =>
  (rem (i64 ((i64 (x2.sector + 1)) + i)) (x.Sectors.length : Int)).bind fun q =>
  (idx x.Bad q).bind fun x3 =>
  (gd ((!x3) == true) 0 (idx x.Wear q)).bind fun x4 =>
  if ((!x3) && (decide (x4 < x.Limit))) = true then
  some (.inr (.inl q))
  else
  some (.inl (i64 (i + 1)))
  else
  some (.inr (.inr ()))
theorem Zgg (b : ring_bank) (k : Int) (x : api_Memory) (i : Int) : Le (Zbk b k x i) (ZaI b k x i) := by
  unfold Zbk ZaI
  with_reducible repeat' (first | exact Le.refl _ | apply Le.bind | apply Le.ite | apply Le.gd | intro _)

noncomputable def JU (b : ring_bank) (k : Int) : Option Int :=
  (idx b.memories k).bind fun x =>
  ((QO (t1 (Zbk b k x)) 0) : Option ((Int) ⊕ (Unit))).bind (Sum.elim (fun q' => some q') (t0 (some (-1))))
theorem Zcu (b : ring_bank) (k : Int) : Le (JU b k) (Jd b k) := by
  unfold JU Jd
  with_reducible repeat' (first | exact Le.refl _ | apply Le.bind | apply Le.loop | apply Le.t0 | apply Le.t1 | apply Le.elim | apply Zgg | intro _)

noncomputable def ZaO (b : ring_bank) (l : List Int) (i : Int) : Option ((Int) ⊕ (Int) ⊕ (Unit)) :=
  if (decide (i < (l.length : Int))) = true then
  (idx l i).bind fun x =>
  (Jf b x).bind fun y =>
  (gd (y == true) 0 (JU b x)).bind fun y2 =>
  if (y && (decide (y2 < 0))) = true then
  some (.inr (.inl 4))
  else
  some (.inl (i64 (i + 1)))
  else
  some (.inr (.inr ()))
theorem ZfO (b : ring_bank) (l : List Int) (i : Int) : Le (ZaO b l i) (Zaj b l i) := by
  unfold ZaO Zaj
  with_reducible repeat' (first | exact Le.refl _ | apply Le.bind | apply Le.ite | apply Le.gd | apply Zbm | apply Zcu | intro _)

noncomputable def JT (sector : Int) (x : api_Memory) (most2 : Int) (i : Int) : Option ((Int × Int) ⊕ (Int)) :=
  if (decide (i < (x.Sectors.length : Int))) = true then
  (idx x.Sectors i).bind fun x2 =>
  (Za2 x2).bind fun y =>
  if (y.2.2 && (!decide (i = sector))) = true then
  some (.inl ((max most2 y.1), (i64 (i + 1))))
  else
  some (.inl (most2, (i64 (i + 1))))
  else
  some (.inr most2)
theorem ZeF (sector : Int) (x : api_Memory) (most2 : Int) (i : Int) : Le (JT sector x most2 i) (Jl sector x most2 i) := by
  unfold JT Jl
  with_reducible repeat' (first | exact Le.refl _ | apply Le.bind | apply Le.ite | apply Zcm | intro _)

noncomputable def JB (b : ring_bank) (k : Int) (sector : Int) : Option Int :=
  (((idx b.memories k).bind fun x =>
  QO (t2 (JT sector x)) (0, 0)) : Option ((Int))).bind (t1 fun (most : Int) =>
  some (i64 (most + 1)))
theorem ZcD (b : ring_bank) (k : Int) (sector : Int) : Le (JB b k sector) (Xp b k sector) := by
  unfold JB Xp
  with_reducible repeat' (first | exact Le.refl _ | apply Le.bind | apply Le.loop | apply Le.t1 | apply Le.t2 | apply ZeF | intro _)

noncomputable def ZaQ (b : ring_bank) (l : List Int) (i2 : Int) : Option ((Int) ⊕ (Int) ⊕ (Unit)) :=
  if (decide (i2 < (l.length : Int))) = true then
  (idx l i2).bind fun x2 =>
  (Jf b x2).bind fun y3 =>
  (gd (y3 == true) 0 (JU b x2)).bind fun y4 =>
  (gd (y3 == true) 0 (JB b x2 y4)).bind fun y5 =>
  if (y3 && (decide (1073741824 < y5))) = true then
  some (.inr (.inl 3))
  else
  some (.inl (i64 (i2 + 1)))
  else
  some (.inr (.inr ()))
theorem ZfP (b : ring_bank) (l : List Int) (i2 : Int) : Le (ZaQ b l i2) (Zab b l i2) := by
  unfold ZaQ Zab
  with_reducible repeat' (first | exact Le.refl _ | apply Le.bind | apply Le.ite | apply Le.gd | apply Zbm | apply Zcu | apply ZcD | intro _)

noncomputable def Zb7 (b : ring_bank) (l : List Int) : Option Int :=
  ((QO (t1 (ZaO b l)) 0) : Option ((Int) ⊕ (Unit))).bind (Sum.elim (fun q' => some q') (t0 (((QO (t1 (ZaQ b l)) 0) : Option ((Int) ⊕ (Unit))).bind (Sum.elim (fun q' => some q') (t0 (some 0))))))
theorem Zhi (b : ring_bank) (l : List Int) : Le (Zb7 b l) (Zaq b l) := by
  unfold Zb7 Zaq
  with_reducible repeat' (first | exact Le.refl _ | apply Le.bind | apply Le.loop | apply Le.t0 | apply Le.t1 | apply Le.elim | apply ZfO | apply ZfP | intro _)

noncomputable def ZdH (f : Vector Int 64) (i : Int) : Option ((Int) ⊕ (Bool) ⊕ (Unit)) :=
  if (decide (i < 64)) = true then
  (ZK f i).bind fun x =>
  if (decide (4095 < x)) = true then
  some (.inr (.inl true))
  else
  some (.inl (i64 (i + 1)))
  else
  some (.inr (.inr ()))
theorem Zii (f : Vector Int 64) (i : Int) : Le (ZdH f i) (Zde f i) := by
  unfold ZdH Zde
  with_reducible repeat' (first | exact Le.refl _ | apply Le.bind | apply Le.ite | intro _)

noncomputable def Zfs (f : Vector Int 64) : Option Bool :=
  ((QO (t1 (ZdH f)) 0) : Option ((Bool) ⊕ (Unit))).bind (Sum.elim (fun q' => some q') (t0 (some false)))
theorem Zka (f : Vector Int 64) : Le (Zfs f) (Zel f) := by
  unfold Zfs Zel
  with_reducible repeat' (first | exact Le.refl _ | apply Le.bind | apply Le.loop | apply Le.t0 | apply Le.t1 | apply Le.elim | apply Zii | intro _)

noncomputable def Zcy (p : Vector Int 96) (i : Int) (w : Int) : Option (Vector Int 96) :=
  (quo .i64 i 2).bind fun q =>
  (rem i 2).bind fun q2 =>
  if (decide (q2 = 0)) = true then
  (shr .u16 w 4).bind fun q3 =>
  (ZK p (i64 ((i64 (q * 3)) + 1))).bind fun x =>
  (ZK p (i64 (q * 3))).bind fun x2 =>
  (shl .u16 (Q1 .u16 w 15) 4).bind fun q4 =>
  (ZK (XX p (i64 (q * 3)) (u8 q3)) (i64 ((i64 (q * 3)) + 1))).bind fun x3 =>
  some (XX (XX p (i64 (q * 3)) (u8 q3)) (i64 ((i64 (q * 3)) + 1)) (bor .u8 (u8 q4) (Q1 .u8 x 15)))
  else
  (ZK p (i64 ((i64 (q * 3)) + 1))).bind fun x4 =>
  (shr .u16 w 8).bind fun q5 =>
  (ZK p (i64 ((i64 (q * 3)) + 1))).bind fun x5 =>
  (ZK (XX p (i64 ((i64 (q * 3)) + 1)) (bor .u8 (Q1 .u8 x4 240) (u8 q5))) (i64 ((i64 (q * 3)) + 2))).bind fun x6 =>
  some (XX (XX p (i64 ((i64 (q * 3)) + 1)) (bor .u8 (Q1 .u8 x4 240) (u8 q5))) (i64 ((i64 (q * 3)) + 2)) (u8 w))
theorem Zhe (p : Vector Int 96) (i : Int) (w : Int) : Le (Zcy p i w) (Zau p i w) := by
  unfold Zcy Zau
  with_reducible repeat' (first | exact Le.refl _ | apply Le.bind | apply Le.ite | intro _)

noncomputable def ZdF (f : Vector Int 64) (o : Vector Int 96) (i : Int) : Option (((Vector Int 96) × Int) ⊕ ((Vector Int 96))) :=
  if (decide (i < 64)) = true then
  (ZK f i).bind fun x =>
  (Zcy o i x).bind fun y =>
  some (.inl (y, (i64 (i + 1))))
  else
  some (.inr o)
theorem Zh8 (f : Vector Int 64) (o : Vector Int 96) (i : Int) : Le (ZdF f o i) (Zc7 f o i) := by
  unfold ZdF Zc7
  with_reducible repeat' (first | exact Le.refl _ | apply Le.bind | apply Le.ite | apply Zhe | intro _)

noncomputable def Zfh (p : Vector Int 96) (f : Vector Int 64) : Option (Vector Int 96) :=
  QO (t2 (ZdF f)) (p, 0)
theorem Zkb (p : Vector Int 96) (f : Vector Int 64) : Le (Zfh p f) (Zeh p f) := by
  unfold Zfh Zeh
  with_reducible repeat' (first | exact Le.refl _ | apply Le.bind | apply Le.loop | apply Le.t2 | apply Zh8 | intro _)

noncomputable def ZdD (f : Vector Int 64) : Option ((List Int) × Int) :=
  (Zfs f).bind fun y =>
  if y = true then
  some ([], 9)
  else
  (Zfh (Vector.replicate 96 0) f).bind fun y2 =>
  (slc y2.toList 0 (96 : Int)).bind fun l =>
  some (l, 0)
theorem Ziv (f : Vector Int 64) : Le (ZdD f) (Zbz f) := by
  unfold ZdD Zbz
  with_reducible repeat' (first | exact Le.refl _ | apply Le.bind | apply Le.ite | apply Zka | apply Zkb | intro _)

noncomputable def ZaA (q : Int) (o2 : List Int) (i : Int) : Option (((List Int) × Int) ⊕ ((List Int))) :=
  if (decide (i < ((Int.toNat (q - 0) : Nat) : Int))) = true then
  (ck (decide ((0 : Int) ≤ i) && decide (i < ((Int.toNat (q - 0) : Nat) : Int)))).bind fun u2 =>
  (idx o2 (0 + i)).bind fun x2 =>
  some (.inl ((o2.set (0 + i).toNat 255), (i64 (i + 1))))
  else
  some (.inr o2)
theorem Zfd (q : Int) (o2 : List Int) (i : Int) : Le (ZaA q o2 i) (QU q o2 i) := by
  unfold ZaA QU
  with_reducible repeat' (first | exact Le.refl _ | apply Le.bind | apply Le.ite | intro _)

noncomputable def ZaB (s : List Int) (o4 : List Int) (i2 : Int) : Option (((List Int) × Int) ⊕ ((List Int))) :=
  if (decide (i2 < (s.length : Int))) = true then
  (idx o4 i2).bind fun x3 =>
  some (.inl ((o4.set i2.toNat 255), (i64 (i2 + 1))))
  else
  some (.inr o4)
theorem Zfp (s : List Int) (o4 : List Int) (i2 : Int) : Le (ZaB s o4 i2) (QX s o4 i2) := by
  unfold ZaB QX
  with_reducible repeat' (first | exact Le.refl _ | apply Le.bind | apply Le.ite | intro _)

noncomputable def ZbR (s : List Int) (power : Int) : Option (Int × Bool × (List Int)) :=
  if (decide (power = 0)) = true then
  (quo .i64 (s.length : Int) 2).bind fun q =>
  (slp s 0 q).bind fun u =>
  ((QO (t2 (ZaA q)) (s, 0)) : Option (((List Int)))).bind (t1 fun (o : List Int) =>
  some ((max (i64 (power - 1)) 0), (decide (0 < power)), o))
  else
  ((QO (t2 (ZaB s)) (s, 0)) : Option (((List Int)))).bind (t1 fun (o3 : List Int) =>
  some ((max (i64 (power - 1)) 0), (decide (0 < power)), o3))
theorem ZgN (s : List Int) (power : Int) : Le (ZbR s power) (Xu s power) := by
  unfold ZbR Xu
  with_reducible repeat' (first | exact Le.refl _ | apply Le.bind | apply Le.ite | apply Le.loop | apply Le.t1 | apply Le.t2 | apply Zfd | apply Zfp | intro _)

noncomputable def ZbK (at_ : Int) (data : List Int) (o2 : List Int) (power3 : Int) (i : Int) : Option (((List Int) × Int × Int) ⊕ (Int × Bool × (List Int)) ⊕ ((List Int) × Int)) :=
  if (decide (i < (data.length : Int))) = true then
  (idx data i).bind fun x =>
  if (decide (power3 = 0)) = true then
  (idx o2 (i64 (at_ + i))).bind fun x2 =>
  (idx o2 (i64 (at_ + i))).bind fun x3 =>
  some (.inr (.inl (0, false, (o2.set (i64 (at_ + i)).toNat (Q1 .u8 x2 (bor .u8 x 15))))))
  else
  (idx o2 (i64 (at_ + i))).bind fun x4 =>
  (idx o2 (i64 (at_ + i))).bind fun x5 =>
  some (.inl ((o2.set (i64 (at_ + i)).toNat (Q1 .u8 x4 x)), (i64 (power3 - 1)), (i64 (i + 1))))
  else
  some (.inr (.inr (o2, power3)))
theorem ZgE (at_ : Int) (data : List Int) (o2 : List Int) (power3 : Int) (i : Int) : Le (ZbK at_ data o2 power3 i) (Xs at_ data o2 power3 i) := by
  unfold ZbK Xs
  with_reducible repeat' (first | exact Le.refl _ | apply Le.bind | apply Le.ite | intro _)

noncomputable def ZbH (s : List Int) (at_ : Int) (data : List Int) (power : Int) : Option (Int × Bool × (List Int)) :=
  ((QO (t3 (ZbK at_ data)) (s, power, 0)) : Option ((Int × Bool × (List Int)) ⊕ ((List Int) × Int))).bind (Sum.elim (fun q' => some q') (t2 fun (o : List Int) (power2 : Int) =>
  some (power2, true, o)))
theorem Ze5 (s : List Int) (at_ : Int) (data : List Int) (power : Int) : Le (ZbH s at_ data power) (X4 s at_ data power) := by
  unfold ZbH X4
  with_reducible repeat' (first | exact Le.refl _ | apply Le.bind | apply Le.loop | apply Le.t2 | apply Le.t3 | apply Le.elim | apply ZgE | intro _)

noncomputable def Zbj (b : ring_Recorder) (k : Int) (power : Int) : Option (Int × Bool × ring_Recorder) :=
  (idx b.bank.memories k).bind fun x =>
  (JU b.bank k).bind fun y =>
  (JB b.bank k y).bind fun y2 =>
  (idx x.Wear y).bind fun x2 =>
  (idx x.Wear y).bind fun x3 =>
  (idx x.Sectors y).bind fun x8 =>
  (ZbR x8 power).bind fun y3 =>
  if (!y3.2.1) = true then
  some (y3.1, false, (ring_Recorder.mk (ring_bank.mk ((b.bank.memories.set k.toNat (api_Memory.mk x.Slots x.Limit x.Sectors (x.Wear.set y.toNat (i64 (x2 + 1))) x.Bad)).set k.toNat (api_Memory.mk x.Slots x.Limit (x.Sectors.set y.toNat y3.2.2) (x.Wear.set y.toNat (i64 (x2 + 1))) x.Bad)) b.bank.spots) b.copies b.frozen b.stopped b.last b.some_))
  else
  (((idx ((b.bank.memories.set k.toNat (api_Memory.mk x.Slots x.Limit x.Sectors (x.Wear.set y.toNat (i64 (x2 + 1))) x.Bad)).set k.toNat (api_Memory.mk x.Slots x.Limit (x.Sectors.set y.toNat y3.2.2) (x.Wear.set y.toNat (i64 (x2 + 1))) x.Bad)) k).bind fun x14 =>
  (idx x14.Sectors y).bind fun x15 =>
  (idx x14.Sectors y).bind fun x16 =>
  (Zda y2).bind fun y4 =>
  (ZbH x15 0 y4 y3.1).bind fun y5 =>
  if y5.2.1 = true then
  (idx b.bank.spots k).bind fun x22 =>
  some ((((b.bank.memories.set k.toNat (api_Memory.mk x.Slots x.Limit x.Sectors (x.Wear.set y.toNat (i64 (x2 + 1))) x.Bad)).set k.toNat (api_Memory.mk x.Slots x.Limit (x.Sectors.set y.toNat y3.2.2) (x.Wear.set y.toNat (i64 (x2 + 1))) x.Bad)).set k.toNat (api_Memory.mk x14.Slots x14.Limit (x14.Sectors.set y.toNat y5.2.2) x14.Wear x14.Bad)), (b.bank.spots.set k.toNat (ring_spot.mk y 0)), y5.1, y5.2.1)
  else
  some ((((b.bank.memories.set k.toNat (api_Memory.mk x.Slots x.Limit x.Sectors (x.Wear.set y.toNat (i64 (x2 + 1))) x.Bad)).set k.toNat (api_Memory.mk x.Slots x.Limit (x.Sectors.set y.toNat y3.2.2) (x.Wear.set y.toNat (i64 (x2 + 1))) x.Bad)).set k.toNat (api_Memory.mk x14.Slots x14.Limit (x14.Sectors.set y.toNat y5.2.2) x14.Wear x14.Bad)), b.bank.spots, y5.1, y5.2.1)) : Option (((List api_Memory) × (List ring_spot) × Int × Bool))).bind (t4 fun (memories : List api_Memory) (spots : List ring_spot) (power2 : Int) (all : Bool) =>
  some (power2, all, (ring_Recorder.mk (ring_bank.mk memories spots) b.copies b.frozen b.stopped b.last b.some_)))
theorem ZfX (b : ring_Recorder) (k : Int) (power : Int) : Le (Zbj b k power) (Jx b k power) := by
  unfold Zbj Jx
  with_reducible repeat' (first | exact Le.refl _ | apply Le.bind | apply Le.ite | apply Le.t4 | apply Zcu | apply ZcD | apply ZgN | apply Zgb | apply Ze5 | intro _)

noncomputable def Zcp (b : ring_Recorder) (k : Int) (data : List Int) (power : Int) : Option (Int × Bool × ring_Recorder) :=
  (((Jf b.bank k).bind fun y =>
  if y = true then
  (Zbj b k power).bind fun y2 =>
  if (!y2.2.1) = true then
  some (.inl (y2.1, false, y2.2.2))
  else
  some (.inr (y2.2.2.bank.memories, y2.2.2.bank.spots, y2.2.2.copies, y2.2.2.frozen, y2.2.2.stopped, y2.2.2.last, y2.2.2.some_, y2.1))
  else
  some (.inr (b.bank.memories, b.bank.spots, b.copies, b.frozen, b.stopped, b.last, b.some_, power))) : Option ((Int × Bool × ring_Recorder) ⊕ ((List api_Memory) × (List ring_spot) × Int × Bool × Bool × Int × Bool × Int))).bind (Sum.elim (fun q' => some q') (t8 fun (memories : List api_Memory) (spots : List ring_spot) (copies : Int) (frozen : Bool) (stopped : Bool) (last : Int) (some_ : Bool) (power2 : Int) =>
  (idx spots k).bind fun x =>
  (idx memories k).bind fun x2 =>
  (idx x2.Sectors x.sector).bind fun x3 =>
  (idx memories k).bind fun x4 =>
  (idx x2.Sectors x.sector).bind fun x5 =>
  (apz 1 data ([0] : List Int)).bind fun l =>
  (ZbH x3 (i64 (16 + (i64 (x.slot * 97)))) l power2).bind fun y3 =>
  some (y3.1, y3.2.1, (ring_Recorder.mk (ring_bank.mk (memories.set k.toNat (api_Memory.mk x2.Slots x2.Limit (x2.Sectors.set x.sector.toNat y3.2.2) x2.Wear x2.Bad)) (spots.set k.toNat (ring_spot.mk x.sector (i64 (x.slot + 1))))) copies frozen stopped last some_))))
theorem Zha (b : ring_Recorder) (k : Int) (data : List Int) (power : Int) : Le (Zcp b k data power) (Zao b k data power) := by
  unfold Zcp Zao
  with_reducible repeat' (first | exact Le.refl _ | apply Le.bind | apply Le.ite | apply Le.t8 | apply Le.elim | apply Zbm | apply ZfX | apply Ze5 | intro _)

noncomputable def Jq (y4 : (List Int)) (y6 : (List Int) × Int) (memories2 : List api_Memory) (spots2 : List ring_spot) (copies2 : Int) (frozen2 : Bool) (stopped2 : Bool) (last2 : Int) (some_2 : Bool) (power3 : Int) (i : Int) : Option (((List api_Memory) × (List ring_spot) × Int × Bool × Bool × Int × Bool × Int × Int) ⊕ (Int × Bool × Int × ring_Recorder) ⊕ ((List api_Memory) × (List ring_spot) × Int × Bool × Bool × Int × Bool × Int)) :=
  if (decide (i < (y4.length : Int))) = true then
  (idx y4 i).bind fun x =>
  (slc y6.1 0 (y6.1.length : Int)).bind fun l =>
  (Zcp (ring_Recorder.mk (ring_bank.mk memories2 spots2) copies2 frozen2 stopped2 last2 some_2) x l power3).bind fun y7 =>
  if (!y7.2.1) = true then
  some (.inr (.inl (y7.1, false, 0, (ring_Recorder.mk y7.2.2.bank y7.2.2.copies y7.2.2.frozen true y7.2.2.last y7.2.2.some_))))
  else
  some (.inl (y7.2.2.bank.memories, y7.2.2.bank.spots, y7.2.2.copies, y7.2.2.frozen, y7.2.2.stopped, y7.2.2.last, y7.2.2.some_, y7.1, (i64 (i + 1))))
  else
  some (.inr (.inr (memories2, spots2, copies2, frozen2, stopped2, last2, some_2, power3)))
theorem Zeg (y4 : (List Int)) (y6 : (List Int) × Int) (memories2 : List api_Memory) (spots2 : List ring_spot) (copies2 : Int) (frozen2 : Bool) (stopped2 : Bool) (last2 : Int) (some_2 : Bool) (power3 : Int) (i : Int) : Le (Jq y4 y6 memories2 spots2 copies2 frozen2 stopped2 last2 some_2 power3 i) (XM y4 y6 memories2 spots2 copies2 frozen2 stopped2 last2 some_2 power3 i) := by
  unfold Jq XM
  with_reducible repeat' (first | exact Le.refl _ | apply Le.bind | apply Le.ite | apply Zha | intro _)

noncomputable def Zai (r_ : ring_Recorder) (f : Vector Int 64) (power : Int) : Option (Int × Bool × Int × ring_Recorder) :=
  (Za5 r_ power).bind fun y =>
  if (!decide (y = 0)) = true then
  some (0, false, y, r_)
  else
  (Zdb f).bind fun y2 =>
  if (decide (0 < (y2.length : Int))) = true then
  some (0, false, 2, r_)
  else
  (Zcn f).bind fun y3 =>
  (Zd6 y3.1 (r_.bank.memories.length : Int) r_.copies).bind fun y4 =>
  (Zb7 r_.bank y4).bind fun y5 =>
  if (!decide (y5 = 0)) = true then
  some (0, false, y5, r_)
  else
  (ZdD f).bind fun y6 =>
  ((QO (t9 (Jq y4 y6)) (r_.bank.memories, r_.bank.spots, r_.copies, r_.frozen, r_.stopped, r_.last, r_.some_, power, 0)) : Option ((Int × Bool × Int × ring_Recorder) ⊕ ((List api_Memory) × (List ring_spot) × Int × Bool × Bool × Int × Bool × Int))).bind (Sum.elim (fun q' => some q') (t8 fun (memories : List api_Memory) (spots : List ring_spot) (copies : Int) (frozen : Bool) (stopped : Bool) (last : Int) (some_ : Bool) (power2 : Int) =>
  some (power2, true, 0, (ring_Recorder.mk (ring_bank.mk memories spots) copies frozen stopped y3.1 true))))
theorem ZeU (r_ : ring_Recorder) (f : Vector Int 64) (power : Int) : Le (Zai r_ f power) (XA r_ f power) := by
  unfold Zai XA
  with_reducible repeat' (first | exact Le.refl _ | apply Le.bind | apply Le.ite | apply Le.loop | apply Le.t8 | apply Le.t9 | apply Le.elim | apply ZfT | apply ZfU | apply ZfG | apply ZiR | apply Zhi | apply Ziv | apply Zeg | intro _)

noncomputable def JN (r_ : ring_Recorder) : Option (List api_Memory) :=
  (Zb5 r_.bank.memories).bind fun y =>
  some y
theorem Zes (r_ : ring_Recorder) : Le (JN r_) (Xa r_) := by
  unfold JN Xa
  with_reducible repeat' (first | exact Le.refl _ | apply Le.bind | apply ZfD | intro _)

noncomputable def Zeb (p : Vector Int 96) (i : Int) : Option Int :=
  (quo .i64 i 2).bind fun q =>
  (rem i 2).bind fun q2 =>
  if (decide (q2 = 0)) = true then
  (ZK p (i64 (q * 3))).bind fun x =>
  (shl .u16 (u16 x) 4).bind fun q3 =>
  (ZK p (i64 ((i64 (q * 3)) + 1))).bind fun x2 =>
  (shr .u16 (u16 x2) 4).bind fun q4 =>
  some (bor .u16 q3 q4)
  else
  (ZK p (i64 ((i64 (q * 3)) + 1))).bind fun x3 =>
  (shl .u16 (Q1 .u16 (u16 x3) 15) 8).bind fun q5 =>
  (ZK p (i64 ((i64 (q * 3)) + 2))).bind fun x4 =>
  some (bor .u16 q5 (u16 x4))
theorem ZiN (p : Vector Int 96) (i : Int) : Le (Zeb p i) (Zad p i) := by
  unfold Zeb Zad
  with_reducible repeat' (first | exact Le.refl _ | apply Le.bind | apply Le.ite | intro _)

noncomputable def ZdG (p : Vector Int 96) (f2 : Vector Int 64) (i : Int) : Option (((Vector Int 64) × Int) ⊕ ((Vector Int 64))) :=
  if (decide (i < 64)) = true then
  (Zeb p i).bind fun y =>
  (ZK f2 i).bind fun x =>
  some (.inl ((XX f2 i y), (i64 (i + 1))))
  else
  some (.inr f2)
theorem Zij (p : Vector Int 96) (f2 : Vector Int 64) (i : Int) : Le (ZdG p f2 i) (JF p f2 i) := by
  unfold ZdG JF
  with_reducible repeat' (first | exact Le.refl _ | apply Le.bind | apply Le.ite | apply ZiN | intro _)

noncomputable def Zfc (p : Vector Int 96) : Option (Vector Int 64) :=
  ((QO (t2 (ZdG p)) ((Vector.replicate 64 0), 0)) : Option (((Vector Int 64)))).bind (t1 fun (f : Vector Int 64) =>
  some f)
theorem Zj0 (p : Vector Int 96) : Le (Zfc p) (ZbS p) := by
  unfold Zfc ZbS
  with_reducible repeat' (first | exact Le.refl _ | apply Le.bind | apply Le.loop | apply Le.t1 | apply Le.t2 | apply Zij | intro _)

noncomputable def Zcl (b : List Int) : Option ((Vector Int 64) × Int) :=
  if (decide ((b.length : Int) < 96)) = true then
  some ((#v[0, 0, 0, 0, 0, 0, 0, 0, 0, 0, 0, 0, 0, 0, 0, 0, 0, 0, 0, 0, 0, 0, 0, 0, 0, 0, 0, 0, 0, 0, 0, 0, 0, 0, 0, 0, 0, 0, 0, 0, 0, 0, 0, 0, 0, 0, 0, 0, 0, 0, 0, 0, 0, 0, 0, 0, 0, 0, 0, 0, 0, 0, 0, 0] : Vector Int 64), 3)
  else
  (slc b 0 96).bind fun l =>
  (tov 96 l).bind fun v =>
  (Zfc v).bind fun y =>
  some (y, 0)
theorem Zhm (b : List Int) : Le (Zcl b) (Xg b) := by
  unfold Zcl Xg
  with_reducible repeat' (first | exact Le.refl _ | apply Le.bind | apply Le.ite | apply Zj0 | intro _)

noncomputable def Zcr (i : Int) (x : api_Memory) (x2 : Int) (y3 : Int × Bool × Bool) (out6 : List api_Kept) (i3 : Int) : Option (((List api_Kept) × Int) ⊕ ((List api_Kept))) :=
  if (decide (i3 < x.Slots)) = true then
  (idx x.Sectors x2).bind fun x4 =>
  (Zc8 x4 i3).bind fun y4 =>
  (Zcg y4).bind fun y5 =>
  if (decide (y5 = 1)) = true then
  (slc y4.toList 0 (97 : Int)).bind fun l2 =>
  (Zcl l2).bind fun y6 =>
  (apz 160 out6 ([(api_Kept.mk i x2 y3.1 i3 y6.1)] : List api_Kept)).bind fun l3 =>
  some (.inl (l3, (i64 (i3 + 1))))
  else
  some (.inl (out6, (i64 (i3 + 1))))
  else
  some (.inr out6)
theorem Zhg (i : Int) (x : api_Memory) (x2 : Int) (y3 : Int × Bool × Bool) (out6 : List api_Kept) (i3 : Int) : Le (Zcr i x x2 y3 out6 i3) (XR i x x2 y3 out6 i3) := by
  unfold Zcr XR
  with_reducible repeat' (first | exact Le.refl _ | apply Le.bind | apply Le.ite | apply Zf5 | apply ZfB | apply Zhm | intro _)

noncomputable def Zcb (i : Int) (x : api_Memory) (y2 : (List Int)) (out4 : List api_Kept) (i2 : Int) : Option (((List api_Kept) × Int) ⊕ ((List api_Kept))) :=
  if (decide (i2 < (y2.length : Int))) = true then
  (((idx y2 i2).bind fun x2 =>
  (idx x.Sectors x2).bind fun x3 =>
  (Za2 x3).bind fun y3 =>
  QO (t2 (Zcr i x x2 y3)) (out4, 0)) : Option (((List api_Kept)))).bind (t1 fun (out5 : List api_Kept) =>
  some (.inl (out5, (i64 (i2 + 1)))))
  else
  some (.inr out4)
theorem Zg6 (i : Int) (x : api_Memory) (y2 : (List Int)) (out4 : List api_Kept) (i2 : Int) : Le (Zcb i x y2 out4 i2) (XS i x y2 out4 i2) := by
  unfold Zcb XS
  with_reducible repeat' (first | exact Le.refl _ | apply Le.bind | apply Le.ite | apply Le.loop | apply Le.t1 | apply Le.t2 | apply Zcm | apply Zhg | intro _)

noncomputable def Zcs (l : List api_Memory) (out2 : List api_Kept) (i : Int) : Option (((List api_Kept) × Int) ⊕ ((List api_Kept))) :=
  if (decide (i < (l.length : Int))) = true then
  (((idx l i).bind fun x =>
  (Zcj x).bind fun y2 =>
  QO (t2 (Zcb i x y2)) (out2, 0)) : Option (((List api_Kept)))).bind (t1 fun (out3 : List api_Kept) =>
  some (.inl (out3, (i64 (i + 1)))))
  else
  some (.inr out2)
theorem Zg8 (l : List api_Memory) (out2 : List api_Kept) (i : Int) : Le (Zcs l out2 i) (XO l out2 i) := by
  unfold Zcs XO
  with_reducible repeat' (first | exact Le.refl _ | apply Le.bind | apply Le.ite | apply Le.loop | apply Le.t1 | apply Le.t2 | apply ZfH | apply Zg6 | intro _)

noncomputable def Zee (l : List api_Memory) : Option ((List api_Kept) × Int) :=
  (ZbE l).bind fun y =>
  if (!decide (y = 0)) = true then
  some ([], y)
  else
  ((QO (t2 (Zcs l)) ([], 0)) : Option (((List api_Kept)))).bind (t1 fun (out : List api_Kept) =>
  some (out, 0))
theorem ZiP (l : List api_Memory) : Le (Zee l) (JD l) := by
  unfold Zee JD
  with_reducible repeat' (first | exact Le.refl _ | apply Le.bind | apply Le.ite | apply Le.loop | apply Le.t1 | apply Le.t2 | apply ZeZ | apply Zg8 | intro _)

noncomputable def ZcM (y : (List api_Kept) × Int) (best2 : List (Int × api_Kept)) (numbers2 : List Int) (i : Int) : Option (((List (Int × api_Kept)) × (List Int) × Int) ⊕ ((List (Int × api_Kept)) × (List Int))) :=
  if (decide (i < (y.1.length : Int))) = true then
  (idx y.1 i).bind fun x =>
  (Zdb x.Frame).bind fun y2 =>
  if (decide (0 < (y2.length : Int))) = true then
  some (.inl (best2, numbers2, (i64 (i + 1))))
  else
  (Zcn x.Frame).bind fun y3 =>
  (some (mget kqI best2 y3.1)).bind fun o =>
  ((if (!o.isSome) = true then
  (apz 8 numbers2 ([y3.1] : List Int)).bind fun l2 =>
  some l2
  else
  some numbers2) : Option (((List Int)))).bind (t1 fun (numbers3 : List Int) =>
  if ((!o.isSome) || (decide (((o.getD (api_Kept.mk 0 0 0 0 (Vector.replicate 64 0))).Sequence) < x.Sequence))) = true then
  some (.inl ((Zg9 kqI best2 y3.1 x), numbers3, (i64 (i + 1))))
  else
  some (.inl (best2, numbers3, (i64 (i + 1)))))
  else
  some (.inr (best2, numbers2))
theorem ZhP (y : (List api_Kept) × Int) (best2 : List (Int × api_Kept)) (numbers2 : List Int) (i : Int) : Le (ZcM y best2 numbers2 i) (QY y best2 numbers2 i) := by
  unfold ZcM QY
  with_reducible repeat' (first | exact Le.refl _ | apply Le.bind | apply Le.ite | apply Le.t1 | apply ZfU | apply ZfG | intro _)

noncomputable def ZcX (best : List (Int × api_Kept)) (y4 : List Int) (out2 : List (Vector Int 64)) (i2 : Int) : Option (((List (Vector Int 64)) × Int) ⊕ ((List (Vector Int 64)))) :=
  if (decide (i2 < (y4.length : Int))) = true then
  (idx y4 i2).bind fun x2 =>
  (some ((mget kqI best x2).getD (api_Kept.mk 0 0 0 0 (Vector.replicate 64 0)))).bind fun o2 =>
  (apz 128 out2 ([o2.Frame] : List (Vector Int 64))).bind fun l3 =>
  some (.inl (l3, (i64 (i2 + 1))))
  else
  some (.inr out2)
theorem ZhQ (best : List (Int × api_Kept)) (y4 : List Int) (out2 : List (Vector Int 64)) (i2 : Int) : Le (ZcX best y4 out2 i2) (Jj best y4 out2 i2) := by
  unfold ZcX Jj
  with_reducible repeat' (first | exact Le.refl _ | apply Le.bind | apply Le.ite | intro _)

noncomputable def ZeH (l : List api_Memory) : Option ((List (Vector Int 64)) × Int) :=
  (Zee l).bind fun y =>
  if (!decide (y.2 = 0)) = true then
  some ([], y.2)
  else
  ((QO (t3 (ZcM y)) (([] : List (Int × api_Kept)), [], 0)) : Option (((List (Int × api_Kept)) × (List Int)))).bind (t2 fun (best : List (Int × api_Kept)) (numbers : List Int) =>
  (ZoU numbers).bind fun y4 =>
  ((QO (t2 (ZcX best y4)) ([], 0)) : Option (((List (Vector Int 64))))).bind (t1 fun (out : List (Vector Int 64)) =>
  some (out, 0)))
theorem Zjk (l : List api_Memory) : Le (ZeH l) (J5 l) := by
  unfold ZeH J5
  with_reducible repeat' (first | exact Le.refl _ | apply Le.bind | apply Le.ite | apply Le.loop | apply Le.t1 | apply Le.t2 | apply Le.t3 | apply ZiP | apply ZhP | apply ZhQ | apply ZnT | intro _)

noncomputable def Zf8 : Option Bool :=
  (mkz 8 58 0).bind fun l =>
  (Zg5 4 l).bind fun y =>
  (Zc1 2 1 3).bind fun y2 =>
  if (!decide (y2.2 = 0)) = true then
  some false
  else
  (Zfq ([y2.1] : List api_Memory) 1).bind (Sum.elim (fun y3 =>
  if (!decide (y3 = 0)) = true then
  some false
  else
  none) (fun y3 =>
  if (!decide (y3.2 = 0)) = true then
  some false
  else
  (Zai y3.1 y.1 109).bind fun y4 =>
  (JN y4.2.2.2).bind fun y5 =>
  (ZeH y5).bind fun y6 =>
  (gd ((((((decide (y4.1 = 1)) && y4.2.1) && (decide (y4.2.2.1 = 0))) && (decide (y6.2 = 0))) && (decide ((y6.1.length : Int) = 1))) == true) (Vector.replicate 64 0) (idx y6.1 0)).bind fun x =>
  some ((((((decide (y4.1 = 1)) && y4.2.1) && (decide (y4.2.2.1 = 0))) && (decide (y6.2 = 0))) && (decide ((y6.1.length : Int) = 1))) && (decide (x = y.1)))))
theorem ZkL : Le (Zf8 ) (ZdX ) := by
  unfold Zf8 ZdX
  with_reducible repeat' (first | exact Le.refl _ | apply Le.bind | apply Le.ite | apply Le.gd | apply Le.elim | apply ZkZ | apply ZhS | apply ZjY | apply ZeU | apply Zes | apply Zjk | intro _)
end Go.Vx

namespace Go.Vx
open Go Go.RowKit
theorem Zpu : Zf8 = some true := by decide +kernel
theorem ZpS : ZdX = some true := ZkL true Zpu
end Go.Vx

namespace Go.Vx
open Go Go.RowKit
theorem Zef {α : Type} {s : Nat} {xs ys : List α} (h : xs.length + ys.length ≤ 140737488355328 / s) : apz s xs ys = some (xs ++ ys) := by unfold apz; rw [if_pos h]
theorem ZoK {α : Type} [DecidableEq α] {a b : List α} {body : Int → Option (Int ⊕ (Bool ⊕ Unit))} (hl : a.length = b.length)
    (h : ∀ (k : Nat) x y, a[k]? = some x → b[k]? = some y → body k = if x = y then some (.inl ((k : Int) + 1)) else some (.inr (.inl false)))
    (hend : body a.length = some (.inr (.inr ()))) : loop (t1 body) 0 = some (if a = b then .inr () else .inl false) := by
  refine (Zjc (xs := a) (fun k => if a.drop k = b.drop k then (.inr () : Bool ⊕ Unit) else .inl false) (fun k x hx => ?_) ?_).trans (by simp)
  · have hk := (List.getElem?_eq_some_iff.1 hx).1
    obtain ⟨y, hy⟩ := Zbp (xs := b) (k := k) (by omega)
    rw [h k x y hx hy, ZcE hx, ZcE hy]
    by_cases e : x = y
    · left; subst e; refine ⟨by rw [if_pos rfl], ?_⟩
      simp
    · right; rw [if_neg e, if_neg (by simp [e])]
  · rw [hend, if_pos (by rw [List.drop_length, hl, List.drop_length])]
theorem eqY {a b : List Int} (ha : a.length ≤ 9223372036854775807) : QB a b = some (decide (a = b)) := by
  unfold QB
  by_cases hl : a.length = b.length
  · rw [if_neg (by simp [hl]), ZoK (a := a) (b := b) hl (fun k x y hx hy => ?_) (by simp [QA])]
    · by_cases e : a = b <;> simp [e]
    · have hlt := Zo3 hx
      simp only [QA, hlt, decide_true, if_true, ZY hx, ZY hy, Option.bind_some]
      rw [show i64 ((k : Int) + 1) = (k : Int) + 1 from Zt (by omega) (by omega)]
      by_cases e : x = y <;> simp [e]
  · rw [if_pos (by simpa using fun e => hl (by omega))]
    rw [decide_eq_false (fun e => hl (by rw [e]))]
end Go.Vx

namespace Go.Vx
open Go Go.RowKit
end Go.Vx

namespace Go.Vx
open Go Go.RowKit
theorem Zal {α : Type} {s : List α} {k : Nat} (h : k < s.length) (d : α) : s[k]? = some (s.getD k d) := by
  rw [List.getD_eq_getElem?_getD, List.getElem?_eq_getElem h]; rfl
theorem ZpK (w : Nat) (X : BitVec w) : BitVec.ofInt w (X.toNat : Int) = X := by
  apply BitVec.eq_of_toNat_eq; simp [BitVec.toNat_ofInt]
theorem Zo2 (X : BitVec 8) : IntKind.u8.wrap (X.toNat : Int) = (X.toNat : Int) := by
  have h := X.isLt
  have : ∀ n : Nat, n < 256 → IntKind.u8.wrap (n : Int) = (n : Int) := by
    intro n hn
    show ((n : Int) % 256) = n
    omega
  exact this _ h
theorem Zqu (a b : Int) : Q1 .u8 a b = ((BitVec.ofInt 8 a &&& BitVec.ofInt 8 b).toNat : Int) := Zo2 _
theorem Znf (a b : Int) : Zk4 .u8 a b = ((BitVec.ofInt 8 a &&& ~~~ BitVec.ofInt 8 b).toNat : Int) := Zo2 _
theorem Zls (a : Int) : Zk4 .u8 a a = 0 := by
  rw [Znf]; simp
theorem Zlu {x y b : Int} (h : Zk4 .u8 x y = 0) : Zk4 .u8 (Q1 .u8 x b) y = 0 := by
  rw [Znf] at h ⊢
  rw [Zqu, ZpK]
  have h' : (BitVec.ofInt 8 x &&& ~~~ BitVec.ofInt 8 y) = 0#8 := by
    apply BitVec.eq_of_toNat_eq; simpa using h
  have : (BitVec.ofInt 8 x &&& BitVec.ofInt 8 b) &&& ~~~ BitVec.ofInt 8 y = (BitVec.ofInt 8 x &&& ~~~ BitVec.ofInt 8 y) &&& BitVec.ofInt 8 b := by
    rw [BitVec.and_assoc, BitVec.and_comm (BitVec.ofInt 8 b), ← BitVec.and_assoc]
  rw [this, h']; simp
def SubB (t s : List Int) : Prop := ∀ (k : Nat) x y, t[k]? = some x → s[k]? = some y → Zk4 .u8 x y = 0
theorem SubB.refl (s : List Int) : SubB s s := fun k x y hx hy => by rw [hx] at hy; cases hy; exact Zls x
theorem SubB.set {t s : List Int} (h : SubB t s) (a : Nat) (b : Int) : SubB (t.set a (Q1 .u8 (t.getD a 0) b)) s := by
  intro k x y hx hy
  rw [List.getElem?_set] at hx
  split at hx
  · rename_i e
    subst e
    split at hx
    · rename_i hl
      cases hx
      exact Zlu (h a _ y (Zal hl 0) hy)
    · cases hx
  · exact h k x y hx hy
end Go.Vx

namespace Go.Vx
open Go Go.RowKit
section
variable {σ ρ : Type} {body : σ → Option (σ ⊕ ρ)} {s s' : σ} {r : ρ}
theorem Xy (h : body s = some (.inl s')) (k : loop body s' = some r) : loop body s = some r := by
  obtain ⟨n, hn⟩ := ZcH k
  exact Zfj (n := n + 1) (by simp only [Zby, h, Option.bind_some]; exact hn)
theorem ZeX (h : body s = some (.inr r)) : loop body s = some r := Zfj (n := 1) (by simp only [Zby, h, Option.bind_some]; rfl)
end
def u8R (l : List Int) : Prop := ∀ x ∈ l, 0 ≤ x ∧ x ≤ 255
theorem Zpd {l : List Int} (h : u8R l) {k : Nat} {x : Int} (hx : l[k]? = some x) : 0 ≤ x ∧ x ≤ 255 := h x (List.mem_of_getElem? hx)
theorem Zb0 {l : List Int} (h : u8R l) (k : Nat) : 0 ≤ l.getD k 0 ∧ l.getD k 0 ≤ 255 := by
  by_cases hk : k < l.length
  · exact Zpd h (Zal hk 0)
  · rw [List.getD_eq_getElem?_getD, List.getElem?_eq_none (by omega)]; decide
theorem Zpa {a b s : Nat} (hb : b < 2 ^ s) (h : a * 2 ^ s + b < 2 ^ 62) : bor .i64 ((a * 2 ^ s : Nat) : Int) (b : Int) = ((a * 2 ^ s + b : Nat) : Int) := by
  unfold bor
  have e : (BitVec.ofInt IntKind.i64.bits ((a * 2 ^ s : Nat) : Int) ||| BitVec.ofInt IntKind.i64.bits (b : Int)).toNat = a * 2 ^ s + b := by
    have h1 : ∀ n : Nat, BitVec.ofInt IntKind.i64.bits (n : Int) = BitVec.ofNat 64 n := fun n => BitVec.ofInt_natCast ..
    rw [h1, h1]
    show (BitVec.ofNat 64 (a * 2 ^ s) ||| BitVec.ofNat 64 b).toNat = _
    rw [BitVec.toNat_or, BitVec.toNat_ofNat, BitVec.toNat_ofNat, Nat.mod_eq_of_lt (by omega), Nat.mod_eq_of_lt (by omega), ← Nat.shiftLeft_eq, ← Nat.shiftLeft_add_eq_or_of_lt hb]
  rw [e]
  exact Zt (by omega) (by omega)
def Zlr (a b c d : Int) : Int := a * 16777216 + b * 65536 + c * 256 + d
theorem Zpr {n j : Nat} (h1 : n ≤ 255) (h2 : j ≤ 24) : shl .i64 (n : Int) (j : Int) = some ((n * 2 ^ j : Nat) : Int) := by
  unfold shl
  rw [if_neg (by omega)]
  have e1 : min (Int.toNat (j : Int)) IntKind.i64.bits = j := by
    show min (Int.toNat (j : Int)) 64 = j
    simp; omega
  have e2 : (2 : Nat) ^ j ≤ 2 ^ 24 := Nat.pow_le_pow_right (by omega) h2
  have e3 : n * 2 ^ j ≤ 255 * 2 ^ 24 := Nat.mul_le_mul h1 e2
  rw [e1]
  have e4 : ((n : Int) * 2 ^ j) = ((n * 2 ^ j : Nat) : Int) := by push_cast; rfl
  rw [e4, Zt (by omega) (by omega)]
theorem Zqk {m n : Nat} (h : m = n) : (m : Int) = (n : Int) := congrArg _ h
theorem Zpk {a b c d : Int} (ha : 0 ≤ a ∧ a ≤ 255) (hb : 0 ≤ b ∧ b ≤ 255) (hc : 0 ≤ c ∧ c ≤ 255) (hd : 0 ≤ d ∧ d ≤ 255) :
    ∃ q q2 q3, shl .i64 (i64 a) 24 = some q ∧ shl .i64 (i64 b) 16 = some q2 ∧ shl .i64 (i64 c) 8 = some q3 ∧ bor .i64 (bor .i64 (bor .i64 q q2) q3) (i64 d) = Zlr a b c d := by
  obtain ⟨a, rfl⟩ := Int.eq_ofNat_of_zero_le ha.1
  obtain ⟨b, rfl⟩ := Int.eq_ofNat_of_zero_le hb.1
  obtain ⟨c, rfl⟩ := Int.eq_ofNat_of_zero_le hc.1
  obtain ⟨d, rfl⟩ := Int.eq_ofNat_of_zero_le hd.1
  have e : ∀ n : Nat, n ≤ 255 → i64 (n : Int) = n := fun n h => Zt (by omega) (by omega)
  rw [e a (by omega), e b (by omega), e c (by omega), e d (by omega)]
  refine ⟨_, _, _, Zpr (j := 24) (by omega) (by omega), Zpr (j := 16) (by omega) (by omega), Zpr (j := 8) (by omega) (by omega), ?_⟩
  have b1 : bor .i64 ((a * 2 ^ 24 : Nat) : Int) ((b * 2 ^ 16 : Nat) : Int) = (((a * 2 ^ 8 + b) * 2 ^ 16 : Nat) : Int) :=
    (Zpa (s := 24) (by omega) (by omega)).trans (Zqk (by omega))
  have b2 : bor .i64 (((a * 2 ^ 8 + b) * 2 ^ 16 : Nat) : Int) ((c * 2 ^ 8 : Nat) : Int) = ((((a * 2 ^ 8 + b) * 2 ^ 8 + c) * 2 ^ 8 : Nat) : Int) :=
    (Zpa (s := 16) (by omega) (by omega)).trans (Zqk (by omega))
  rw [b1, b2]
  refine (Zpa (s := 8) (by omega) (by omega)).trans ?_
  unfold Zlr; omega
def hdL (n : Int) : List Int := [79, 66, n / 16777216 % 256, n / 65536 % 256, n / 256 % 256, n % 256, 255 - n / 16777216 % 256, 255 - n / 65536 % 256, 255 - n / 256 % 256, 255 - n % 256]
theorem ZpI (n : Int) : u8R (hdL n) := by
  intro x hx
  simp only [hdL, List.mem_cons, List.not_mem_nil, or_false] at hx
  rcases hx with h | h | h | h | h | h | h | h | h | h <;> omega
theorem Zn9 {k : IntKind} {n : Int} {j : Nat} (h : j ≤ k.bits) : shr k n (j : Int) = some (n / (2 : Int) ^ j) := by
  unfold shr
  rw [if_neg (by omega)]
  have e1 : min (Int.toNat (j : Int)) k.bits = j := by simp; omega
  rw [e1, Int.fdiv_eq_ediv_of_nonneg _ (Int.pow_nonneg (by decide))]
theorem u8m (z : Int) : u8 z = z % 256 := rfl
theorem Zm5 {n : Int} (h : 1 ≤ n ∧ n ≤ 1073741824) : J9 n = some (hdL n) := by
  have st : ∀ (o : List Int) (j : Nat), j ≤ 24 → o.length ≤ 10 → Xc n o (j : Int) = some (.inl (o ++ [n / (2 : Int) ^ j % 256], (j : Int) - 8)) := by
    intro o j hj ho
    unfold Xc
    rw [if_pos (by simp), Zn9 (by show j ≤ 64; omega), Option.bind_some, Zef (by simp; omega), Option.bind_some, show i64 ((j : Int) - 8) = (j : Int) - 8 from Zt (by omega) (by omega), u8m]
  have h1 : loop (t2 (Xc n)) ([79, 66], 24) = some [79, 66, n / 16777216 % 256, n / 65536 % 256, n / 256 % 256, n % 256] := by
    refine Xy (st [79, 66] 24 (by omega) (by simp)) ?_
    refine Xy (st _ 16 (by omega) (by simp)) ?_
    refine Xy (st _ 8 (by omega) (by simp)) ?_
    refine Xy (st _ 0 (by omega) (by simp)) ?_
    refine ZeX ?_
    show Xc n _ (((0 : Nat) : Int) - 8) = _
    unfold Xc
    rw [if_neg (by decide)]
    simp
  have bx : ∀ x : Int, 0 ≤ x → x ≤ 255 → ZaL .u8 255 x = 255 - x := by
    have key : (List.range 256).all (fun n => decide (ZaL .u8 255 (n : Int) = 255 - (n : Int))) = true := by decide +kernel
    intro x h0 h1
    obtain ⟨m, rfl⟩ := Int.eq_ofNat_of_zero_le h0
    exact of_decide_eq_true (List.all_eq_true.1 key m (List.mem_range.2 (by omega)))
  unfold J9
  rw [h1]
  simp only [Option.bind_some, Q7]
  rw [show slp [79, 66, n / 16777216 % 256, n / 65536 % 256, n / 256 % 256, n % 256] 2 6 = some () from rfl, Option.bind_some]
  have st2 : ∀ (o : List Int) (j : Nat) (x : Int), j < 4 → o.length ≤ 10 → idx [79, 66, n / 16777216 % 256, n / 65536 % 256, n / 256 % 256, n % 256] (2 + (j : Int)) = some x → 0 ≤ x → x ≤ 255 →
      Xf [79, 66, n / 16777216 % 256, n / 65536 % 256, n / 256 % 256, n % 256] o (j : Int) = some (.inl (o ++ [255 - x], (j : Int) + 1)) := by
    intro o j x hj ho hx h0 h1
    unfold Xf
    have e4 : (decide ((j : Int) < ((Int.toNat (6 - 2) : Nat) : Int))) = true := by simp; omega
    have e5 : (decide ((0 : Int) ≤ (j : Int))) = true := by simp
    rw [if_pos e4, e4, e5]
    simp only [Bool.and_self, ck, if_true, Option.bind_some, hx]
    rw [Zef (by simp; omega), Option.bind_some, show i64 ((j : Int) + 1) = (j : Int) + 1 from Zt (by omega) (by omega), bx x h0 h1]
  have h2 : loop (t2 (Xf [79, 66, n / 16777216 % 256, n / 65536 % 256, n / 256 % 256, n % 256])) ([79, 66, n / 16777216 % 256, n / 65536 % 256, n / 256 % 256, n % 256], 0) = some (hdL n) := by
    refine Xy (st2 _ 0 (n / 16777216 % 256) (by omega) (by simp) rfl (by omega) (by omega)) ?_
    refine Xy (st2 _ 1 (n / 65536 % 256) (by omega) (by simp) rfl (by omega) (by omega)) ?_
    refine Xy (st2 _ 2 (n / 256 % 256) (by omega) (by simp) rfl (by omega) (by omega)) ?_
    refine Xy (st2 _ 3 (n % 256) (by omega) (by simp) rfl (by omega) (by omega)) ?_
    refine ZeX ?_
    show Xf _ _ (((3 : Nat) : Int) + 1) = _
    unfold Xf
    rw [if_neg (by decide)]
    rfl
  rw [h2]; rfl
theorem Zp4 {n : Nat} (h : n < 4294967296) : ZaL .u32 4294967295 (n : Int) = 4294967295 - (n : Int) := by
  unfold ZaL
  have e : (BitVec.ofInt IntKind.u32.bits 4294967295 ^^^ BitVec.ofInt IntKind.u32.bits (n : Int)).toNat = 4294967295 - n := by
    have h1 : BitVec.ofInt IntKind.u32.bits (n : Int) = BitVec.ofNat 32 n := BitVec.ofInt_natCast ..
    have h2 : BitVec.ofInt IntKind.u32.bits 4294967295 = BitVec.allOnes 32 := by
      show BitVec.ofInt 32 4294967295 = BitVec.allOnes 32
      decide
    rw [h1, h2]
    show (BitVec.allOnes 32 ^^^ BitVec.ofNat 32 n).toNat = _
    rw [BitVec.allOnes_xor, BitVec.toNat_not, BitVec.toNat_ofNat, Nat.mod_eq_of_lt (by omega)]
    try omega
  rw [e]
  have w : ∀ z : Int, 0 ≤ z → z < 4294967296 → IntKind.u32.wrap z = z := fun z h0 h1 => by
    show z % 4294967296 = z
    omega
  rw [w _ (by omega) (by omega)]; omega
theorem Zn1 {n : Int} (h : 1 ≤ n ∧ n ≤ 1073741824) : Zdn n = some (hdL n) := by
  have eu : u32 n = n := by
    show n % 4294967296 = n
    omega
  have ex : ZaL .u32 4294967295 (u32 n) = 4294967295 - n := by
    rw [eu]
    obtain ⟨m, rfl⟩ := Int.eq_ofNat_of_zero_le (show 0 ≤ n by omega)
    exact Zp4 (by omega)
  have st : ∀ (x : Int) (o : List Int) (j : Nat), j ≤ 24 → o.length ≤ 10 → Jb x o (j : Int) = some (.inl (o ++ [x / (2 : Int) ^ j % 256], (j : Int) - 8)) := by
    intro x o j hj ho
    unfold Jb
    rw [if_pos (by simp), Zn9 (by show j ≤ 32; omega), Option.bind_some, Zef (by simp; omega), Option.bind_some, show i64 ((j : Int) - 8) = (j : Int) - 8 from Zt (by omega) (by omega), u8m]
  have lp : ∀ (x : Int) (o : List Int), o.length ≤ 6 → loop (t2 (Jb x)) (o, 24) = some (o ++ [x / 16777216 % 256, x / 65536 % 256, x / 256 % 256, x % 256]) := by
    intro x o ho
    refine Xy (st x o 24 (by omega) (by omega)) ?_
    refine Xy (st x _ 16 (by omega) (by simp; omega)) ?_
    refine Xy (st x _ 8 (by omega) (by simp; omega)) ?_
    refine Xy (st x _ 0 (by omega) (by simp; omega)) ?_
    refine ZeX ?_
    show Jb x _ (((0 : Nat) : Int) - 8) = _
    unfold Jb
    rw [if_neg (by decide)]
    simp
  have st1 : ∀ (o : List Int) (j : Nat) (x : Int), j < 2 → o.length ≤ 6 → idx [n, 4294967295 - n] (j : Int) = some x → Jh n o (j : Int) = some (.inl (o ++ [x / 16777216 % 256, x / 65536 % 256, x / 256 % 256, x % 256], (j : Int) + 1)) := by
    intro o j x hj ho hx
    unfold Jh
    rw [ex, eu, if_pos (by simp; omega), hx, Option.bind_some, lp x o ho]
    simp only [Option.bind_some, Q7]
    rw [show i64 ((j : Int) + 1) = (j : Int) + 1 from Zt (by omega) (by omega)]
  have h1 : loop (t2 (Jh n)) ([79, 66], 0) = some (hdL n) := by
    refine Xy (st1 _ 0 n (by omega) (by simp) rfl) ?_
    refine Xy (st1 _ 1 (4294967295 - n) (by omega) (by simp) rfl) ?_
    refine ZeX ?_
    show Jh n _ (((1 : Nat) : Int) + 1) = _
    unfold Jh
    rw [ex, eu, if_neg (by simp)]
    unfold hdL
    congr 2
    simp only [List.append_assoc, List.cons_append, List.nil_append, List.cons.injEq, true_and, and_true]
    refine ⟨?_, ?_, ?_, ?_⟩ <;> omega
  unfold Zdn
  rw [h1]; rfl
theorem Zmb : ∀ {l m : List Int}, u8R l → u8R m → (ZaE l = ZaE m ↔ l = m)
  | [], [], _, _ => by simp
  | [], y :: m, _, _ => by simp [ZaE]
  | x :: l, [], _, _ => by simp [ZaE]
  | x :: l, y :: m, h1, h2 => by
    have hx := h1 x (List.mem_cons_self ..)
    have hy := h2 y (List.mem_cons_self ..)
    have ih := Zmb (l := l) (m := m) (fun z hz => h1 z (List.mem_cons_of_mem _ hz)) (fun z hz => h2 z (List.mem_cons_of_mem _ hz))
    unfold ZaE at ih ⊢
    simp only [List.map_cons, List.cons.injEq, ih]
    have : UInt8.ofNat x.toNat = UInt8.ofNat y.toNat ↔ x = y := by
      constructor
      · intro e
        have := congrArg UInt8.toNat e
        simp at this
        omega
      · rintro rfl; rfl
    rw [this]
def ZaK (s : List Int) : Int × Bool × Bool :=
  if s.length < 16 then (0, false, false) else
  let n := Zlr (s.getD 2 0) (s.getD 3 0) (s.getD 4 0) (s.getD 5 0)
  if 1 ≤ n ∧ n ≤ 1073741824 ∧ s.take 10 = hdL n then (n, !decide (s.getD 10 0 = 255), true) else (0, false, false)
theorem Zi7 {α : Type} {n : Nat} {v : Vector α n} {k : Nat} {x : α} (h : v.toList[k]? = some x) : ZK v (k : Int) = some x := by
  unfold ZK; rw [if_pos (by omega)]; simpa using h
theorem Zfu {α : Type} {xs : List α} {a b : Nat} (h1 : a ≤ b) (h2 : b ≤ xs.length) : slc xs (a : Int) (b : Int) = some ((xs.take b).drop a) := by
  unfold slc; rw [if_pos ⟨by omega, by omega, by omega⟩]; simp
theorem ZlC {α : Type} {m : Nat} {xs : List α} (h : m ≤ xs.length) : ∃ v : Vector α m, tov m xs = some v ∧ v.toList = xs.take m := by
  have : tov m xs = some ⟨(xs.take m).toArray, by simp; omega⟩ := by unfold tov; rw [dif_pos h]
  exact ⟨_, this, by simp⟩
theorem ZlI {s : List Int} (hs : u8R s) : JV s = some (ZaK s) := by
  unfold JV ZaK
  by_cases hl : s.length < 16
  · rw [if_pos (by simp; omega), if_pos hl]
  · rw [if_neg (by simp; omega), if_neg hl]
    rw [show slc s 0 16 = some (s.take 16) from (Zfu (a := 0) (b := 16) (by omega) (by omega)).trans (by simp), Option.bind_some]
    obtain ⟨v, hv, hvl⟩ := ZlC (m := 16) (xs := s.take 16) (by simp; omega)
    rw [List.take_take, Nat.min_self] at hvl
    rw [hv, Option.bind_some]
    have hg : ∀ (z : Int) (k : Nat), z = (k : Int) → k < 16 → ZK v z = some (s.getD k 0) := fun z k hz hk => by
      subst hz
      exact Zi7 (by rw [hvl, List.getElem?_take_of_lt hk]; exact Zal (by omega) 0)
    obtain ⟨q, q2, q3, e1, e2, e3, e4⟩ := Zpk (Zb0 hs 2) (Zb0 hs 3) (Zb0 hs 4) (Zb0 hs 5)
    rw [hg 2 2 rfl (by omega), Option.bind_some, e1, Option.bind_some, hg 3 3 rfl (by omega), Option.bind_some, e2, Option.bind_some, hg 4 4 rfl (by omega), Option.bind_some, e3, Option.bind_some, hg 5 5 rfl (by omega), Option.bind_some, e4, hg 10 10 rfl (by omega)]
    generalize Zlr (s.getD 2 0) (s.getD 3 0) (s.getD 4 0) (s.getD 5 0) = n
    unfold Z9
    simp only [Option.bind_some]
    by_cases hn : 1 ≤ n ∧ n ≤ 1073741824
    · have hy : (decide (1 ≤ n) && decide (n ≤ 1073741824)) = true := by simpa using hn
      rw [hy]
      simp only [Bool.not_true, gd, beq_self_eq_true, if_true, Bool.false_or]
      rw [show slc v.toList 0 10 = some (s.take 10) from (Zfu (a := 0) (b := 10) (by omega) (by simp)).trans (by rw [hvl]; simp [List.take_take])]
      simp only [Option.bind_some, Zm5 hn]
      have hlen : (s.take 10).length ≤ 10 := by rw [List.length_take]; omega
      rw [eqY (by omega), Option.bind_some]
      by_cases e : s.take 10 = hdL n
      · rw [if_neg (by simp [e]), if_pos ⟨hn.1, hn.2, e⟩]
      · rw [if_pos (by simp [e]), if_neg (fun q => e q.2.2)]
    · have hy : (decide (1 ≤ n) && decide (n ≤ 1073741824)) = false := by simpa using hn
      rw [hy]
      simp only [gd, Bool.not_false, Bool.true_eq_false, beq_iff_eq, if_false, Option.bind_some]
      rw [if_pos (by simp), if_neg (fun q => hn ⟨q.1, q.2.1⟩)]
theorem ZlS {s : List Int} (hs : u8R s) : ZcL s = some (ZaK s) := by
  unfold ZcL ZaK
  by_cases hl : s.length < 16
  · rw [if_pos (by simp; omega), if_pos hl]
  · rw [if_neg (by simp; omega), if_neg hl]
    have hg : ∀ k : Nat, k < 16 → idx s (k : Int) = some (s.getD k 0) := fun k hk => ZY (Zal (by omega) 0)
    have st : ∀ (q : Int) (k : Nat), 0 ≤ q → q ≤ 4294967295 → k < 6 → Zah s q (k : Int) = some (.inl (q * 256 + s.getD k 0, (k : Int) + 1)) := by
      intro q k h0 h1 hk
      have hb := Zb0 hs k
      unfold Zah
      rw [if_pos (by simp; omega), hg k (by omega), Option.bind_some, show i64 (s.getD k 0) = s.getD k 0 from Zt (by omega) (by omega), show i64 (q * 256) = q * 256 from Zt (by omega) (by omega),
        show i64 (q * 256 + s.getD k 0) = q * 256 + s.getD k 0 from Zt (by omega) (by omega), show i64 ((k : Int) + 1) = (k : Int) + 1 from Zt (by omega) (by omega)]
    have b2 := Zb0 hs 2
    have b3 := Zb0 hs 3
    have b4 := Zb0 hs 4
    have b5 := Zb0 hs 5
    have lp : loop (t2 (Zah s)) (0, 2) = some (Zlr (s.getD 2 0) (s.getD 3 0) (s.getD 4 0) (s.getD 5 0)) := by
      refine Xy (st 0 2 (by omega) (by omega) (by omega)) ?_
      refine Xy (st _ 3 (by omega) (by omega) (by omega)) ?_
      refine Xy (st _ 4 (by omega) (by omega) (by omega)) ?_
      refine Xy (st _ 5 (by omega) (by omega) (by omega)) ?_
      refine ZeX ?_
      show Zah s _ (((5 : Nat) : Int) + 1) = _
      unfold Zah
      rw [if_neg (by decide)]
      congr 2
      unfold Zlr; omega
    rw [lp]
    simp only [Option.bind_some, Q7]
    generalize Zlr (s.getD 2 0) (s.getD 3 0) (s.getD 4 0) (s.getD 5 0) = n
    unfold QQ
    simp only [Option.bind_some]
    rw [show idx s 10 = some (s.getD 10 0) from hg 10 (by omega)]
    by_cases hn : 1 ≤ n ∧ n ≤ 1073741824
    · have hy : (decide (n < 1) || decide (1073741824 < n)) = false := by simp; omega
      rw [hy]
      simp only [gd, beq_self_eq_true, if_true, Bool.false_or, Zn1 hn]
      rw [show slc s 0 10 = some (s.take 10) from (Zfu (a := 0) (b := 10) (by omega) (by omega)).trans (by simp)]
      simp only [Option.bind_some]
      have hiff := Zmb (l := hdL n) (m := s.take 10) (ZpI n) (fun x hx => hs x (List.mem_of_mem_take hx))
      by_cases e : s.take 10 = hdL n
      · rw [if_neg (by simp [e]), if_pos ⟨hn.1, hn.2, e⟩]
      · rw [if_pos (by simp; intro q; exact e (hiff.1 q).symm), if_neg (fun q => e q.2.2)]
    · have hy : (decide (n < 1) || decide (1073741824 < n)) = true := by simp; omega
      rw [hy]
      simp only [gd, Bool.true_eq_false, beq_iff_eq, if_false, Option.bind_some]
      rw [if_pos (by simp), if_neg (fun q => hn ⟨q.1, q.2.1⟩)]
end Go.Vx

namespace Go.Vx
open Go Go.RowKit
section
variable {key : Int → Int} {D : Int → Prop} {cmp : Int → Int → Option Int}
theorem Zlo {L A M B R : List Int} (h : A.length = B.length) (hb : (L ++ A ++ M ++ B ++ R).length ≤ 4611686018427387904) :
    ZJ (L ++ A ++ M ++ B ++ R) (L.length : Int) ((L.length + A.length + M.length : Nat) : Int) (A.length : Int) cmp = some (L ++ B ++ M ++ A ++ R) := by
  unfold ZJ
  have hb' : L.length + A.length + M.length + B.length + R.length ≤ 4611686018427387904 := by simpa [Nat.add_assoc] using hb
  refine ZpX (a := L.length) (b := L.length + A.length + M.length) (n := A.length) (fun L' M' R' x y i hi h1 h2 => ?_) (fun d => ?_) A B L M R 0 h (by omega) (by omega) (by omega)
  · unfold ZX
    have e1 : i64 ((L.length : Int) + (i : Int)) = ((L'.length : Nat) : Int) := (Zt (by omega) (by omega)).trans (by omega)
    have e2 : i64 (((L.length + A.length + M.length : Nat) : Int) + (i : Int)) = ((L'.length + 1 + M'.length : Nat) : Int) := (Zt (by omega) (by omega)).trans (by omega)
    have g1 : (L' ++ x :: M' ++ y :: R')[L'.length]? = some x := by simp
    have g2 : (L' ++ x :: M' ++ y :: R')[L'.length + 1 + M'.length]? = some y := by
      rw [List.getElem?_append_right (by simp; omega)]; simp; rw [show L'.length + 1 + M'.length - (L'.length + (M'.length + 1)) = 0 by omega]; rfl
    have g3 : ((L' ++ x :: M' ++ y :: R').set L'.length y)[L'.length + 1 + M'.length]? = some y := by
      rw [List.getElem?_set_ne (by omega)]; exact g2
    rw [if_pos (by simpa using hi), e1, e2, ZY g2, Option.bind_some, ZY g1, Option.bind_some, Option.bind_some]
    simp only [Int.toNat_natCast]
    rw [ZY g3, Option.bind_some, Zi5, show i64 ((i : Int) + 1) = (i : Int) + 1 from Zt (by omega) (by omega)]
  · unfold ZX
    rw [if_neg (by simp)]
theorem Zny {L X Y R : List Int} (hX : X ≠ []) (hY : Y ≠ []) (hb : (L ++ X ++ Y ++ R).length ≤ 4611686018427387904) :
    Qb (L ++ X ++ Y ++ R) (L.length : Int) ((L.length + X.length : Nat) : Int) ((L.length + X.length + Y.length : Nat) : Int) cmp = some (L ++ Y ++ X ++ R) := by
  have hb' : L.length + X.length + Y.length + R.length ≤ 4611686018427387904 := by simpa [Nat.add_assoc] using hb
  unfold Qb
  obtain ⟨o', i', h1, h2, h3⟩ := ZqA (body := Z7 ((L.length + X.length : Nat) : Int) cmp) (sr := fun d a b n => ZJ d a b n cmp)
    (m := L.length + X.length) (N := L.length + X.length + Y.length + R.length) (fun L A M B R h hN => Zlo h (by simp only [List.length_append]; omega)) (fun o i j hi hj => by
      unfold Z7
      have e1 : i64 (((L.length + X.length : Nat) : Int) - (i : Int)) = ((L.length + X.length - i : Nat) : Int) := (Zt (by omega) (by omega)).trans (by omega)
      have e2 : i64 (((L.length + X.length : Nat) : Int) + (j : Int)) = ((L.length + X.length + j : Nat) : Int) := (Zt (by omega) (by omega)).trans (by omega)
      have e3 : i64 (((L.length + X.length + j : Nat) : Int) - (i : Int)) = ((L.length + X.length + j - i : Nat) : Int) := (Zt (by omega) (by omega)).trans (by omega)
      rw [e1, e2, e3]
      by_cases h : i = j
      · rw [if_neg (by simp [h]), if_pos h]
      · rw [if_pos (by simp; omega), if_neg h]
        by_cases h' : j < i
        · rw [if_pos (by simpa using h'), if_pos h', show i64 ((i : Int) - (j : Int)) = ((i - j : Nat) : Int) from (Zt (by omega) (by omega)).trans (by omega)]
        · rw [if_neg (by simpa using h'), if_neg h', show i64 ((j : Int) - (i : Int)) = ((j - i : Nat) : Int) from (Zt (by omega) (by omega)).trans (by omega)]) _ X Y L R rfl hX hY rfl rfl
  have f1 : i64 (((L.length + X.length : Nat) : Int) - (L.length : Int)) = (X.length : Int) := (Zt (by omega) (by omega)).trans (by omega)
  have f2 : i64 (((L.length + X.length + Y.length : Nat) : Int) - ((L.length + X.length : Nat) : Int)) = (Y.length : Int) := (Zt (by omega) (by omega)).trans (by omega)
  have f3 : i64 (((L.length + X.length : Nat) : Int) - (i' : Int)) = ((L.length + X.length - i' : Nat) : Int) := (Zt (by omega) (by omega)).trans (by omega)
  rw [f1, f2, h1]
  simp only [Option.bind_some, QL]
  rw [f3, h3]; rfl
theorem ZkD {n : Nat} (h : n ≤ 4611686018427387904) : shr .u64 (u64 (i64 (n : Int))) 1 = some ((n / 2 : Nat) : Int) := by
  rw [show i64 (n : Int) = (n : Int) from Zt (by omega) (by omega), show u64 (n : Int) = (n : Int) from Zps (by omega) (by omega)]
  rw [show (1 : Int) = ((1 : Nat) : Int) from rfl, Zn9 (by decide)]
  congr 1
end
end Go.Vx

namespace Go.Vx
open Go Go.RowKit
section
variable {key : Int → Int} {D : Int → Prop} {cmp : Int → Int → Option Int}
theorem ZkI {L X R : List Int} {c : Nat} (h1 : L.length ≤ c) (h2 : c < L.length + X.length) : (L ++ X ++ R)[c]? = some (X.getD (c - L.length) 0) := by
  obtain ⟨t, rfl⟩ : ∃ t, c = L.length + t := ⟨c - L.length, by omega⟩
  rw [ZpL (by omega), show L.length + t - L.length = t by omega]
  exact Zal (by omega) 0
theorem Zdk {X : List Int} {t : Nat} (h : t < X.length) : X.getD t 0 ∈ X := by
  rw [List.getD_eq_getElem?_getD, List.getElem?_eq_getElem h]; exact List.getElem_mem h
theorem ZoA (hc : ∀ x y, D x → D y → ∃ c, cmp x y = some c ∧ (c < 0 ↔ key x < key y)) {L Y R : List Int} {x : Int} (hN : L.length + 1 + Y.length + R.length ≤ 1000000) (hY : Srt key Y) (hlt : ∀ y ∈ Y, x < y) (hD : ∀ z ∈ x :: Y, D z) :
    ∃ Z, ((loop (t2 (Qg (L ++ [x] ++ Y ++ R) (L.length : Int) cmp)) (((L.length + 1 : Nat) : Int), ((L.length + 1 + Y.length : Nat) : Int))) : Option Int).bind (t1 fun (i : Int) =>
      (loop (t2 (ZM i)) (L ++ [x] ++ Y ++ R, (L.length : Int))).bind (t1 fun (o : List Int) => some o)) = some (L ++ Z ++ R) ∧ Z.Perm (x :: Y) ∧ Srt key Z := by
  obtain ⟨s, h1, h2, h3, h4, h5⟩ := ZkJ (body := Qg (L ++ [x] ++ Y ++ R) (L.length : Int) cmp) (fun c => decide (key (Y.getD (c - (L.length + 1)) 0) < key x)) (lo := L.length + 1) (hi := L.length + 1 + Y.length) (by omega) (fun i j a1 a2 a3 => by
      have e1 : i64 ((i : Int) + (j : Int)) = i64 ((i + j : Nat) : Int) := by push_cast; rfl
      have e2 : i64 (((i + j) / 2 : Nat) : Int) = (((i + j) / 2 : Nat) : Int) := Zt (by omega) (by omega)
      have e3 : i64 ((((i + j) / 2 : Nat) : Int) + 1) = (((i + j) / 2 + 1 : Nat) : Int) := (Zt (by omega) (by omega)).trans (by omega)
      have g1 : (L ++ [x] ++ Y ++ R)[(i + j) / 2]? = some (Y.getD ((i + j) / 2 - (L.length + 1)) 0) := by
        have := ZkI (L := L ++ [x]) (X := Y) (R := R) (c := (i + j) / 2) (by simp; omega) (by simp; omega)
        simpa using this
      have g2 : (L ++ [x] ++ Y ++ R)[L.length]? = some x := by simp
      unfold Qg
      rw [if_pos (by simpa using a2), e1, ZkD (by omega), Option.bind_some, e2, ZY g1, Option.bind_some, ZY g2, Option.bind_some]
      obtain ⟨c, c1, c2⟩ := hc (Y.getD ((i + j) / 2 - (L.length + 1)) 0) x (hD _ (List.mem_cons_of_mem _ (Zdk (by omega)))) (hD _ (List.mem_cons_self ..))
      rw [c1, Option.bind_some, e3]
      by_cases q : key (Y.getD ((i + j) / 2 - (L.length + 1)) 0) < key x
      · rw [if_pos (by simpa using c2.2 q), if_pos (by simpa using q)]
      · rw [if_neg (by simpa using fun w => q (c2.1 w)), if_neg (by simpa using q)]) (fun i a1 a2 => by
      unfold Qg
      rw [if_neg (by simp)])
  rw [h3, Option.bind_some, Q7]
  have sU := Zp2 (body := ZM (s : Int)) (e := s - 1) (fun L' R' p q hl => by
      unfold ZM
      have e1 : i64 ((s : Int) - 1) = ((s - 1 : Nat) : Int) := (Zt (by omega) (by omega)).trans (by omega)
      have e2 : i64 ((L'.length : Int) + 1) = ((L'.length + 1 : Nat) : Int) := (Zt (by omega) (by omega)).trans (by omega)
      have g1 : (L' ++ p :: q :: R')[L'.length + 1]? = some q := by
        rw [List.getElem?_append_right (by omega)]; simp
      have g2 : (L' ++ p :: q :: R')[L'.length]? = some p := by simp
      have g3 : ((L' ++ p :: q :: R').set L'.length q)[L'.length + 1]? = some q := by rw [List.getElem?_set_ne (by omega)]; exact g1
      rw [e1, e2, if_pos (by simpa using hl), ZY g1, Option.bind_some, ZY g2, Option.bind_some, Option.bind_some]
      simp only [Int.toNat_natCast]
      rw [ZY g3, Option.bind_some]
      have := Zi5 (L := L') (M := []) (R := R') (x := p) (y := q)
      simp only [List.length_nil, Nat.add_zero, List.append_nil] at this
      rw [show L' ++ p :: q :: R' = L' ++ [p] ++ q :: R' by simp, this]
      simp) (fun d => by
      unfold ZM
      have e1 : i64 ((s : Int) - 1) = ((s - 1 : Nat) : Int) := (Zt (by omega) (by omega)).trans (by omega)
      rw [e1, if_neg (by simp)]) (Y.take (s - (L.length + 1))) L (Y.drop (s - (L.length + 1)) ++ R) x (by rw [List.length_take]; omega)
  have ed : L ++ [x] ++ Y ++ R = L ++ x :: (Y.take (s - (L.length + 1)) ++ (Y.drop (s - (L.length + 1)) ++ R)) := by
    rw [← List.append_assoc (Y.take _), List.take_append_drop]; simp
  rw [ed, sU]
  refine ⟨Y.take (s - (L.length + 1)) ++ x :: Y.drop (s - (L.length + 1)), by simp, ?_, ?_⟩
  · refine List.perm_middle.trans ?_
    rw [List.take_append_drop]
  · have hA : Srt key (Y.take (s - (L.length + 1))) := hY.sublist (List.take_sublist ..)
    have hB : Srt key (Y.drop (s - (L.length + 1))) := hY.sublist (List.drop_sublist ..)
    have hAx : ∀ a ∈ Y.take (s - (L.length + 1)), LtK key a x := by
      have := Zgl (key := key) (m := [x]) hA (List.pairwise_singleton ..) (fun a b ha hb => by
        cases hb
        rw [List.getLast?_eq_getElem?, List.length_take] at ha
        have l2 := (List.getElem?_eq_some_iff.1 ha).1
        rw [List.length_take] at l2
        rw [List.getElem?_take_of_lt (by omega)] at ha
        have q := h4 (by omega)
        rw [show s - 1 - (L.length + 1) = min (s - (L.length + 1)) Y.length - 1 by omega, List.getD_eq_getElem?_getD, ha] at q
        exact .inl (by simpa using q))
      exact fun a ha => this a ha x (List.mem_singleton.2 rfl)
    have hxB : ∀ b ∈ Y.drop (s - (L.length + 1)), LtK key x b := by
      have := Zgl (key := key) (l := [x]) (List.pairwise_singleton ..) hB (fun a b ha hb => by
        simp only [List.getLast?_singleton, Option.some.injEq] at ha
        subst ha
        rw [List.head?_drop] at hb
        have l1 := (List.getElem?_eq_some_iff.1 hb).1
        have q := h5 (by omega)
        rw [List.getD_eq_getElem?_getD, hb] at q
        simp only [Option.getD_some, decide_eq_false_iff_not] at q
        have : x < b := hlt b (List.mem_of_getElem? hb)
        unfold LtK; omega)
      exact fun b hb => this x (List.mem_singleton.2 rfl) b hb
    refine hA.app (List.pairwise_cons.2 ⟨hxB, hB⟩) fun a ha b hb => ?_
    rcases List.mem_cons.1 hb with rfl | hb
    · exact hAx a ha
    · exact (hAx a ha).trans (hxB b hb)
theorem Zm3 (hc : ∀ x y, D x → D y → ∃ c, cmp x y = some c ∧ (c < 0 ↔ key x < key y)) {L X R : List Int} {y : Int} (hN : L.length + X.length + 1 + R.length ≤ 1000000) (hX : Srt key X) (hlt : ∀ x ∈ X, x < y) (hD : ∀ z ∈ y :: X, D z) :
    ∃ Z, ((loop (t2 (Qf (L ++ X ++ [y] ++ R) ((L.length + X.length : Nat) : Int) cmp)) ((L.length : Int), ((L.length + X.length : Nat) : Int))) : Option Int).bind (t1 fun (i : Int) =>
      (loop (t2 (ZL i)) (L ++ X ++ [y] ++ R, ((L.length + X.length : Nat) : Int))).bind (t1 fun (o : List Int) => some o)) = some (L ++ Z ++ R) ∧ Z.Perm (X ++ [y]) ∧ Srt key Z := by
  obtain ⟨s, h1, h2, h3, h4, h5⟩ := ZkJ (body := Qf (L ++ X ++ [y] ++ R) ((L.length + X.length : Nat) : Int) cmp) (fun c => !decide (key y < key (X.getD (c - L.length) 0))) (lo := L.length) (hi := L.length + X.length) (by omega) (fun i j a1 a2 a3 => by
      have e1 : i64 ((i : Int) + (j : Int)) = i64 ((i + j : Nat) : Int) := by push_cast; rfl
      have e2 : i64 (((i + j) / 2 : Nat) : Int) = (((i + j) / 2 : Nat) : Int) := Zt (by omega) (by omega)
      have e3 : i64 ((((i + j) / 2 : Nat) : Int) + 1) = (((i + j) / 2 + 1 : Nat) : Int) := (Zt (by omega) (by omega)).trans (by omega)
      have g1 : (L ++ X ++ [y] ++ R)[(i + j) / 2]? = some (X.getD ((i + j) / 2 - L.length) 0) := by
        have := ZkI (L := L) (X := X) (R := [y] ++ R) (c := (i + j) / 2) (by omega) (by omega)
        simpa using this
      have g2 : (L ++ X ++ [y] ++ R)[L.length + X.length]? = some y := by
        rw [List.append_assoc, List.getElem?_append_right (by simp)]; simp
      unfold Qf
      rw [if_pos (by simpa using a2), e1, ZkD (by omega), Option.bind_some, e2, ZY g2, Option.bind_some, ZY g1, Option.bind_some]
      obtain ⟨c, c1, c2⟩ := hc y (X.getD ((i + j) / 2 - L.length) 0) (hD _ (List.mem_cons_self ..)) (hD _ (List.mem_cons_of_mem _ (Zdk (by omega))))
      rw [c1, Option.bind_some, e3]
      by_cases q : key y < key (X.getD ((i + j) / 2 - L.length) 0)
      · rw [if_neg (by simpa using c2.2 q), if_neg (by simpa using q)]
      · rw [if_pos (by simpa using fun w => q (c2.1 w)), if_pos (by simpa using q)]) (fun i a1 a2 => by
      unfold Qf
      rw [if_neg (by simp)])
  rw [h3, Option.bind_some, Q7]
  have hdl : (X.drop (s - L.length)).length = L.length + X.length - s := by rw [List.length_drop]; omega
  have htl : (X.take (s - L.length)).length = s - L.length := by rw [List.length_take]; omega
  have sD := Zql (body := ZL (s : Int)) (e := s) (N := 1000000) (fun L' R' p q hl hl2 => by
      unfold ZL
      have e1 : i64 ((L'.length : Int) + 1 - 1) = ((L'.length : Nat) : Int) := (Zt (by omega) (by omega)).trans (by omega)
      have e2 : (L'.length : Int) + 1 = ((L'.length + 1 : Nat) : Int) := by omega
      have g1 : (L' ++ p :: q :: R')[L'.length + 1]? = some q := by
        rw [List.getElem?_append_right (by omega)]; simp
      have g2 : (L' ++ p :: q :: R')[L'.length]? = some p := by simp
      have g3 : ((L' ++ p :: q :: R').set (L'.length + 1) p)[L'.length]? = some p := by rw [List.getElem?_set_ne (by omega)]; exact g2
      rw [e1, e2, if_pos (by simp; omega), ZY g2, Option.bind_some, ZY g1, Option.bind_some, Option.bind_some]
      simp only [Int.toNat_natCast]
      rw [ZY g3, Option.bind_some]
      have := Zi5 (L := L') (M := []) (R := R') (x := p) (y := q)
      simp only [List.length_nil, Nat.add_zero, List.append_nil] at this
      rw [show L' ++ p :: q :: R' = L' ++ [p] ++ q :: R' by simp, List.set_comm _ _ (by omega), this]
      simp) (fun d => by
      unfold ZL
      rw [if_neg (by simp)]) _ (X.drop (s - L.length)) (L ++ X.take (s - L.length)) R y rfl (by rw [List.length_append]; omega) (by rw [List.length_append]; omega)
  have ed : L ++ X ++ [y] ++ R = L ++ X.take (s - L.length) ++ X.drop (s - L.length) ++ y :: R := by
    rw [List.append_assoc L (X.take _), List.take_append_drop]; simp
  have el : ((L.length + X.length : Nat) : Int) = ((L ++ X.take (s - L.length)).length : Int) + ((X.drop (s - L.length)).length : Int) := by
    rw [List.length_append]; omega
  rw [ed, el, sD]
  refine ⟨X.take (s - L.length) ++ y :: X.drop (s - L.length), by simp, ?_, ?_⟩
  · refine List.perm_middle.trans ?_
    rw [List.take_append_drop]
    exact (List.perm_append_comm (l₁ := X) (l₂ := [y])).symm
  · have hA : Srt key (X.take (s - L.length)) := hX.sublist (List.take_sublist ..)
    have hB : Srt key (X.drop (s - L.length)) := hX.sublist (List.drop_sublist ..)
    have hAy : ∀ a ∈ X.take (s - L.length), LtK key a y := by
      have := Zgl (key := key) (m := [y]) hA (List.pairwise_singleton ..) (fun a b ha hb => by
        cases hb
        rw [List.getLast?_eq_getElem?, htl] at ha
        have l2 := (List.getElem?_eq_some_iff.1 ha).1
        rw [htl] at l2
        rw [List.getElem?_take_of_lt (by omega)] at ha
        have q := h4 (by omega)
        rw [show s - 1 - L.length = s - L.length - 1 by omega, List.getD_eq_getElem?_getD, ha] at q
        simp only [Option.getD_some, Bool.not_eq_true', decide_eq_false_iff_not] at q
        have : a < y := hlt a (List.mem_of_getElem? ha)
        unfold LtK; omega)
      exact fun a ha => this a ha y (List.mem_singleton.2 rfl)
    have hyB : ∀ b ∈ X.drop (s - L.length), LtK key y b := by
      have := Zgl (key := key) (l := [y]) (List.pairwise_singleton ..) hB (fun a b ha hb => by
        simp only [List.getLast?_singleton, Option.some.injEq] at ha
        subst ha
        rw [List.head?_drop] at hb
        have l1 := (List.getElem?_eq_some_iff.1 hb).1
        have q := h5 (by omega)
        rw [List.getD_eq_getElem?_getD, hb] at q
        exact .inl (by simpa using q))
      exact fun b hb => this y (List.mem_singleton.2 rfl) b hb
    refine hA.app (List.pairwise_cons.2 ⟨hyB, hB⟩) fun a ha b hb => ?_
    rcases List.mem_cons.1 hb with rfl | hb
    · exact hAy a ha
    · exact (hAy a ha).trans (hyB b hb)
end
end Go.Vx
