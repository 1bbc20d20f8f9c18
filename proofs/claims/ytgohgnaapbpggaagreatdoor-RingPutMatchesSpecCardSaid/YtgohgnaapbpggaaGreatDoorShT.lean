/- A text of the proof: a verified executor of the program form, or the contracts of the functions that the law reaches. -/
import Derived.Test.YtgohgnaapbpggaaGreatDoorShLib
set_option linter.all false
namespace Go.Vx
open Go Go.RowKit
set_option linter.unusedVariables false
structure api_Memory where
  Slots : Int
  Limit : Int
  Sectors : List (List Int)
  Wear : List Int
  Bad : List Bool
structure ring_spot where
  sector : Int
  slot : Int
structure ring_bank where
  memories : List api_Memory
  spots : List ring_spot
structure ring_Recorder where
  bank : ring_bank
  copies : Int
  frozen : Bool
  stopped : Bool
  last : Int
  some_ : Bool
structure api_Flaw where
  Word : Int
  Kind : Int
structure api_Kept where
  Memory : Int
  Sector : Int
  Sequence : Int
  Slot : Int
  Frame : Vector Int 64

noncomputable def X9 (b : List Int) : Option ((List Int) × (Int × Int)) :=
  (apy ([1, 2, 3] : List Int) b).bind fun l =>
  (apy l ([9, 8, 7, 6, 5] : List Int)).bind fun l2 =>
  (slq l2 3 (i64 (3 + (b.length : Int)))).bind fun u =>
  some (l2, (3, (i64 (3 + (b.length : Int)))))

noncomputable def ZF (n : Int) (low : Int) (high : Int) : Option Bool :=
  some ((decide (low ≤ n)) && (decide (n ≤ high)))

noncomputable def Qy (s_p : Int) (s_q : Int) (at_ : Int) (data : List Int) (o2 : List Int) (power3 : Int) (i : Int) : Option (((List Int) × Int × Int) ⊕ (Int × Bool × (List Int)) ⊕ ((List Int) × Int)) :=
  if (decide (i < (data.length : Int))) = true then
  (idx data i).bind fun x =>
  if (decide (power3 = 0)) = true then
  (ck (decide ((0 : Int) ≤ (i64 (at_ + i))) && decide ((i64 (at_ + i)) < ((Int.toNat (s_q - s_p) : Nat) : Int)))).bind fun u =>
  (idx o2 (s_p + (i64 (at_ + i)))).bind fun x3 =>
  (ck (decide ((0 : Int) ≤ (i64 (at_ + i))) && decide ((i64 (at_ + i)) < ((Int.toNat (s_q - s_p) : Nat) : Int)))).bind fun u2 =>
  (idx o2 (s_p + (i64 (at_ + i)))).bind fun x5 =>
  some (.inr (.inl (0, false, (o2.set (s_p + (i64 (at_ + i))).toNat (Q6 .u8 x3 (bor .u8 x 15))))))
  else
  (ck (decide ((0 : Int) ≤ (i64 (at_ + i))) && decide ((i64 (at_ + i)) < ((Int.toNat (s_q - s_p) : Nat) : Int)))).bind fun u3 =>
  (idx o2 (s_p + (i64 (at_ + i)))).bind fun x7 =>
  (ck (decide ((0 : Int) ≤ (i64 (at_ + i))) && decide ((i64 (at_ + i)) < ((Int.toNat (s_q - s_p) : Nat) : Int)))).bind fun u4 =>
  (idx o2 (s_p + (i64 (at_ + i)))).bind fun x9 =>
  some (.inl ((o2.set (s_p + (i64 (at_ + i))).toNat (Q6 .u8 x7 x)), (i64 (power3 - 1)), (i64 (i + 1))))
  else
  some (.inr (.inr (o2, power3)))

noncomputable def Q3 (s : List Int) (s_p : Int) (s_q : Int) (at_ : Int) (data : List Int) (power : Int) : Option (Int × Bool × (List Int)) :=
  ((loop (t3 (Qy s_p s_q at_ data)) (s, power, 0)) : Option ((Int × Bool × (List Int)) ⊕ ((List Int) × Int))).bind (Sum.elim (fun q' => some q') (t2 fun (o : List Int) (power2 : Int) =>
  some (power2, true, o)))

noncomputable def Q5 (s : List Int) (s_p : Int) (s_q : Int) (at_ : Int) (data : List Int) (power : Int) : Option (Int × Bool × Int × (List Int)) :=
  (gd ((decide (at_ < 0)) == false) false (ZF power 0 1000000000)).bind fun y =>
  if ((decide (at_ < 0)) || (!y)) = true then
  some (0, false, 9, s)
  else
  if (decide ((i64 (((Int.toNat (s_q - s_p) : Nat) : Int) - (data.length : Int))) < at_)) = true then
  some (0, false, 3, s)
  else
  (Q3 s s_p s_q at_ data power).bind fun y2 =>
  some (y2.1, y2.2.1, 0, y2.2.2)

noncomputable def QH (n : Int) (low : Int) (high : Int) : Option Bool :=
  some ((decide (n < low)) || (decide (high < n)))

noncomputable def Zdo (at_ : Int) (data : List Int) (power3 : Int) (out2 : List Int) (i : Int) : Option ((Int × (List Int) × Int) ⊕ ((List Int) × Int × Bool) ⊕ (Int × (List Int))) :=
  if (decide (i < (data.length : Int))) = true then
  (idx data i).bind fun x =>
  if (decide (power3 = 0)) = true then
  (idx out2 (i64 (at_ + i))).bind fun x2 =>
  (idx out2 (i64 (at_ + i))).bind fun x3 =>
  some (.inr (.inl ((out2.set (i64 (at_ + i)).toNat (Q6 .u8 x2 (bor .u8 x 15))), 0, false)))
  else
  (idx out2 (i64 (at_ + i))).bind fun x4 =>
  (idx out2 (i64 (at_ + i))).bind fun x5 =>
  some (.inl ((i64 (power3 - 1)), (out2.set (i64 (at_ + i)).toNat (Q6 .u8 x4 x)), (i64 (i + 1))))
  else
  some (.inr (.inr (power3, out2)))

noncomputable def ZeD (s : List Int) (at_ : Int) (data : List Int) (power : Int) : Option ((List Int) × Int × Bool) :=
  (apz 1 ([] : List Int) s).bind fun l =>
  ((loop (t3 (Zdo at_ data)) (power, l, 0)) : Option (((List Int) × Int × Bool) ⊕ (Int × (List Int)))).bind (Sum.elim (fun q' => some q') (t2 fun (power2 : Int) (out : List Int) =>
  some (out, power2, true)))

noncomputable def Zay (s : List Int) (at_ : Int) (data : List Int) (power : Int) : Option ((List Int) × Int × Bool × Int) :=
  (gd ((decide (at_ < 0)) == false) false (QH power 0 1000000000)).bind fun y =>
  if ((decide (at_ < 0)) || y) = true then
  some (s, 0, false, 9)
  else
  if ((decide ((s.length : Int) < at_)) || (decide ((i64 ((s.length : Int) - at_)) < (data.length : Int)))) = true then
  some (s, 0, false, 3)
  else
  (ZeD s at_ data power).bind fun y2 =>
  some (y2.1, y2.2.1, y2.2.2, 0)

noncomputable def XH (a : List Int) (b : List Int) : Option Bool :=
  some (decide ((ZcC a) = (ZcC b)))

noncomputable def ZaX (all : List Int) : Option Bool :=
  (slc all 0 3).bind fun l =>
  (XH l ([1, 2, 3] : List Int)).bind fun y =>
  (gd (y == true) [] (slc all (i64 ((all.length : Int) - 5)) (all.length : Int))).bind fun l2 =>
  (gd (y == true) false (XH l2 ([9, 8, 7, 6, 5] : List Int))).bind fun y2 =>
  some (y && y2)

noncomputable def ZW (s_p : Int) (q : Int) (o2 : List Int) (i : Int) : Option (((List Int) × Int) ⊕ ((List Int))) :=
  if (decide (i < ((Int.toNat ((s_p + q) - (s_p + 0)) : Nat) : Int))) = true then
  (ck (decide ((0 : Int) ≤ i) && decide (i < ((Int.toNat ((s_p + q) - (s_p + 0)) : Nat) : Int)))).bind fun u3 =>
  (idx o2 ((s_p + 0) + i)).bind fun x2 =>
  some (.inl ((o2.set ((s_p + 0) + i).toNat 255), (i64 (i + 1))))
  else
  some (.inr o2)

noncomputable def ZV (s_p : Int) (s_q : Int) (o4 : List Int) (i2 : Int) : Option (((List Int) × Int) ⊕ ((List Int))) :=
  if (decide (i2 < ((Int.toNat (s_q - s_p) : Nat) : Int))) = true then
  (ck (decide ((0 : Int) ≤ i2) && decide (i2 < ((Int.toNat (s_q - s_p) : Nat) : Int)))).bind fun u4 =>
  (idx o4 (s_p + i2)).bind fun x4 =>
  some (.inl ((o4.set (s_p + i2).toNat 255), (i64 (i2 + 1))))
  else
  some (.inr o4)

noncomputable def Qv (s : List Int) (s_p : Int) (s_q : Int) (power : Int) : Option (Int × Bool × (List Int)) :=
  if (decide (power = 0)) = true then
  (quo .i64 ((Int.toNat (s_q - s_p) : Nat) : Int) 2).bind fun q =>
  (ck (decide ((0 : Int) ≤ 0) && (decide (0 ≤ q) && decide (q ≤ ((Int.toNat (s_q - s_p) : Nat) : Int))))).bind fun u =>
  (slq s (s_p + 0) (s_p + q)).bind fun u2 =>
  ((loop (t2 (ZW s_p q)) (s, 0)) : Option (((List Int)))).bind (t1 fun (o : List Int) =>
  some ((max (i64 (power - 1)) 0), (decide (0 < power)), o))
  else
  ((loop (t2 (ZV s_p s_q)) (s, 0)) : Option (((List Int)))).bind (t1 fun (o3 : List Int) =>
  some ((max (i64 (power - 1)) 0), (decide (0 < power)), o3))

noncomputable def Qz (s : List Int) (s_p : Int) (s_q : Int) (power : Int) : Option (Int × Bool × Int × (List Int)) :=
  (ZF power 0 1000000000).bind fun y =>
  if (!y) = true then
  some (0, false, 9, s)
  else
  (Qv s s_p s_q power).bind fun y2 =>
  some (y2.1, y2.2.1, 0, y2.2.2)

noncomputable def JV (l : List Int) (out2 : List Int) (i : Int) : Option (((List Int) × Int) ⊕ ((List Int))) :=
  if (decide (i < (l.length : Int))) = true then
  (idx out2 i).bind fun x =>
  some (.inl ((out2.set i.toNat 255), (i64 (i + 1))))
  else
  some (.inr out2)

noncomputable def Zce (n : Int) : Option (List Int) :=
  (mkz 1 n 0).bind fun l =>
  ((loop (t2 (JV l)) (l, 0)) : Option (((List Int)))).bind (t1 fun (out : List Int) =>
  some out)

noncomputable def Zcj (s : List Int) (power : Int) : Option ((List Int) × Int × Bool) :=
  ((if (decide (power = 0)) = true then
  (quo .i64 (s.length : Int) 2).bind fun q =>
  some q
  else
  some (s.length : Int)) : Option ((Int))).bind (t1 fun (n : Int) =>
  (slc s n (s.length : Int)).bind fun l =>
  (Zce n).bind fun y =>
  (apz 1 y l).bind fun l2 =>
  if (decide (power = 0)) = true then
  some (l2, 0, false)
  else
  some (l2, (i64 (power - 1)), true))

noncomputable def X0 (s : List Int) (power : Int) : Option ((List Int) × Int × Bool × Int) :=
  (QH power 0 1000000000).bind fun y =>
  if y = true then
  some (s, 0, false, 9)
  else
  (Zcj s power).bind fun y2 =>
  some (y2.1, y2.2.1, y2.2.2, 0)

noncomputable def Zdj (n2 : Int) (ones2 : Int) : Option ((Int × Int) ⊕ (Int)) :=
  if (decide (0 < n2)) = true then
  (rem n2 2).bind fun q =>
  (quo .i64 n2 2).bind fun q2 =>
  some (.inl (q2, (i64 (ones2 + q))))
  else
  some (.inr ones2)

noncomputable def ZeQ (n : Int) : Option Bool :=
  ((loop (t2 (Zdj)) (n, 0)) : Option ((Int))).bind (t1 fun (ones : Int) =>
  (rem ones 2).bind fun q3 =>
  some (decide (q3 = 1)))

noncomputable def Za0 (data : Int) : Option Int :=
  (ZeQ data).bind fun y =>
  if y = true then
  some data
  else
  some (i64 (data + 2048))

noncomputable def Zat (f : Vector Int 64) : Option Int :=
  (ZO f 1).bind fun x =>
  (rem (i64 x) 2048).bind fun q =>
  (ZO f 2).bind fun x2 =>
  (rem (i64 x2) 2048).bind fun q2 =>
  some (i64 (q + (i64 (q2 * 2048))))

noncomputable def Zb8 (number : Int) : Option Int :=
  (rem number 4).bind fun q =>
  (ZO (#v[583, 1464, 2631, 3512] : Vector Int 4) q).bind fun x =>
  some x

noncomputable def Zdq (f : Vector Int 64) (x2 : Int) (i : Int) : Option ((Int × Int) ⊕ (Int)) :=
  if (decide (i ≤ 60)) = true then
  (ZO f i).bind fun x3 =>
  (rem (i64 x3) 2048).bind fun q =>
  some (.inl ((ZeH .i64 x2 q), (i64 (i + 1))))
  else
  some (.inr x2)

noncomputable def ZeG (f : Vector Int 64) : Option Int :=
  ((loop (t2 (Zdq f)) (0, 1)) : Option ((Int))).bind (t1 fun (x : Int) =>
  some x)

noncomputable def Zb6 (f : Vector Int 64) (rest2 : Int) (i : Int) : Option ((Int × Int) ⊕ (Int)) :=
  if (decide (i < 766)) = true then
  ((if (decide (i < 744)) = true then
  (quo .i64 i 12).bind fun q =>
  (ZO f q).bind fun x =>
  (rem i 12).bind fun q2 =>
  (shr .i64 (i64 x) (i64 (11 - q2))).bind fun q3 =>
  some (Q6 .i64 q3 1)
  else
  some 0) : Option ((Int))).bind (t1 fun (bit : Int) =>
  if (decide (4194304 ≤ (i64 ((i64 (rest2 * 2)) + bit)))) = true then
  some (.inl ((ZeH .i64 (i64 ((i64 (rest2 * 2)) + bit)) 6291471), (i64 (i + 1))))
  else
  some (.inl ((i64 ((i64 (rest2 * 2)) + bit)), (i64 (i + 1)))))
  else
  some (.inr rest2)

noncomputable def Zc7 (f : Vector Int 64) : Option Int :=
  ((loop (t2 (Zb6 f)) (0, 0)) : Option ((Int))).bind (t1 fun (rest : Int) =>
  some rest)

noncomputable def Zbh (f : Vector Int 64) : Option (Vector Int 64) :=
  (Zc7 f).bind fun y =>
  (quo .i64 y 2048).bind fun q =>
  (Za0 q).bind fun y2 =>
  (rem y 2048).bind fun q2 =>
  (Za0 q2).bind fun y3 =>
  (ZO f 62).bind fun x =>
  (ZO (X4 f 62 (u16 y2)) 63).bind fun x2 =>
  some (X4 (X4 f 62 (u16 y2)) 63 (u16 y3))

noncomputable def Zbd (f3 : Vector Int 64) (i : Int) : Option (((Vector Int 64) × Int) ⊕ ((Vector Int 64))) :=
  if (decide (i ≤ 60)) = true then
  (ZO f3 i).bind fun x =>
  (rem (i64 x) 2048).bind fun q =>
  (Za0 q).bind fun y =>
  (ZO f3 i).bind fun x2 =>
  some (.inl ((X4 f3 i (u16 y)), (i64 (i + 1))))
  else
  some (.inr f3)

noncomputable def Zch (f : Vector Int 64) : Option (Vector Int 64) :=
  ((loop (t2 (Zbd)) (f, 1)) : Option (((Vector Int 64)))).bind (t1 fun (f2 : Vector Int 64) =>
  (Zat f2).bind fun y2 =>
  (Zb8 y2).bind fun y3 =>
  (ZO f2 0).bind fun x3 =>
  (ZeG (X4 f2 0 (u16 y3))).bind fun y4 =>
  (Za0 y4).bind fun y5 =>
  (ZO (X4 f2 0 (u16 y3)) 61).bind fun x4 =>
  (Zbh (X4 (X4 f2 0 (u16 y3)) 61 (u16 y5))).bind fun y6 =>
  some y6)

noncomputable def Zdi (data : List Int) (f2 : Vector Int 64) (i : Int) : Option (((Vector Int 64) × Int) ⊕ ((Vector Int 64) × Int) ⊕ ((Vector Int 64))) :=
  if (decide (i < (data.length : Int))) = true then
  (idx data i).bind fun x3 =>
  if ((decide (x3 < 0)) || (decide (2047 < x3))) = true then
  some (.inr (.inl ((#v[0, 0, 0, 0, 0, 0, 0, 0, 0, 0, 0, 0, 0, 0, 0, 0, 0, 0, 0, 0, 0, 0, 0, 0, 0, 0, 0, 0, 0, 0, 0, 0, 0, 0, 0, 0, 0, 0, 0, 0, 0, 0, 0, 0, 0, 0, 0, 0, 0, 0, 0, 0, 0, 0, 0, 0, 0, 0, 0, 0, 0, 0, 0, 0] : Vector Int 64), 9)))
  else
  (ZO f2 (i64 (3 + i))).bind fun x4 =>
  some (.inl ((X4 f2 (i64 (3 + i)) (u16 x3)), (i64 (i + 1))))
  else
  some (.inr (.inr f2))

noncomputable def ZeP (number : Int) (data : List Int) : Option ((Vector Int 64) × Int) :=
  if ((decide (number < 0)) || (decide (4194304 ≤ number))) = true then
  some ((#v[0, 0, 0, 0, 0, 0, 0, 0, 0, 0, 0, 0, 0, 0, 0, 0, 0, 0, 0, 0, 0, 0, 0, 0, 0, 0, 0, 0, 0, 0, 0, 0, 0, 0, 0, 0, 0, 0, 0, 0, 0, 0, 0, 0, 0, 0, 0, 0, 0, 0, 0, 0, 0, 0, 0, 0, 0, 0, 0, 0, 0, 0, 0, 0] : Vector Int 64), 9)
  else
  if (!decide ((data.length : Int) = 58)) = true then
  some ((#v[0, 0, 0, 0, 0, 0, 0, 0, 0, 0, 0, 0, 0, 0, 0, 0, 0, 0, 0, 0, 0, 0, 0, 0, 0, 0, 0, 0, 0, 0, 0, 0, 0, 0, 0, 0, 0, 0, 0, 0, 0, 0, 0, 0, 0, 0, 0, 0, 0, 0, 0, 0, 0, 0, 0, 0, 0, 0, 0, 0, 0, 0, 0, 0] : Vector Int 64), 3)
  else
  (rem number 2048).bind fun q =>
  (quo .i64 number 2048).bind fun q2 =>
  (ZO (#v[0, 0, 0, 0, 0, 0, 0, 0, 0, 0, 0, 0, 0, 0, 0, 0, 0, 0, 0, 0, 0, 0, 0, 0, 0, 0, 0, 0, 0, 0, 0, 0, 0, 0, 0, 0, 0, 0, 0, 0, 0, 0, 0, 0, 0, 0, 0, 0, 0, 0, 0, 0, 0, 0, 0, 0, 0, 0, 0, 0, 0, 0, 0, 0] : Vector Int 64) 1).bind fun x =>
  (ZO (X4 (#v[0, 0, 0, 0, 0, 0, 0, 0, 0, 0, 0, 0, 0, 0, 0, 0, 0, 0, 0, 0, 0, 0, 0, 0, 0, 0, 0, 0, 0, 0, 0, 0, 0, 0, 0, 0, 0, 0, 0, 0, 0, 0, 0, 0, 0, 0, 0, 0, 0, 0, 0, 0, 0, 0, 0, 0, 0, 0, 0, 0, 0, 0, 0, 0] : Vector Int 64) 1 (u16 q)) 2).bind fun x2 =>
  ((loop (t2 (Zdi data)) ((X4 (X4 (#v[0, 0, 0, 0, 0, 0, 0, 0, 0, 0, 0, 0, 0, 0, 0, 0, 0, 0, 0, 0, 0, 0, 0, 0, 0, 0, 0, 0, 0, 0, 0, 0, 0, 0, 0, 0, 0, 0, 0, 0, 0, 0, 0, 0, 0, 0, 0, 0, 0, 0, 0, 0, 0, 0, 0, 0, 0, 0, 0, 0, 0, 0, 0, 0] : Vector Int 64) 1 (u16 q)) 2 (u16 q2)), 0)) : Option (((Vector Int 64) × Int) ⊕ ((Vector Int 64)))).bind (Sum.elim (fun q' => some q') (t1 fun (f : Vector Int 64) =>
  (Zch f).bind fun y =>
  some (y, 0)))

noncomputable def Xq (slots : Int) : Option Int :=
  some (i64 (16 + (i64 (slots * 97))))

noncomputable def ZcT (x : Int) (y : Int) : Option (Int × Int) :=
  (shr .u64 x 32).bind fun q =>
  (shr .u64 y 32).bind fun q2 =>
  (shr .u64 (u64 ((Q6 .u64 x 4294967295) * (Q6 .u64 y 4294967295))) 32).bind fun q3 =>
  (shr .u64 (u64 ((u64 (q * (Q6 .u64 y 4294967295))) + q3)) 32).bind fun q4 =>
  (shr .u64 (u64 ((Q6 .u64 (u64 ((u64 (q * (Q6 .u64 y 4294967295))) + q3)) 4294967295) + (u64 ((Q6 .u64 x 4294967295) * q2)))) 32).bind fun q5 =>
  some ((u64 ((u64 ((u64 (q * q2)) + q4)) + q5)), (u64 (x * y)))

noncomputable def ZeA (x : Int) (y : Int) : Option (Int × Int) :=
  (ZcT x y).bind fun y2 =>
  some (y2.1, y2.2)

noncomputable def QN (newslice2 : List Int) (n : Int) : Option (((List Int) × Int) ⊕ ((List Int))) :=
  if (decide (n < (newslice2.length : Int))) = true then
  (slq newslice2 n (newslice2.length : Int)).bind fun u =>
  (slq newslice2 0 n).bind fun u2 =>
  some (.inl ((cpy newslice2 n.toNat (Int.toNat ((newslice2.length : Int) - n)) (Int.toNat 0) (Int.toNat (n - 0))), (i64 (n + ((min (Int.toNat (n - 0)) (Int.toNat ((newslice2.length : Int) - n)) : Nat) : Int)))))
  else
  some (.inr newslice2)

noncomputable def QI (x : List Int) (count : Int) : Option (List Int) :=
  if (decide (count < 0)) = true then
  none
  else
  (ZeA (u64 (x.length : Int)) (u64 count)).bind fun y =>
  if ((decide (0 < y.1)) || (decide (9223372036854775807 < y.2))) = true then
  none
  else
  (mks (i64 y.2) 0).bind fun l =>
  ((loop (t2 (QN)) ((Zhc l x), ((min x.length l.length : Nat) : Int))) : Option (((List Int)))).bind (t1 fun (newslice : List Int) =>
  some newslice)

noncomputable def JI (sectors : Int) (slots : Int) (Sectors2 : List (List Int)) (i : Int) : Option (((List (List Int)) × Int) ⊕ ((List (List Int)))) :=
  if (decide (i < sectors)) = true then
  (((Xq slots).bind fun y4 =>
  (QI ([255] : List Int) y4).bind fun y5 =>
  (apz 24 Sectors2 [y5]).bind fun l3 =>
  some l3) : Option (((List (List Int))))).bind (t1 fun (Sectors3 : List (List Int)) =>
  some (.inl (Sectors3, (i64 (i + 1)))))
  else
  some (.inr Sectors2)

noncomputable def JW (sectors : Int) (slots : Int) (limit : Int) : Option (api_Memory × Int) :=
  (ZF sectors 2 64).bind fun y =>
  (gd ((!y) == false) false (ZF slots 1 64)).bind fun y2 =>
  (gd (((!y) || (!y2)) == false) false (ZF limit 1 1000000)).bind fun y3 =>
  if (((!y) || (!y2)) || (!y3)) = true then
  some ((api_Memory.mk 0 0 [] [] []), 9)
  else
  (((mkz 8 sectors 0).bind fun l =>
  (mkz 1 sectors false).bind fun l2 =>
  some (l, l2)) : Option (((List Int) × (List Bool)))).bind (t2 fun (Wear : List Int) (Bad : List Bool) =>
  ((loop (t2 (JI sectors slots)) ([], 0)) : Option (((List (List Int))))).bind (t1 fun (Sectors : List (List Int)) =>
  some ((api_Memory.mk slots limit Sectors Wear Bad), 0)))

noncomputable def XZ (m : api_Memory) (i : Int) : Option ((Int) ⊕ (Int) ⊕ (Unit)) :=
  if (decide (i < (m.Sectors.length : Int))) = true then
  (idx m.Sectors i).bind fun x =>
  (Xq m.Slots).bind fun y4 =>
  if (!decide ((x.length : Int) = y4)) = true then
  some (.inr (.inl 3))
  else
  (idx m.Wear i).bind fun x2 =>
  (ZF x2 0 m.Limit).bind fun y5 =>
  if (!y5) = true then
  some (.inr (.inl 9))
  else
  some (.inl (i64 (i + 1)))
  else
  some (.inr (.inr ()))

noncomputable def X3 (m : api_Memory) : Option Int :=
  (ZF m.Slots 1 64).bind fun y =>
  (gd ((!y) == false) false (ZF m.Limit 1 1000000)).bind fun y2 =>
  (gd (((!y) || (!y2)) == false) false (ZF (m.Sectors.length : Int) 2 64)).bind fun y3 =>
  if (((!y) || (!y2)) || (!y3)) = true then
  some 9
  else
  if ((!decide ((m.Wear.length : Int) = (m.Sectors.length : Int))) || (!decide ((m.Bad.length : Int) = (m.Sectors.length : Int)))) = true then
  some 2
  else
  ((loop (t1 (XZ m)) 0) : Option ((Int) ⊕ (Unit))).bind (Sum.elim (fun q' => some q') (t0 (some 0)))

noncomputable def JY (l : List api_Memory) (i : Int) : Option ((Int) ⊕ (Int) ⊕ (Unit)) :=
  if (decide (i < (l.length : Int))) = true then
  (idx l i).bind fun x =>
  (X3 x).bind fun y2 =>
  if (!decide (y2 = 0)) = true then
  some (.inr (.inl y2))
  else
  some (.inl (i64 (i + 1)))
  else
  some (.inr (.inr ()))

noncomputable def JA (l : List api_Memory) : Option Int :=
  (ZF (l.length : Int) 1 8).bind fun y =>
  if (!y) = true then
  some 3
  else
  ((loop (t1 (JY l)) 0) : Option ((Int) ⊕ (Unit))).bind (Sum.elim (fun q' => some q') (t0 (some 0)))

noncomputable def Jq (m : api_Memory) (sectors2 : List (List Int)) (i : Int) : Option (((List (List Int)) × Int) ⊕ ((List (List Int)))) :=
  if (decide (i < (m.Sectors.length : Int))) = true then
  (idx m.Sectors i).bind fun x =>
  (Zee 1 x).bind fun y =>
  (apz 24 sectors2 [y]).bind fun l =>
  some (.inl (l, (i64 (i + 1))))
  else
  some (.inr sectors2)

noncomputable def Ju (m : api_Memory) : Option api_Memory :=
  ((loop (t2 (Jq m)) ([], 0)) : Option (((List (List Int))))).bind (t1 fun (sectors : List (List Int)) =>
  (Zee 8 m.Wear).bind fun y2 =>
  (Zee 1 m.Bad).bind fun y3 =>
  some (api_Memory.mk m.Slots m.Limit sectors y2 y3))

noncomputable def Jx (l : List api_Memory) (out2 : List api_Memory) (i : Int) : Option (((List api_Memory) × Int) ⊕ ((List api_Memory))) :=
  if (decide (i < (l.length : Int))) = true then
  (idx l i).bind fun x =>
  (Ju x).bind fun y =>
  (apz 88 out2 [y]).bind fun l2 =>
  some (.inl (l2, (i64 (i + 1))))
  else
  some (.inr out2)

noncomputable def XK (l : List api_Memory) : Option (List api_Memory) :=
  ((loop (t2 (Jx l)) ([], 0)) : Option (((List api_Memory)))).bind (t1 fun (out : List api_Memory) =>
  some out)

noncomputable def Zbq (sequence : Int) (out2 : List Int) (shift : Int) : Option (((List Int) × Int) ⊕ ((List Int))) :=
  if (decide (0 ≤ shift)) = true then
  (shr .i64 sequence shift).bind fun q =>
  (apz 1 out2 ([(u8 q)] : List Int)).bind fun l =>
  some (.inl (l, (i64 (shift - 8))))
  else
  some (.inr out2)

noncomputable def Zbj (out : List Int) (out4 : List Int) (i : Int) : Option (((List Int) × Int) ⊕ ((List Int))) :=
  if (decide (i < ((Int.toNat (6 - 2) : Nat) : Int))) = true then
  (ck (decide ((0 : Int) ≤ i) && decide (i < ((Int.toNat (6 - 2) : Nat) : Int)))).bind fun u2 =>
  (idx out (2 + i)).bind fun x2 =>
  (apz 1 out4 ([(ZeH .u8 255 x2)] : List Int)).bind fun l2 =>
  some (.inl (l2, (i64 (i + 1))))
  else
  some (.inr out4)

noncomputable def ZaV (sequence : Int) : Option (List Int) :=
  ((loop (t2 (Zbq sequence)) (([79, 66] : List Int), 24)) : Option (((List Int)))).bind (t1 fun (out : List Int) =>
  (((slp out 2 6).bind fun u =>
  loop (t2 (Zbj out)) (out, 0)) : Option (((List Int)))).bind (t1 fun (out3 : List Int) =>
  some out3))

noncomputable def QV (s1 : List Int) (s2 : List Int) (i : Int) : Option ((Int) ⊕ (Bool) ⊕ (Unit)) :=
  if (decide (i < (s1.length : Int))) = true then
  (idx s1 i).bind fun x =>
  (idx s2 i).bind fun x2 =>
  if (!decide (x = x2)) = true then
  some (.inr (.inl false))
  else
  some (.inl (i64 (i + 1)))
  else
  some (.inr (.inr ()))

noncomputable def QM (s1 : List Int) (s2 : List Int) : Option Bool :=
  if (!decide ((s1.length : Int) = (s2.length : Int))) = true then
  some false
  else
  ((loop (t1 (QV s1 s2)) 0) : Option ((Bool) ⊕ (Unit))).bind (Sum.elim (fun q' => some q') (t0 (some true)))

noncomputable def J7 (s : List Int) : Option (Int × Bool × Bool) :=
  if (decide ((s.length : Int) < 16)) = true then
  some (0, false, false)
  else
  (slc s 0 16).bind fun l =>
  (tov 16 l).bind fun v =>
  (ZO v 2).bind fun x =>
  (shl .i64 (i64 x) 24).bind fun q =>
  (ZO v 3).bind fun x2 =>
  (shl .i64 (i64 x2) 16).bind fun q2 =>
  (ZO v 4).bind fun x3 =>
  (shl .i64 (i64 x3) 8).bind fun q3 =>
  (ZO v 5).bind fun x4 =>
  (ZF (bor .i64 (bor .i64 (bor .i64 q q2) q3) (i64 x4)) 1 1073741824).bind fun y =>
  (gd ((!y) == false) [] (slc v.toList 0 10)).bind fun l2 =>
  (gd ((!y) == false) [] (ZaV (bor .i64 (bor .i64 (bor .i64 q q2) q3) (i64 x4)))).bind fun y2 =>
  (gd ((!y) == false) false (QM l2 y2)).bind fun y3 =>
  if ((!y) || (!y3)) = true then
  some (0, false, false)
  else
  (ZO v 10).bind fun x5 =>
  some ((bor .i64 (bor .i64 (bor .i64 q q2) q3) (i64 x4)), (!decide (x5 = 255)), true)

noncomputable def ZA (a : Int) (cmp : Int → Int → Option Int) (o3 : List Int) (j : Int) : Option (((List Int) × Int) ⊕ ((List Int))) :=
  (gd ((decide (a < j)) == true) 0 (idx o3 j)).bind fun x =>
  (gd ((decide (a < j)) == true) 0 (idx o3 (i64 (j - 1)))).bind fun x2 =>
  (gd ((decide (a < j)) == true) 0 (cmp x x2)).bind fun y =>
  if ((decide (a < j)) && (decide (y < 0))) = true then
  (idx o3 (i64 (j - 1))).bind fun x3 =>
  (idx o3 j).bind fun x4 =>
  (idx o3 j).bind fun x5 =>
  (idx (o3.set j.toNat x3) (i64 (j - 1))).bind fun x6 =>
  some (.inl (((o3.set j.toNat x3).set (i64 (j - 1)).toNat x4), (i64 (j - 1))))
  else
  some (.inr o3)

noncomputable def ZB (a : Int) (b : Int) (cmp : Int → Int → Option Int) (o : List Int) (i : Int) : Option (((List Int) × Int) ⊕ ((List Int))) :=
  if (decide (i < b)) = true then
  ((loop (t2 (ZA a cmp)) (o, i)) : Option (((List Int)))).bind (t1 fun (o2 : List Int) =>
  some (.inl (o2, (i64 (i + 1)))))
  else
  some (.inr o)

noncomputable def Zz (data : List Int) (a : Int) (b : Int) (cmp : Int → Int → Option Int) : Option (List Int) :=
  loop (t2 (ZB a b cmp)) (data, (i64 (a + 1)))

noncomputable def Z4 (a : Int) (b : Int) (n : Int) (o : List Int) (i : Int) : Option (((List Int) × Int) ⊕ ((List Int))) :=
  if (decide (i < n)) = true then
  (idx o (i64 (b + i))).bind fun x =>
  (idx o (i64 (a + i))).bind fun x2 =>
  (idx o (i64 (a + i))).bind fun x3 =>
  (idx (o.set (i64 (a + i)).toNat x) (i64 (b + i))).bind fun x4 =>
  some (.inl (((o.set (i64 (a + i)).toNat x).set (i64 (b + i)).toNat x2), (i64 (i + 1))))
  else
  some (.inr o)

noncomputable def ZS (data : List Int) (a : Int) (b : Int) (n : Int) (cmp : Int → Int → Option Int) : Option (List Int) :=
  loop (t2 (Z4 a b n)) (data, 0)

noncomputable def Qn (m : Int) (cmp : Int → Int → Option Int) (o2 : List Int) (i2 : Int) (j : Int) : Option (((List Int) × Int × Int) ⊕ ((List Int) × Int)) :=
  if (!decide (i2 = j)) = true then
  if (decide (j < i2)) = true then
  (ZS o2 (i64 (m - i2)) m j cmp).bind fun y =>
  some (.inl (y, (i64 (i2 - j)), j))
  else
  (ZS o2 (i64 (m - i2)) (i64 ((i64 (m + j)) - i2)) i2 cmp).bind fun y2 =>
  some (.inl (y2, i2, (i64 (j - i2))))
  else
  some (.inr (o2, i2))

noncomputable def QG (data : List Int) (a : Int) (m : Int) (b : Int) (cmp : Int → Int → Option Int) : Option (List Int) :=
  ((loop (t3 (Qn m cmp)) (data, (i64 (m - a)), (i64 (b - m)))) : Option (((List Int) × Int))).bind (t2 fun (o : List Int) (i : Int) =>
  (ZS o (i64 (m - i)) m i cmp).bind fun y3 =>
  some y3)

noncomputable def Jc (data : List Int) (a : Int) (cmp : Int → Int → Option Int) (i2 : Int) (j : Int) : Option ((Int × Int) ⊕ (Int)) :=
  if (decide (i2 < j)) = true then
  (shr .u64 (u64 (i64 (i2 + j))) 1).bind fun q =>
  (idx data (i64 q)).bind fun x =>
  (idx data a).bind fun x2 =>
  (cmp x x2).bind fun y =>
  if (decide (y < 0)) = true then
  some (.inl ((i64 ((i64 q) + 1)), j))
  else
  some (.inl (i2, (i64 q)))
  else
  some (.inr i2)

noncomputable def Z9 (i : Int) (o2 : List Int) (k : Int) : Option (((List Int) × Int) ⊕ ((List Int))) :=
  if (decide (k < (i64 (i - 1)))) = true then
  (idx o2 (i64 (k + 1))).bind fun x3 =>
  (idx o2 k).bind fun x4 =>
  (idx o2 k).bind fun x5 =>
  (idx (o2.set k.toNat x3) (i64 (k + 1))).bind fun x6 =>
  some (.inl (((o2.set k.toNat x3).set (i64 (k + 1)).toNat x4), (i64 (k + 1))))
  else
  some (.inr o2)

noncomputable def Jd (data : List Int) (m : Int) (cmp : Int → Int → Option Int) (i4 : Int) (j2 : Int) : Option ((Int × Int) ⊕ (Int)) :=
  if (decide (i4 < j2)) = true then
  (shr .u64 (u64 (i64 (i4 + j2))) 1).bind fun q2 =>
  (idx data m).bind fun x7 =>
  (idx data (i64 q2)).bind fun x8 =>
  (cmp x7 x8).bind fun y2 =>
  if (!(decide (y2 < 0))) = true then
  some (.inl ((i64 ((i64 q2) + 1)), j2))
  else
  some (.inl (i4, (i64 q2)))
  else
  some (.inr i4)

noncomputable def Qc (i3 : Int) (o4 : List Int) (k2 : Int) : Option (((List Int) × Int) ⊕ ((List Int))) :=
  if (decide (i3 < k2)) = true then
  (idx o4 (i64 (k2 - 1))).bind fun x9 =>
  (idx o4 k2).bind fun x10 =>
  (idx o4 k2).bind fun x11 =>
  (idx (o4.set k2.toNat x9) (i64 (k2 - 1))).bind fun x12 =>
  some (.inl (((o4.set k2.toNat x9).set (i64 (k2 - 1)).toNat x10), (i64 (k2 - 1))))
  else
  some (.inr o4)

noncomputable def Je (data : List Int) (m : Int) (cmp : Int → Int → Option Int) (q3 : Int) (start3 : Int) (r_2 : Int) : Option ((Int × Int) ⊕ (Int)) :=
  if (decide (start3 < r_2)) = true then
  (shr .u64 (u64 (i64 (start3 + r_2))) 1).bind fun q4 =>
  (idx data (i64 ((i64 ((i64 ((i64 q3) + m)) - 1)) - (i64 q4)))).bind fun x13 =>
  (idx data (i64 q4)).bind fun x14 =>
  (cmp x13 x14).bind fun y3 =>
  if (!(decide (y3 < 0))) = true then
  some (.inl ((i64 ((i64 q4) + 1)), r_2))
  else
  some (.inl (start3, (i64 q4)))
  else
  some (.inr start3)

noncomputable def Qi (rec_ : List Int → Int → Int → Int → (Int → Int → Option Int) → Option (List Int)) (data : List Int) (a : Int) (m : Int) (b : Int) (cmp : Int → Int → Option Int) : Option (List Int) :=
  if (decide ((i64 (m - a)) = 1)) = true then
  ((loop (t2 (Jc data a cmp)) (m, b)) : Option ((Int))).bind (t1 fun (i : Int) =>
  ((loop (t2 (Z9 i)) (data, a)) : Option (((List Int)))).bind (t1 fun (o : List Int) =>
  some o))
  else
  if (decide ((i64 (b - m)) = 1)) = true then
  ((loop (t2 (Jd data m cmp)) (a, m)) : Option ((Int))).bind (t1 fun (i3 : Int) =>
  ((loop (t2 (Qc i3)) (data, m)) : Option (((List Int)))).bind (t1 fun (o3 : List Int) =>
  some o3))
  else
  (shr .u64 (u64 (i64 (a + b))) 1).bind fun q3 =>
  ((if (decide ((i64 q3) < m)) = true then
  some ((i64 ((i64 ((i64 q3) + m)) - b)), (i64 q3))
  else
  some (a, m)) : Option ((Int × Int))).bind (t2 fun (start : Int) (r_ : Int) =>
  ((loop (t2 (Je data m cmp q3)) (start, r_)) : Option ((Int))).bind (t1 fun (start2 : Int) =>
  ((if ((decide (start2 < m)) && (decide (m < (i64 ((i64 ((i64 q3) + m)) - start2))))) = true then
  (QG data start2 m (i64 ((i64 ((i64 q3) + m)) - start2)) cmp).bind fun y4 =>
  some y4
  else
  some data) : Option (((List Int)))).bind (t1 fun (o5 : List Int) =>
  ((if ((decide (a < start2)) && (decide (start2 < (i64 q3)))) = true then
  (rec_ o5 a start2 (i64 q3) cmp).bind fun y5 =>
  some y5
  else
  some o5) : Option (((List Int)))).bind (t1 fun (o6 : List Int) =>
  if ((decide ((i64 q3) < (i64 ((i64 ((i64 q3) + m)) - start2)))) && (decide ((i64 ((i64 ((i64 q3) + m)) - start2)) < b))) = true then
  (rec_ o6 (i64 q3) (i64 ((i64 ((i64 q3) + m)) - start2)) b cmp).bind fun y6 =>
  some y6
  else
  some o6))))

noncomputable def Z2 (n_ : Nat) : List Int → Int → Int → Int → (Int → Int → Option Int) → Option (List Int) :=
  Nat.rec (motive := fun _ => List Int → Int → Int → Int → (Int → Int → Option Int) → Option (List Int)) (fun _ _ _ _ _ => none) (fun _ ih => Qi ih) n_

noncomputable def ZP (n : Int) (cmp : Int → Int → Option Int) (o2 : List Int) (a2 : Int) (b : Int) : Option (((List Int) × Int × Int) ⊕ ((List Int) × Int)) :=
  if (decide (b ≤ n)) = true then
  (Zz o2 a2 b cmp).bind fun y =>
  some (.inl (y, b, (i64 (b + 20))))
  else
  some (.inr (o2, a2))

noncomputable def ZG (n : Int) (cmp : Int → Int → Option Int) (blockSize : Int) (o5 : List Int) (a4 : Int) (b2 : Int) : Option (((List Int) × Int × Int) ⊕ ((List Int) × Int)) :=
  if (decide (b2 ≤ n)) = true then
  (Z2 100 o5 a4 (i64 (a4 + blockSize)) b2 cmp).bind fun y3 =>
  some (.inl (y3, b2, (i64 (b2 + (i64 (2 * blockSize))))))
  else
  some (.inr (o5, a4))

noncomputable def ZQ (n : Int) (cmp : Int → Int → Option Int) (o3 : List Int) (blockSize : Int) : Option (((List Int) × Int) ⊕ ((List Int))) :=
  if (decide (blockSize < n)) = true then
  ((loop (t3 (ZG n cmp blockSize)) (o3, 0, (i64 (2 * blockSize)))) : Option (((List Int) × Int))).bind (t2 fun (o4 : List Int) (a3 : Int) =>
  if (decide ((i64 (a3 + blockSize)) < n)) = true then
  (Z2 100 o4 a3 (i64 (a3 + blockSize)) n cmp).bind fun y4 =>
  some (.inl (y4, (i64 (blockSize * 2))))
  else
  some (.inl (o4, (i64 (blockSize * 2)))))
  else
  some (.inr o3)

noncomputable def ZX (data : List Int) (n : Int) (cmp : Int → Int → Option Int) : Option (List Int) :=
  ((loop (t3 (ZP n cmp)) (data, 0, 20)) : Option (((List Int) × Int))).bind (t2 fun (o : List Int) (a : Int) =>
  (Zz o a n cmp).bind fun y2 =>
  loop (t2 (ZQ n cmp)) (y2, 20))

noncomputable def ZK (x : List Int) (cmp : Int → Int → Option Int) : Option (List Int) :=
  (ZX x (x.length : Int) cmp).bind fun y =>
  some y

noncomputable def X7 (i : Int) (c0 : api_Memory) : Option Int :=
  (idx c0.Sectors i).bind fun x =>
  (J7 x).bind fun y =>
  some y.1

noncomputable def JQ (a : Int) (b : Int) (k : api_Memory) : Option Int :=
  (X7 a k).bind fun y =>
  (X7 b k).bind fun y2 =>
  some (i64 (y - y2))

noncomputable def ZaG (m : api_Memory) (out2 : List Int) (i : Int) : Option (((List Int) × Int) ⊕ ((List Int))) :=
  if (decide (i < (m.Sectors.length : Int))) = true then
  (idx m.Sectors i).bind fun x =>
  (J7 x).bind fun y =>
  (gd (y.2.2 == true) false (idx m.Bad i)).bind fun x2 =>
  if (y.2.2 && (!x2)) = true then
  (apz 8 out2 ([i] : List Int)).bind fun l =>
  some (.inl (l, (i64 (i + 1))))
  else
  some (.inl (out2, (i64 (i + 1))))
  else
  some (.inr out2)

noncomputable def Zaa (m : api_Memory) : Option (List Int) :=
  ((loop (t2 (ZaG m)) ([], 0)) : Option (((List Int)))).bind (t1 fun (out : List Int) =>
  (ZK out (fun z0 z1 => JQ z0 z1 m)).bind fun y2 =>
  some y2)

noncomputable def ZaY (s : List Int) (i : Int) : Option (Vector Int 97) :=
  (slc s (i64 (16 + (i64 (i * 97)))) (i64 ((i64 (16 + (i64 (i * 97)))) + 97))).bind fun l =>
  (tov 97 l).bind fun v =>
  some v

noncomputable def QF (s : List Int) (f : Int → Option Bool) (i : Int) : Option ((Int) ⊕ (Int) ⊕ (Unit)) :=
  if (decide (i < (s.length : Int))) = true then
  (idx s i).bind fun x =>
  (f x).bind fun y =>
  if y = true then
  some (.inr (.inl i))
  else
  some (.inl (i64 (i + 1)))
  else
  some (.inr (.inr ()))

noncomputable def Qq (s : List Int) (f : Int → Option Bool) : Option Int :=
  ((loop (t1 (QF s f)) 0) : Option ((Int) ⊕ (Unit))).bind (Sum.elim (fun q' => some q') (t0 (some (-1))))

noncomputable def Qa (s : List Int) (f : Int → Option Bool) : Option Bool :=
  (Qq s f).bind fun y =>
  some (decide (0 ≤ y))

noncomputable def JX (b : Int) : Option Bool :=
  some (!decide (b = 255))

noncomputable def Zad (p : Vector Int 97) : Option Int :=
  (ZO p 96).bind fun x =>
  if (decide (x = 0)) = true then
  some 1
  else
  (slc p.toList 0 (97 : Int)).bind fun l =>
  (Qa l (fun z0 => JX z0)).bind fun y =>
  if y = true then
  some 2
  else
  some 0

noncomputable def Zaf (m : api_Memory) (x : Int) (slot2 : Int) (i : Int) : Option ((Int × Int) ⊕ (Int)) :=
  if (decide (i < m.Slots)) = true then
  (idx m.Sectors x).bind fun x2 =>
  (ZaY x2 i).bind fun y2 =>
  (Zad y2).bind fun y3 =>
  if (!decide (y3 = 0)) = true then
  some (.inl ((i64 (i + 1)), (i64 (i + 1))))
  else
  some (.inl (slot2, (i64 (i + 1))))
  else
  some (.inr slot2)

noncomputable def Zas (m : api_Memory) : Option ring_spot :=
  (Zaa m).bind fun y =>
  if (decide ((y.length : Int) = 0)) = true then
  some (ring_spot.mk (-1) 0)
  else
  (idx y (i64 ((y.length : Int) - 1))).bind fun x =>
  ((loop (t2 (Zaf m x)) (0, 0)) : Option ((Int))).bind (t1 fun (slot : Int) =>
  some (ring_spot.mk x slot))

noncomputable def Zb1 (y3 : (List api_Memory)) (spots2 : List ring_spot) (frozen2 : Bool) (i : Int) : Option (((List ring_spot) × Bool × Int) ⊕ ((List ring_spot) × Bool)) :=
  if (decide (i < (y3.length : Int))) = true then
  (idx y3 i).bind fun x =>
  (Zas x).bind fun y4 =>
  (apz 16 spots2 ([y4] : List ring_spot)).bind fun l2 =>
  if (decide (0 ≤ y4.sector)) = true then
  (idx x.Sectors y4.sector).bind fun x2 =>
  (J7 x2).bind fun y5 =>
  some (.inl (l2, (frozen2 || y5.2.1), (i64 (i + 1))))
  else
  some (.inl (l2, frozen2, (i64 (i + 1))))
  else
  some (.inr (spots2, frozen2))

noncomputable def ZaM (l : List api_Memory) (copies : Int) : Option ((Int) ⊕ (ring_Recorder × Int)) :=
  (JA l).bind fun y =>
  if (!decide (y = 0)) = true then
  some (Sum.inl y)
  else
  (ZF copies 1 (l.length : Int)).bind fun y2 =>
  if (!y2) = true then
  some (Sum.inl 9)
  else
  (XK l).bind fun y3 =>
  ((loop (t3 (Zb1 y3)) ([], false, 0)) : Option (((List ring_spot) × Bool))).bind (t2 fun (spots : List ring_spot) (frozen : Bool) =>
  some (Sum.inr ((ring_Recorder.mk (ring_bank.mk y3 spots) copies frozen false 0 false), 0)))

noncomputable def Xu (r_ : ring_Recorder) (power : Int) : Option Int :=
  if r_.stopped = true then
  some 15
  else
  if r_.frozen = true then
  some 11
  else
  (ZF power 0 1000000000).bind fun y =>
  if (!y) = true then
  some 9
  else
  some 0

noncomputable def XS (w : Int) : Option Int :=
  some (i64 (Q6 .u16 w 2047))

noncomputable def X1 (f : Vector Int 64) : Option Int :=
  (ZO f 1).bind fun x =>
  (XS x).bind fun y =>
  (ZO f 2).bind fun x2 =>
  (XS x2).bind fun y2 =>
  (shl .i64 y2 11).bind fun q =>
  some (bor .i64 y q)

def gv_frame_syncs : Vector Int 4 := #v[583, 1464, 2631, 3512]

noncomputable def X6 (x : Int) : Option Int :=
  (shr .u16 x 8).bind fun q =>
  (Zkb [0, 1, 1, 2, 1, 2, 2, 3, 1, 2, 2, 3, 2, 3, 3, 4, 1, 2, 2, 3, 2, 3, 3, 4, 2, 3, 3, 4, 3, 4, 4, 5, 1, 2, 2, 3, 2, 3, 3, 4, 2, 3, 3, 4, 3, 4, 4, 5, 2, 3, 3, 4, 3, 4, 4, 5, 3, 4, 4, 5, 4, 5, 5, 6, 1, 2, 2, 3, 2, 3, 3, 4, 2, 3, 3, 4, 3, 4, 4, 5, 2, 3, 3, 4, 3, 4, 4, 5, 3, 4, 4, 5, 4, 5, 5, 6, 2, 3, 3, 4, 3, 4, 4, 5, 3, 4, 4, 5, 4, 5, 5, 6, 3, 4, 4, 5, 4, 5, 5, 6, 4, 5, 5, 6, 5, 6, 6, 7, 1, 2, 2, 3, 2, 3, 3, 4, 2, 3, 3, 4, 3, 4, 4, 5, 2, 3, 3, 4, 3, 4, 4, 5, 3, 4, 4, 5, 4, 5, 5, 6, 2, 3, 3, 4, 3, 4, 4, 5, 3, 4, 4, 5, 4, 5, 5, 6, 3, 4, 4, 5, 4, 5, 5, 6, 4, 5, 5, 6, 5, 6, 6, 7, 2, 3, 3, 4, 3, 4, 4, 5, 3, 4, 4, 5, 4, 5, 5, 6, 3, 4, 4, 5, 4, 5, 5, 6, 4, 5, 5, 6, 5, 6, 6, 7, 3, 4, 4, 5, 4, 5, 5, 6, 4, 5, 5, 6, 5, 6, 6, 7, 4, 5, 5, 6, 5, 6, 6, 7, 5, 6, 6, 7, 6, 7, 7, 8] q).bind fun b =>
  (Zkb [0, 1, 1, 2, 1, 2, 2, 3, 1, 2, 2, 3, 2, 3, 3, 4, 1, 2, 2, 3, 2, 3, 3, 4, 2, 3, 3, 4, 3, 4, 4, 5, 1, 2, 2, 3, 2, 3, 3, 4, 2, 3, 3, 4, 3, 4, 4, 5, 2, 3, 3, 4, 3, 4, 4, 5, 3, 4, 4, 5, 4, 5, 5, 6, 1, 2, 2, 3, 2, 3, 3, 4, 2, 3, 3, 4, 3, 4, 4, 5, 2, 3, 3, 4, 3, 4, 4, 5, 3, 4, 4, 5, 4, 5, 5, 6, 2, 3, 3, 4, 3, 4, 4, 5, 3, 4, 4, 5, 4, 5, 5, 6, 3, 4, 4, 5, 4, 5, 5, 6, 4, 5, 5, 6, 5, 6, 6, 7, 1, 2, 2, 3, 2, 3, 3, 4, 2, 3, 3, 4, 3, 4, 4, 5, 2, 3, 3, 4, 3, 4, 4, 5, 3, 4, 4, 5, 4, 5, 5, 6, 2, 3, 3, 4, 3, 4, 4, 5, 3, 4, 4, 5, 4, 5, 5, 6, 3, 4, 4, 5, 4, 5, 5, 6, 4, 5, 5, 6, 5, 6, 6, 7, 2, 3, 3, 4, 3, 4, 4, 5, 3, 4, 4, 5, 4, 5, 5, 6, 3, 4, 4, 5, 4, 5, 5, 6, 4, 5, 5, 6, 5, 6, 6, 7, 3, 4, 4, 5, 4, 5, 5, 6, 4, 5, 5, 6, 5, 6, 6, 7, 4, 5, 5, 6, 5, 6, 6, 7, 5, 6, 6, 7, 6, 7, 7, 8] (Q6 .u16 x 255)).bind fun b2 =>
  some (i64 (u8 (b + b2)))

noncomputable def ZbW (w : Int) : Option Bool :=
  (gd ((decide (w ≤ 4095)) == true) 0 (X6 w)).bind fun y =>
  (gd ((decide (w ≤ 4095)) == true) 0 (rem y 2)).bind fun q =>
  some ((decide (w ≤ 4095)) && (decide (q = 1)))

noncomputable def ZbD (f : Vector Int 64) (n2 : Int) (i : Int) : Option ((Int × Int) ⊕ (Int)) :=
  if (decide (i < 60)) = true then
  (ZO f (i64 (i + 1))).bind fun x =>
  (XS x).bind fun y =>
  some (.inl ((ZeH .i64 n2 y), (i64 (i + 1))))
  else
  some (.inr n2)

noncomputable def Zcb (f : Vector Int 64) : Option Int :=
  ((loop (t2 (ZbD f)) (0, 0)) : Option ((Int))).bind (t1 fun (n : Int) =>
  some n)

noncomputable def J4 (f : Vector Int 64) (i : Int) (n4 : Int) (k : Int) : Option ((Int × Int) ⊕ (Int)) :=
  if (decide (0 ≤ k)) = true then
  (shl .i64 n4 1).bind fun q =>
  (ZO f i).bind fun x =>
  (shr .u16 x k).bind fun q2 =>
  if (!((!decide ((Q6 .i64 n4 2097152) = 0)) == (decide ((Q6 .u16 q2 1) = 1)))) = true then
  some (.inl ((ZeH .i64 (Q6 .i64 q 4194303) 2097167), (i64 (k - 1))))
  else
  some (.inl ((Q6 .i64 q 4194303), (i64 (k - 1))))
  else
  some (.inr n4)

noncomputable def Zae (f : Vector Int 64) (n2 : Int) (i : Int) : Option ((Int × Int) ⊕ (Int)) :=
  if (decide (i < 62)) = true then
  ((loop (t2 (J4 f i)) (n2, 11)) : Option ((Int))).bind (t1 fun (n3 : Int) =>
  some (.inl (n3, (i64 (i + 1)))))
  else
  some (.inr n2)

noncomputable def Zaz (f : Vector Int 64) : Option Int :=
  ((loop (t2 (Zae f)) (0, 0)) : Option ((Int))).bind (t1 fun (n : Int) =>
  some n)

noncomputable def Za4 (f : Vector Int 64) (out2 : List api_Flaw) (i : Int) : Option (((List api_Flaw) × Int) ⊕ ((List api_Flaw))) :=
  if (decide (i < 64)) = true then
  (ZO f i).bind fun x =>
  if (decide (4095 < x)) = true then
  (app out2 ([(api_Flaw.mk i 5)] : List api_Flaw)).bind fun l =>
  some (.inl (l, (i64 (i + 1))))
  else
  some (.inl (out2, (i64 (i + 1))))
  else
  some (.inr out2)

noncomputable def Zba (f : Vector Int 64) (out5 : List api_Flaw) (i2 : Int) : Option (((List api_Flaw) × Int) ⊕ ((List api_Flaw))) :=
  if (decide (i2 < 64)) = true then
  (ZO f i2).bind fun x4 =>
  (ZbW x4).bind fun y2 =>
  if (!y2) = true then
  (app out5 ([(api_Flaw.mk i2 2)] : List api_Flaw)).bind fun l3 =>
  some (.inl (l3, (i64 (i2 + 1))))
  else
  some (.inl (out5, (i64 (i2 + 1))))
  else
  some (.inr out5)

noncomputable def ZaZ (f : Vector Int 64) : Option (List api_Flaw) :=
  ((loop (t2 (Za4 f)) ([], 0)) : Option (((List api_Flaw)))).bind (t1 fun (out : List api_Flaw) =>
  if (decide (0 < (out.length : Int))) = true then
  some out
  else
  (((ZO f 0).bind fun x2 =>
  (X1 f).bind fun y =>
  (rem y 4).bind fun q =>
  (ZO gv_frame_syncs q).bind fun x3 =>
  if (!decide (x2 = x3)) = true then
  (app out ([(api_Flaw.mk 0 1)] : List api_Flaw)).bind fun l2 =>
  some l2
  else
  some out) : Option (((List api_Flaw)))).bind (t1 fun (out3 : List api_Flaw) =>
  ((loop (t2 (Zba f)) (out3, 1)) : Option (((List api_Flaw)))).bind (t1 fun (out4 : List api_Flaw) =>
  (((ZO f 61).bind fun x5 =>
  (XS x5).bind fun y3 =>
  (Zcb f).bind fun y4 =>
  if (!decide (y3 = y4)) = true then
  (app out4 ([(api_Flaw.mk 61 3)] : List api_Flaw)).bind fun l4 =>
  some l4
  else
  some out4) : Option (((List api_Flaw)))).bind (t1 fun (out6 : List api_Flaw) =>
  (ZO f 62).bind fun x6 =>
  (XS x6).bind fun y5 =>
  (shl .i64 y5 11).bind fun q2 =>
  (ZO f 63).bind fun x7 =>
  (XS x7).bind fun y6 =>
  (Zaz f).bind fun y7 =>
  if (!decide ((bor .i64 q2 y6) = y7)) = true then
  (app out6 ([(api_Flaw.mk 62 4)] : List api_Flaw)).bind fun l5 =>
  some l5
  else
  some out6))))

noncomputable def JZ (f : Vector Int 64) : Option (Int × Bool) :=
  (ZO f 1).bind fun x =>
  (ZbW x).bind fun y =>
  (gd ((!y) == false) 0 (ZO f 2)).bind fun x2 =>
  (gd ((!y) == false) false (ZbW x2)).bind fun y2 =>
  if ((!y) || (!y2)) = true then
  some (0, false)
  else
  (X1 f).bind fun y3 =>
  some (y3, true)

noncomputable def ZaE (number : Int) (memories : Int) (copies : Int) (out2 : List Int) (i : Int) : Option (((List Int) × Int) ⊕ ((List Int))) :=
  if (decide (i < copies)) = true then
  (rem (i64 (number + i)) memories).bind fun q =>
  (apz 8 out2 ([q] : List Int)).bind fun l =>
  some (.inl (l, (i64 (i + 1))))
  else
  some (.inr out2)

noncomputable def Zby (number : Int) (memories : Int) (copies : Int) : Option (List Int) :=
  ((loop (t2 (ZaE number memories copies)) ([], 0)) : Option (((List Int)))).bind (t1 fun (out : List Int) =>
  some out)

noncomputable def Q1 (b : ring_bank) (k : Int) : Option Bool :=
  (idx b.spots k).bind fun x =>
  (gd ((decide (x.sector < 0)) == false) (ring_spot.mk 0 0) (idx b.spots k)).bind fun x2 =>
  (gd ((decide (x.sector < 0)) == false) (api_Memory.mk 0 0 [] [] []) (idx b.memories k)).bind fun x3 =>
  some ((decide (x.sector < 0)) || (decide (x2.slot = x3.Slots)))

noncomputable def JJ (b : ring_bank) (k : Int) (x : api_Memory) (i : Int) : Option ((Int) ⊕ (Int) ⊕ (Unit)) :=
  if (decide (i < (x.Sectors.length : Int))) = true then
  (idx b.spots k).bind fun x2 =>
  (rem (i64 ((i64 (x2.sector + 1)) + i)) (x.Sectors.length : Int)).bind fun q =>
  (idx x.Bad q).bind fun x3 =>
  (gd ((!x3) == true) 0 (idx x.Wear q)).bind fun x4 =>
  if ((!x3) && (decide (x4 < x.Limit))) = true then
  some (.inr (.inl q))
  else
  some (.inl (i64 (i + 1)))
  else
  some (.inr (.inr ()))

noncomputable def Xr (b : ring_bank) (k : Int) : Option Int :=
  (idx b.memories k).bind fun x =>
  ((loop (t1 (JJ b k x)) 0) : Option ((Int) ⊕ (Unit))).bind (Sum.elim (fun q' => some q') (t0 (some (-1))))

noncomputable def XB (sector : Int) (x : api_Memory) (most2 : Int) (i : Int) : Option ((Int × Int) ⊕ (Int)) :=
  if (decide (i < (x.Sectors.length : Int))) = true then
  (idx x.Sectors i).bind fun x2 =>
  (J7 x2).bind fun y =>
  if (y.2.2 && (!decide (i = sector))) = true then
  some (.inl ((max most2 y.1), (i64 (i + 1))))
  else
  some (.inl (most2, (i64 (i + 1))))
  else
  some (.inr most2)

noncomputable def QZ (b : ring_bank) (k : Int) (sector : Int) : Option Int :=
  (((idx b.memories k).bind fun x =>
  loop (t2 (XB sector x)) (0, 0)) : Option ((Int))).bind (t1 fun (most : Int) =>
  some (i64 (most + 1)))

noncomputable def Jp (b : ring_bank) (l : List Int) (i : Int) : Option ((Int) ⊕ (Int) ⊕ (Unit)) :=
  if (decide (i < (l.length : Int))) = true then
  (idx l i).bind fun x =>
  (Q1 b x).bind fun y =>
  (gd (y == true) 0 (Xr b x)).bind fun y2 =>
  if (y && (decide (y2 < 0))) = true then
  some (.inr (.inl 4))
  else
  some (.inl (i64 (i + 1)))
  else
  some (.inr (.inr ()))

noncomputable def Ji (b : ring_bank) (l : List Int) (i2 : Int) : Option ((Int) ⊕ (Int) ⊕ (Unit)) :=
  if (decide (i2 < (l.length : Int))) = true then
  (idx l i2).bind fun x2 =>
  (Q1 b x2).bind fun y3 =>
  (gd (y3 == true) 0 (Xr b x2)).bind fun y4 =>
  (gd (y3 == true) 0 (QZ b x2 y4)).bind fun y5 =>
  if (y3 && (decide (1073741824 < y5))) = true then
  some (.inr (.inl 3))
  else
  some (.inl (i64 (i2 + 1)))
  else
  some (.inr (.inr ()))

noncomputable def Jw (b : ring_bank) (l : List Int) : Option Int :=
  ((loop (t1 (Jp b l)) 0) : Option ((Int) ⊕ (Unit))).bind (Sum.elim (fun q' => some q') (t0 (((loop (t1 (Ji b l)) 0) : Option ((Int) ⊕ (Unit))).bind (Sum.elim (fun q' => some q') (t0 (some 0))))))

noncomputable def Zb5 (f : Vector Int 64) (i : Int) : Option ((Int) ⊕ (Bool) ⊕ (Unit)) :=
  if (decide (i < 64)) = true then
  (ZO f i).bind fun x =>
  if (decide (4095 < x)) = true then
  some (.inr (.inl true))
  else
  some (.inl (i64 (i + 1)))
  else
  some (.inr (.inr ()))

noncomputable def ZcW (f : Vector Int 64) : Option Bool :=
  ((loop (t1 (Zb5 f)) 0) : Option ((Bool) ⊕ (Unit))).bind (Sum.elim (fun q' => some q') (t0 (some false)))

noncomputable def Jy (p : Vector Int 96) (i : Int) (w : Int) : Option (Vector Int 96) :=
  (quo .i64 i 2).bind fun q =>
  (rem i 2).bind fun q2 =>
  if (decide (q2 = 0)) = true then
  (shr .u16 w 4).bind fun q3 =>
  (ZO p (i64 ((i64 (q * 3)) + 1))).bind fun x =>
  (ZO p (i64 (q * 3))).bind fun x2 =>
  (shl .u16 (Q6 .u16 w 15) 4).bind fun q4 =>
  (ZO (X4 p (i64 (q * 3)) (u8 q3)) (i64 ((i64 (q * 3)) + 1))).bind fun x3 =>
  some (X4 (X4 p (i64 (q * 3)) (u8 q3)) (i64 ((i64 (q * 3)) + 1)) (bor .u8 (u8 q4) (Q6 .u8 x 15)))
  else
  (ZO p (i64 ((i64 (q * 3)) + 1))).bind fun x4 =>
  (shr .u16 w 8).bind fun q5 =>
  (ZO p (i64 ((i64 (q * 3)) + 1))).bind fun x5 =>
  (ZO (X4 p (i64 ((i64 (q * 3)) + 1)) (bor .u8 (Q6 .u8 x4 240) (u8 q5))) (i64 ((i64 (q * 3)) + 2))).bind fun x6 =>
  some (X4 (X4 p (i64 ((i64 (q * 3)) + 1)) (bor .u8 (Q6 .u8 x4 240) (u8 q5))) (i64 ((i64 (q * 3)) + 2)) (u8 w))

noncomputable def Zb7 (f : Vector Int 64) (o : Vector Int 96) (i : Int) : Option (((Vector Int 96) × Int) ⊕ ((Vector Int 96))) :=
  if (decide (i < 64)) = true then
  (ZO f i).bind fun x =>
  (Jy o i x).bind fun y =>
  some (.inl (y, (i64 (i + 1))))
  else
  some (.inr o)

noncomputable def Zc6 (p : Vector Int 96) (f : Vector Int 64) : Option (Vector Int 96) :=
  loop (t2 (Zb7 f)) (p, 0)

noncomputable def Zav (f : Vector Int 64) : Option ((List Int) × Int) :=
  (ZcW f).bind fun y =>
  if y = true then
  some ([], 9)
  else
  (Zc6 (Vector.replicate 96 0) f).bind fun y2 =>
  (slc y2.toList 0 (96 : Int)).bind fun l =>
  some (l, 0)

noncomputable def QD (q : Int) (o2 : List Int) (i : Int) : Option (((List Int) × Int) ⊕ ((List Int))) :=
  if (decide (i < ((Int.toNat (q - 0) : Nat) : Int))) = true then
  (ck (decide ((0 : Int) ≤ i) && decide (i < ((Int.toNat (q - 0) : Nat) : Int)))).bind fun u2 =>
  (idx o2 (0 + i)).bind fun x2 =>
  some (.inl ((o2.set (0 + i).toNat 255), (i64 (i + 1))))
  else
  some (.inr o2)

noncomputable def QB (s : List Int) (o4 : List Int) (i2 : Int) : Option (((List Int) × Int) ⊕ ((List Int))) :=
  if (decide (i2 < (s.length : Int))) = true then
  (idx o4 i2).bind fun x3 =>
  some (.inl ((o4.set i2.toNat 255), (i64 (i2 + 1))))
  else
  some (.inr o4)

noncomputable def QX (s : List Int) (power : Int) : Option (Int × Bool × (List Int)) :=
  if (decide (power = 0)) = true then
  (quo .i64 (s.length : Int) 2).bind fun q =>
  (slp s 0 q).bind fun u =>
  ((loop (t2 (QD q)) (s, 0)) : Option (((List Int)))).bind (t1 fun (o : List Int) =>
  some ((max (i64 (power - 1)) 0), (decide (0 < power)), o))
  else
  ((loop (t2 (QB s)) (s, 0)) : Option (((List Int)))).bind (t1 fun (o3 : List Int) =>
  some ((max (i64 (power - 1)) 0), (decide (0 < power)), o3))

noncomputable def Q0 (at_ : Int) (data : List Int) (o2 : List Int) (power3 : Int) (i : Int) : Option (((List Int) × Int × Int) ⊕ (Int × Bool × (List Int)) ⊕ ((List Int) × Int)) :=
  if (decide (i < (data.length : Int))) = true then
  (idx data i).bind fun x =>
  if (decide (power3 = 0)) = true then
  (idx o2 (i64 (at_ + i))).bind fun x2 =>
  (idx o2 (i64 (at_ + i))).bind fun x3 =>
  some (.inr (.inl (0, false, (o2.set (i64 (at_ + i)).toNat (Q6 .u8 x2 (bor .u8 x 15))))))
  else
  (idx o2 (i64 (at_ + i))).bind fun x4 =>
  (idx o2 (i64 (at_ + i))).bind fun x5 =>
  some (.inl ((o2.set (i64 (at_ + i)).toNat (Q6 .u8 x4 x)), (i64 (power3 - 1)), (i64 (i + 1))))
  else
  some (.inr (.inr (o2, power3)))

noncomputable def Xo (s : List Int) (at_ : Int) (data : List Int) (power : Int) : Option (Int × Bool × (List Int)) :=
  ((loop (t3 (Q0 at_ data)) (s, power, 0)) : Option ((Int × Bool × (List Int)) ⊕ ((List Int) × Int))).bind (Sum.elim (fun q' => some q') (t2 fun (o : List Int) (power2 : Int) =>
  some (power2, true, o)))

noncomputable def XO (b : ring_Recorder) (k : Int) (power : Int) : Option (Int × Bool × ring_Recorder) :=
  (idx b.bank.memories k).bind fun x =>
  (Xr b.bank k).bind fun y =>
  (QZ b.bank k y).bind fun y2 =>
  (idx x.Wear y).bind fun x2 =>
  (idx x.Wear y).bind fun x3 =>
  (idx x.Sectors y).bind fun x8 =>
  (QX x8 power).bind fun y3 =>
  if (!y3.2.1) = true then
  some (y3.1, false, (ring_Recorder.mk (ring_bank.mk ((b.bank.memories.set k.toNat (api_Memory.mk x.Slots x.Limit x.Sectors (x.Wear.set y.toNat (i64 (x2 + 1))) x.Bad)).set k.toNat (api_Memory.mk x.Slots x.Limit (x.Sectors.set y.toNat y3.2.2) (x.Wear.set y.toNat (i64 (x2 + 1))) x.Bad)) b.bank.spots) b.copies b.frozen b.stopped b.last b.some_))
  else
  (((idx ((b.bank.memories.set k.toNat (api_Memory.mk x.Slots x.Limit x.Sectors (x.Wear.set y.toNat (i64 (x2 + 1))) x.Bad)).set k.toNat (api_Memory.mk x.Slots x.Limit (x.Sectors.set y.toNat y3.2.2) (x.Wear.set y.toNat (i64 (x2 + 1))) x.Bad)) k).bind fun x14 =>
  (idx x14.Sectors y).bind fun x15 =>
  (idx x14.Sectors y).bind fun x16 =>
  (ZaV y2).bind fun y4 =>
  (Xo x15 0 y4 y3.1).bind fun y5 =>
  if y5.2.1 = true then
  (idx b.bank.spots k).bind fun x22 =>
  some ((((b.bank.memories.set k.toNat (api_Memory.mk x.Slots x.Limit x.Sectors (x.Wear.set y.toNat (i64 (x2 + 1))) x.Bad)).set k.toNat (api_Memory.mk x.Slots x.Limit (x.Sectors.set y.toNat y3.2.2) (x.Wear.set y.toNat (i64 (x2 + 1))) x.Bad)).set k.toNat (api_Memory.mk x14.Slots x14.Limit (x14.Sectors.set y.toNat y5.2.2) x14.Wear x14.Bad)), (b.bank.spots.set k.toNat (ring_spot.mk y 0)), y5.1, y5.2.1)
  else
  some ((((b.bank.memories.set k.toNat (api_Memory.mk x.Slots x.Limit x.Sectors (x.Wear.set y.toNat (i64 (x2 + 1))) x.Bad)).set k.toNat (api_Memory.mk x.Slots x.Limit (x.Sectors.set y.toNat y3.2.2) (x.Wear.set y.toNat (i64 (x2 + 1))) x.Bad)).set k.toNat (api_Memory.mk x14.Slots x14.Limit (x14.Sectors.set y.toNat y5.2.2) x14.Wear x14.Bad)), b.bank.spots, y5.1, y5.2.1)) : Option (((List api_Memory) × (List ring_spot) × Int × Bool))).bind (t4 fun (memories : List api_Memory) (spots : List ring_spot) (power2 : Int) (all : Bool) =>
  some (power2, all, (ring_Recorder.mk (ring_bank.mk memories spots) b.copies b.frozen b.stopped b.last b.some_)))

noncomputable def Jz (b : ring_Recorder) (k : Int) (data : List Int) (power : Int) : Option (Int × Bool × ring_Recorder) :=
  (((Q1 b.bank k).bind fun y =>
  if y = true then
  (XO b k power).bind fun y2 =>
  if (!y2.2.1) = true then
  some (.inl (y2.1, false, y2.2.2))
  else
  some (.inr (y2.2.2.bank.memories, y2.2.2.bank.spots, y2.2.2.copies, y2.2.2.frozen, y2.2.2.stopped, y2.2.2.last, y2.2.2.some_, y2.1))
  else
  some (.inr (b.bank.memories, b.bank.spots, b.copies, b.frozen, b.stopped, b.last, b.some_, power))) : Option ((Int × Bool × ring_Recorder) ⊕ ((List api_Memory) × (List ring_spot) × Int × Bool × Bool × Int × Bool × Int))).bind (Sum.elim (fun q' => some q') (t8 fun (memories : List api_Memory) (spots : List ring_spot) (copies : Int) (frozen : Bool) (stopped : Bool) (last : Int) (some_ : Bool) (power2 : Int) =>
  (idx spots k).bind fun x =>
  (idx memories k).bind fun x2 =>
  (idx x2.Sectors x.sector).bind fun x3 =>
  (idx memories k).bind fun x4 =>
  (idx x2.Sectors x.sector).bind fun x5 =>
  (apz 1 data ([0] : List Int)).bind fun l =>
  (Xo x3 (i64 (16 + (i64 (x.slot * 97)))) l power2).bind fun y3 =>
  some (y3.1, y3.2.1, (ring_Recorder.mk (ring_bank.mk (memories.set k.toNat (api_Memory.mk x2.Slots x2.Limit (x2.Sectors.set x.sector.toNat y3.2.2) x2.Wear x2.Bad)) (spots.set k.toNat (ring_spot.mk x.sector (i64 (x.slot + 1))))) copies frozen stopped last some_))))

noncomputable def Xe (y4 : (List Int)) (y6 : (List Int) × Int) (memories2 : List api_Memory) (spots2 : List ring_spot) (copies2 : Int) (frozen2 : Bool) (stopped2 : Bool) (last2 : Int) (some_2 : Bool) (power3 : Int) (i : Int) : Option (((List api_Memory) × (List ring_spot) × Int × Bool × Bool × Int × Bool × Int × Int) ⊕ (Int × Bool × Int × ring_Recorder) ⊕ ((List api_Memory) × (List ring_spot) × Int × Bool × Bool × Int × Bool × Int)) :=
  if (decide (i < (y4.length : Int))) = true then
  (idx y4 i).bind fun x =>
  (slc y6.1 0 (y6.1.length : Int)).bind fun l =>
  (Jz (ring_Recorder.mk (ring_bank.mk memories2 spots2) copies2 frozen2 stopped2 last2 some_2) x l power3).bind fun y7 =>
  if (!y7.2.1) = true then
  some (.inr (.inl (y7.1, false, 0, (ring_Recorder.mk y7.2.2.bank y7.2.2.copies y7.2.2.frozen true y7.2.2.last y7.2.2.some_))))
  else
  some (.inl (y7.2.2.bank.memories, y7.2.2.bank.spots, y7.2.2.copies, y7.2.2.frozen, y7.2.2.stopped, y7.2.2.last, y7.2.2.some_, y7.1, (i64 (i + 1))))
  else
  some (.inr (.inr (memories2, spots2, copies2, frozen2, stopped2, last2, some_2, power3)))

noncomputable def Xb (r_ : ring_Recorder) (f : Vector Int 64) (power : Int) : Option (Int × Bool × Int × ring_Recorder) :=
  (Xu r_ power).bind fun y =>
  if (!decide (y = 0)) = true then
  some (0, false, y, r_)
  else
  (ZaZ f).bind fun y2 =>
  if (decide (0 < (y2.length : Int))) = true then
  some (0, false, 2, r_)
  else
  (JZ f).bind fun y3 =>
  (Zby y3.1 (r_.bank.memories.length : Int) r_.copies).bind fun y4 =>
  (Jw r_.bank y4).bind fun y5 =>
  if (!decide (y5 = 0)) = true then
  some (0, false, y5, r_)
  else
  (Zav f).bind fun y6 =>
  ((loop (t9 (Xe y4 y6)) (r_.bank.memories, r_.bank.spots, r_.copies, r_.frozen, r_.stopped, r_.last, r_.some_, power, 0)) : Option ((Int × Bool × Int × ring_Recorder) ⊕ ((List api_Memory) × (List ring_spot) × Int × Bool × Bool × Int × Bool × Int))).bind (Sum.elim (fun q' => some q') (t8 fun (memories : List api_Memory) (spots : List ring_spot) (copies : Int) (frozen : Bool) (stopped : Bool) (last : Int) (some_ : Bool) (power2 : Int) =>
  some (power2, true, 0, (ring_Recorder.mk (ring_bank.mk memories spots) copies frozen stopped y3.1 true))))

noncomputable def QO (r_ : ring_Recorder) : Option (List api_Memory) :=
  (XK r_.bank.memories).bind fun y =>
  some y

noncomputable def Za7 (p : Vector Int 96) (i : Int) : Option Int :=
  (quo .i64 i 2).bind fun q =>
  (rem i 2).bind fun q2 =>
  if (decide (q2 = 0)) = true then
  (ZO p (i64 (q * 3))).bind fun x =>
  (shl .u16 (u16 x) 4).bind fun q3 =>
  (ZO p (i64 ((i64 (q * 3)) + 1))).bind fun x2 =>
  (shr .u16 (u16 x2) 4).bind fun q4 =>
  some (bor .u16 q3 q4)
  else
  (ZO p (i64 ((i64 (q * 3)) + 1))).bind fun x3 =>
  (shl .u16 (Q6 .u16 (u16 x3) 15) 8).bind fun q5 =>
  (ZO p (i64 ((i64 (q * 3)) + 2))).bind fun x4 =>
  some (bor .u16 q5 (u16 x4))

noncomputable def Zb0 (p : Vector Int 96) (f2 : Vector Int 64) (i : Int) : Option (((Vector Int 64) × Int) ⊕ ((Vector Int 64))) :=
  if (decide (i < 64)) = true then
  (Za7 p i).bind fun y =>
  (ZO f2 i).bind fun x =>
  some (.inl ((X4 f2 i y), (i64 (i + 1))))
  else
  some (.inr f2)

noncomputable def Zc8 (p : Vector Int 96) : Option (Vector Int 64) :=
  ((loop (t2 (Zb0 p)) ((Vector.replicate 64 0), 0)) : Option (((Vector Int 64)))).bind (t1 fun (f : Vector Int 64) =>
  some f)

noncomputable def Js (b : List Int) : Option ((Vector Int 64) × Int) :=
  if (decide ((b.length : Int) < 96)) = true then
  some ((#v[0, 0, 0, 0, 0, 0, 0, 0, 0, 0, 0, 0, 0, 0, 0, 0, 0, 0, 0, 0, 0, 0, 0, 0, 0, 0, 0, 0, 0, 0, 0, 0, 0, 0, 0, 0, 0, 0, 0, 0, 0, 0, 0, 0, 0, 0, 0, 0, 0, 0, 0, 0, 0, 0, 0, 0, 0, 0, 0, 0, 0, 0, 0, 0] : Vector Int 64), 3)
  else
  (slc b 0 96).bind fun l =>
  (tov 96 l).bind fun v =>
  (Zc8 v).bind fun y =>
  some (y, 0)

noncomputable def ZaF (i : Int) (x : api_Memory) (x2 : Int) (y3 : Int × Bool × Bool) (out6 : List api_Kept) (i3 : Int) : Option (((List api_Kept) × Int) ⊕ ((List api_Kept))) :=
  if (decide (i3 < x.Slots)) = true then
  (idx x.Sectors x2).bind fun x4 =>
  (ZaY x4 i3).bind fun y4 =>
  (Zad y4).bind fun y5 =>
  if (decide (y5 = 1)) = true then
  (slc y4.toList 0 (97 : Int)).bind fun l2 =>
  (Js l2).bind fun y6 =>
  (apz 160 out6 ([(api_Kept.mk i x2 y3.1 i3 y6.1)] : List api_Kept)).bind fun l3 =>
  some (.inl (l3, (i64 (i3 + 1))))
  else
  some (.inl (out6, (i64 (i3 + 1))))
  else
  some (.inr out6)

noncomputable def ZaD (i : Int) (x : api_Memory) (y2 : (List Int)) (out4 : List api_Kept) (i2 : Int) : Option (((List api_Kept) × Int) ⊕ ((List api_Kept))) :=
  if (decide (i2 < (y2.length : Int))) = true then
  (((idx y2 i2).bind fun x2 =>
  (idx x.Sectors x2).bind fun x3 =>
  (J7 x3).bind fun y3 =>
  loop (t2 (ZaF i x x2 y3)) (out4, 0)) : Option (((List api_Kept)))).bind (t1 fun (out5 : List api_Kept) =>
  some (.inl (out5, (i64 (i2 + 1)))))
  else
  some (.inr out4)

noncomputable def ZaI (l : List api_Memory) (out2 : List api_Kept) (i : Int) : Option (((List api_Kept) × Int) ⊕ ((List api_Kept))) :=
  if (decide (i < (l.length : Int))) = true then
  (((idx l i).bind fun x =>
  (Zaa x).bind fun y2 =>
  loop (t2 (ZaD i x y2)) (out2, 0)) : Option (((List api_Kept)))).bind (t1 fun (out3 : List api_Kept) =>
  some (.inl (out3, (i64 (i + 1)))))
  else
  some (.inr out2)

noncomputable def Za6 (l : List api_Memory) : Option ((List api_Kept) × Int) :=
  (JA l).bind fun y =>
  if (!decide (y = 0)) = true then
  some ([], y)
  else
  ((loop (t2 (ZaI l)) ([], 0)) : Option (((List api_Kept)))).bind (t1 fun (out : List api_Kept) =>
  some (out, 0))

noncomputable def Zbp (y : (List api_Kept) × Int) (best2 : List (Int × api_Kept)) (numbers2 : List Int) (i : Int) : Option (((List (Int × api_Kept)) × (List Int) × Int) ⊕ ((List (Int × api_Kept)) × (List Int))) :=
  if (decide (i < (y.1.length : Int))) = true then
  (idx y.1 i).bind fun x =>
  (ZaZ x.Frame).bind fun y2 =>
  if (decide (0 < (y2.length : Int))) = true then
  some (.inl (best2, numbers2, (i64 (i + 1))))
  else
  (JZ x.Frame).bind fun y3 =>
  (some (Zf2 kqI best2 y3.1)).bind fun o =>
  ((if (!o.isSome) = true then
  (apz 8 numbers2 ([y3.1] : List Int)).bind fun l2 =>
  some l2
  else
  some numbers2) : Option (((List Int)))).bind (t1 fun (numbers3 : List Int) =>
  if ((!o.isSome) || (decide (((o.getD (api_Kept.mk 0 0 0 0 (Vector.replicate 64 0))).Sequence) < x.Sequence))) = true then
  some (.inl ((ZiY kqI best2 y3.1 x), numbers3, (i64 (i + 1))))
  else
  some (.inl (best2, numbers3, (i64 (i + 1)))))
  else
  some (.inr (best2, numbers2))

noncomputable def ZbA (best : List (Int × api_Kept)) (y4 : List Int) (out2 : List (Vector Int 64)) (i2 : Int) : Option (((List (Vector Int 64)) × Int) ⊕ ((List (Vector Int 64)))) :=
  if (decide (i2 < (y4.length : Int))) = true then
  (idx y4 i2).bind fun x2 =>
  (some ((Zf2 kqI best x2).getD (api_Kept.mk 0 0 0 0 (Vector.replicate 64 0)))).bind fun o2 =>
  (apz 128 out2 ([o2.Frame] : List (Vector Int 64))).bind fun l3 =>
  some (.inl (l3, (i64 (i2 + 1))))
  else
  some (.inr out2)

noncomputable def Zcd (l : List api_Memory) : Option ((List (Vector Int 64)) × Int) :=
  (Za6 l).bind fun y =>
  if (!decide (y.2 = 0)) = true then
  some ([], y.2)
  else
  ((loop (t3 (Zbp y)) (([] : List (Int × api_Kept)), [], 0)) : Option (((List (Int × api_Kept)) × (List Int)))).bind (t2 fun (best : List (Int × api_Kept)) (numbers : List Int) =>
  (Zg9 numbers).bind fun y4 =>
  ((loop (t2 (ZbA best y4)) ([], 0)) : Option (((List (Vector Int 64))))).bind (t1 fun (out : List (Vector Int 64)) =>
  some (out, 0)))

noncomputable def ZcO  : Option Bool :=
  (mkz 8 58 0).bind fun l =>
  (ZeP 4 l).bind fun y =>
  (JW 2 1 3).bind fun y2 =>
  if (!decide (y2.2 = 0)) = true then
  some false
  else
  (ZaM ([y2.1] : List api_Memory) 1).bind (Sum.elim (fun y3 =>
  if (!decide (y3 = 0)) = true then
  some false
  else
  none) (fun y3 =>
  if (!decide (y3.2 = 0)) = true then
  some false
  else
  (Xb y3.1 y.1 109).bind fun y4 =>
  (QO y4.2.2.2).bind fun y5 =>
  (Zcd y5).bind fun y6 =>
  (gd ((((((decide (y4.1 = 1)) && y4.2.1) && (decide (y4.2.2.1 = 0))) && (decide (y6.2 = 0))) && (decide ((y6.1.length : Int) = 1))) == true) (Vector.replicate 64 0) (idx y6.1 0)).bind fun x =>
  some ((((((decide (y4.1 = 1)) && y4.2.1) && (decide (y4.2.2.1 = 0))) && (decide (y6.2 = 0))) && (decide ((y6.1.length : Int) = 1))) && (decide (x = y.1)))))

noncomputable def Xf (s : List Int) (at_ : Int) (data : List Int) (power : Int) : Option Bool :=
  (X9 s).bind fun y =>
  (Q5 y.1 y.2.1 y.2.2 at_ data power).bind fun y2 =>
  (Zay s at_ data power).bind fun y3 =>
  (gd ((((!decide (y2.1 = y3.2.1)) || (!(y2.2.1 == y3.2.2.1))) || (!decide (y2.2.2.1 = y3.2.2.2))) == false) false (XH (List.take (Int.toNat (y.2.2 - y.2.1)) (List.drop (Int.toNat y.2.1) y2.2.2.2)) y3.1)).bind fun y4 =>
  (gd (((((!decide (y2.1 = y3.2.1)) || (!(y2.2.1 == y3.2.2.1))) || (!decide (y2.2.2.1 = y3.2.2.2))) || (!y4)) == false) false (ZaX y2.2.2.2)).bind fun y5 =>
  if (((((!decide (y2.1 = y3.2.1)) || (!(y2.2.1 == y3.2.2.1))) || (!decide (y2.2.2.1 = y3.2.2.2))) || (!y4)) || (!y5)) = true then
  some false
  else
  (X9 s).bind fun y6 =>
  (Qz y6.1 y6.2.1 y6.2.2 power).bind fun y7 =>
  (X0 s power).bind fun y8 =>
  (gd ((((decide (y7.1 = y8.2.1)) && (y7.2.1 == y8.2.2.1)) && (decide (y7.2.2.1 = y8.2.2.2))) == true) false (XH (List.take (Int.toNat (y6.2.2 - y6.2.1)) (List.drop (Int.toNat y6.2.1) y7.2.2.2)) y8.1)).bind fun y9 =>
  (gd (((((decide (y7.1 = y8.2.1)) && (y7.2.1 == y8.2.2.1)) && (decide (y7.2.2.1 = y8.2.2.2))) && y9) == true) false (ZaX y7.2.2.2)).bind fun y10 =>
  (gd ((((((decide (y7.1 = y8.2.1)) && (y7.2.1 == y8.2.2.1)) && (decide (y7.2.2.1 = y8.2.2.2))) && y9) && y10) == true) false ZcO).bind fun y11 =>
  some ((((((decide (y7.1 = y8.2.1)) && (y7.2.1 == y8.2.2.1)) && (decide (y7.2.2.1 = y8.2.2.2))) && y9) && y10) && y11)
end Go.Vx
