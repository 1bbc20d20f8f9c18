/- A text of the proof: a verified executor of the program form, or the contracts of the functions that the law reaches. -/
import Derived.Test.YtjfoenlooacoiabGreatDoorShLib
set_option linter.all false
namespace Go.Vx
open Go Go.RowKit
set_option linter.unusedVariables false
structure api_Memory where
  Slots : Int
  Limit : Int
  Sectors : List (List Int)
  Wear : List Int
  Bad : List Bool
structure ring_spot where
  sector : Int
  slot : Int
structure ring_bank where
  memories : List api_Memory
  spots : List ring_spot
structure ring_Recorder where
  bank : ring_bank
  copies : Int
  frozen : Bool
  stopped : Bool
  last : Int
  some_ : Bool
structure api_Flaw where
  Word : Int
  Kind : Int
structure api_Kept where
  Memory : Int
  Sector : Int
  Sequence : Int
  Slot : Int
  Frame : Vector Int 64
structure law3_Deed where
  Freeze : Bool
  Frame : Vector Int 64
  Power : Int

noncomputable def Qu (n : Int) (low : Int) (high : Int) : Option Bool :=
  some ((decide (low ≤ n)) && (decide (n ≤ high)))

noncomputable def Jr (slots : Int) : Option Int :=
  some (i64 (16 + (i64 (slots * 97))))

noncomputable def QT (n : Int) (low : Int) (high : Int) : Option Bool :=
  some ((decide (n < low)) || (decide (high < n)))

noncomputable def Zc4 (n2 : Int) (ones2 : Int) : Option ((Int × Int) ⊕ (Int)) :=
  if (decide (0 < n2)) = true then
  (rem n2 2).bind fun q =>
  (quo .i64 n2 2).bind fun q2 =>
  some (.inl (q2, (i64 (ones2 + q))))
  else
  some (.inr ones2)

noncomputable def ZbY (n : Int) : Option Bool :=
  ((loop (t2 (Zc4)) (n, 0)) : Option ((Int))).bind (t1 fun (ones : Int) =>
  (rem ones 2).bind fun q3 =>
  some (decide (q3 = 1)))

noncomputable def Jb (f : Vector Int 64) : Option Int :=
  (ZM f 1).bind fun x =>
  (rem (i64 x) 2048).bind fun q =>
  (ZM f 2).bind fun x2 =>
  (rem (i64 x2) 2048).bind fun q2 =>
  some (i64 (q + (i64 (q2 * 2048))))

noncomputable def Zb5 (number : Int) : Option Int :=
  (rem number 4).bind fun q =>
  (ZM (#v[583, 1464, 2631, 3512] : Vector Int 4) q).bind fun x =>
  some x

noncomputable def Zb1 (f : Vector Int 64) (x2 : Int) (i : Int) : Option ((Int × Int) ⊕ (Int)) :=
  if (decide (i ≤ 60)) = true then
  (ZM f i).bind fun x3 =>
  (rem (i64 x3) 2048).bind fun q =>
  some (.inl ((Zb7 .i64 x2 q), (i64 (i + 1))))
  else
  some (.inr x2)

noncomputable def Zep (f : Vector Int 64) : Option Int :=
  ((loop (t2 (Zb1 f)) (0, 1)) : Option ((Int))).bind (t1 fun (x : Int) =>
  some x)

noncomputable def ZaG (f : Vector Int 64) (rest2 : Int) (i : Int) : Option ((Int × Int) ⊕ (Int)) :=
  if (decide (i < 766)) = true then
  ((if (decide (i < 744)) = true then
  (quo .i64 i 12).bind fun q =>
  (ZM f q).bind fun x =>
  (rem i 12).bind fun q2 =>
  (shr .i64 (i64 x) (i64 (11 - q2))).bind fun q3 =>
  some (QJ .i64 q3 1)
  else
  some 0) : Option ((Int))).bind (t1 fun (bit : Int) =>
  if (decide (4194304 ≤ (i64 ((i64 (rest2 * 2)) + bit)))) = true then
  some (.inl ((Zb7 .i64 (i64 ((i64 (rest2 * 2)) + bit)) 6291471), (i64 (i + 1))))
  else
  some (.inl ((i64 ((i64 (rest2 * 2)) + bit)), (i64 (i + 1)))))
  else
  some (.inr rest2)

noncomputable def ZcI (f : Vector Int 64) : Option Int :=
  ((loop (t2 (ZaG f)) (0, 0)) : Option ((Int))).bind (t1 fun (rest : Int) =>
  some rest)

noncomputable def QN (m : api_Memory) (i : Int) : Option ((Int) ⊕ (Int) ⊕ (Unit)) :=
  if (decide (i < (m.Sectors.length : Int))) = true then
  (idx m.Sectors i).bind fun x =>
  (Jr m.Slots).bind fun y4 =>
  if (!decide ((x.length : Int) = y4)) = true then
  some (.inr (.inl 3))
  else
  (idx m.Wear i).bind fun x2 =>
  (Qu x2 0 m.Limit).bind fun y5 =>
  if (!y5) = true then
  some (.inr (.inl 9))
  else
  some (.inl (i64 (i + 1)))
  else
  some (.inr (.inr ()))

noncomputable def Xl (m : api_Memory) : Option Int :=
  (Qu m.Slots 1 64).bind fun y =>
  (gd ((!y) == false) false (Qu m.Limit 1 1000000)).bind fun y2 =>
  (gd (((!y) || (!y2)) == false) false (Qu (m.Sectors.length : Int) 2 64)).bind fun y3 =>
  if (((!y) || (!y2)) || (!y3)) = true then
  some 9
  else
  if ((!decide ((m.Wear.length : Int) = (m.Sectors.length : Int))) || (!decide ((m.Bad.length : Int) = (m.Sectors.length : Int)))) = true then
  some 2
  else
  ((loop (t1 (QN m)) 0) : Option ((Int) ⊕ (Unit))).bind (Sum.elim (fun q' => some q') (t0 (some 0)))

noncomputable def ring_checkAll_L1 (l : List api_Memory) (i : Int) : Option ((Int) ⊕ (Int) ⊕ (Unit)) :=
  if (decide (i < (l.length : Int))) = true then
  (idx l i).bind fun x =>
  (Xl x).bind fun y2 =>
  if (!decide (y2 = 0)) = true then
  some (.inr (.inl y2))
  else
  some (.inl (i64 (i + 1)))
  else
  some (.inr (.inr ()))

noncomputable def Xo (l : List api_Memory) : Option Int :=
  (Qu (l.length : Int) 1 8).bind fun y =>
  if (!y) = true then
  some 3
  else
  ((loop (t1 (ring_checkAll_L1 l)) 0) : Option ((Int) ⊕ (Unit))).bind (Sum.elim (fun q' => some q') (t0 (some 0)))

noncomputable def XM (m : api_Memory) (sectors2 : List (List Int)) (i : Int) : Option (((List (List Int)) × Int) ⊕ ((List (List Int)))) :=
  if (decide (i < (m.Sectors.length : Int))) = true then
  (idx m.Sectors i).bind fun x =>
  (ZeY 1 x).bind fun y =>
  (apz 24 sectors2 [y]).bind fun l =>
  some (.inl (l, (i64 (i + 1))))
  else
  some (.inr sectors2)

noncomputable def JN (m : api_Memory) : Option api_Memory :=
  ((loop (t2 (XM m)) ([], 0)) : Option (((List (List Int))))).bind (t1 fun (sectors : List (List Int)) =>
  (ZeY 8 m.Wear).bind fun y2 =>
  (ZeY 1 m.Bad).bind fun y3 =>
  some (api_Memory.mk m.Slots m.Limit sectors y2 y3))

noncomputable def XU (l : List api_Memory) (out2 : List api_Memory) (i : Int) : Option (((List api_Memory) × Int) ⊕ ((List api_Memory))) :=
  if (decide (i < (l.length : Int))) = true then
  (idx l i).bind fun x =>
  (JN x).bind fun y =>
  (apz 88 out2 [y]).bind fun l2 =>
  some (.inl (l2, (i64 (i + 1))))
  else
  some (.inr out2)

noncomputable def XZ (l : List api_Memory) : Option (List api_Memory) :=
  ((loop (t2 (XU l)) ([], 0)) : Option (((List api_Memory)))).bind (t1 fun (out : List api_Memory) =>
  some out)

noncomputable def XH (sequence : Int) (out2 : List Int) (shift : Int) : Option (((List Int) × Int) ⊕ ((List Int))) :=
  if (decide (0 ≤ shift)) = true then
  (shr .i64 sequence shift).bind fun q =>
  (apz 1 out2 ([(u8 q)] : List Int)).bind fun l =>
  some (.inl (l, (i64 (shift - 8))))
  else
  some (.inr out2)

noncomputable def XN (out : List Int) (out4 : List Int) (i : Int) : Option (((List Int) × Int) ⊕ ((List Int))) :=
  if (decide (i < ((Int.toNat (6 - 2) : Nat) : Int))) = true then
  (ck (decide ((0 : Int) ≤ i) && decide (i < ((Int.toNat (6 - 2) : Nat) : Int)))).bind fun u2 =>
  (idx out (2 + i)).bind fun x2 =>
  (apz 1 out4 ([(Zb7 .u8 255 x2)] : List Int)).bind fun l2 =>
  some (.inl (l2, (i64 (i + 1))))
  else
  some (.inr out4)

noncomputable def Zbn (sequence : Int) : Option (List Int) :=
  ((loop (t2 (XH sequence)) (([79, 66] : List Int), 24)) : Option (((List Int)))).bind (t1 fun (out : List Int) =>
  (((slp out 2 6).bind fun u =>
  loop (t2 (XN out)) (out, 0)) : Option (((List Int)))).bind (t1 fun (out3 : List Int) =>
  some out3))

noncomputable def Xd (s1 : List Int) (s2 : List Int) (i : Int) : Option ((Int) ⊕ (Bool) ⊕ (Unit)) :=
  if (decide (i < (s1.length : Int))) = true then
  (idx s1 i).bind fun x =>
  (idx s2 i).bind fun x2 =>
  if (!decide (x = x2)) = true then
  some (.inr (.inl false))
  else
  some (.inl (i64 (i + 1)))
  else
  some (.inr (.inr ()))

noncomputable def Xb (s1 : List Int) (s2 : List Int) : Option Bool :=
  if (!decide ((s1.length : Int) = (s2.length : Int))) = true then
  some false
  else
  ((loop (t1 (Xd s1 s2)) 0) : Option ((Bool) ⊕ (Unit))).bind (Sum.elim (fun q' => some q') (t0 (some true)))

noncomputable def Zap (s : List Int) : Option (Int × Bool × Bool) :=
  if (decide ((s.length : Int) < 16)) = true then
  some (0, false, false)
  else
  (slc s 0 16).bind fun l =>
  (tov 16 l).bind fun v =>
  (ZM v 2).bind fun x =>
  (shl .i64 (i64 x) 24).bind fun q =>
  (ZM v 3).bind fun x2 =>
  (shl .i64 (i64 x2) 16).bind fun q2 =>
  (ZM v 4).bind fun x3 =>
  (shl .i64 (i64 x3) 8).bind fun q3 =>
  (ZM v 5).bind fun x4 =>
  (Qu (bor .i64 (bor .i64 (bor .i64 q q2) q3) (i64 x4)) 1 1073741824).bind fun y =>
  (gd ((!y) == false) [] (slc v.toList 0 10)).bind fun l2 =>
  (gd ((!y) == false) [] (Zbn (bor .i64 (bor .i64 (bor .i64 q q2) q3) (i64 x4)))).bind fun y2 =>
  (gd ((!y) == false) false (Xb l2 y2)).bind fun y3 =>
  if ((!y) || (!y3)) = true then
  some (0, false, false)
  else
  (ZM v 10).bind fun x5 =>
  some ((bor .i64 (bor .i64 (bor .i64 q q2) q3) (i64 x4)), (!decide (x5 = 255)), true)

noncomputable def Zv (a : Int) (cmp : Int → Int → Option Int) (o3 : List Int) (j : Int) : Option (((List Int) × Int) ⊕ ((List Int))) :=
  (gd ((decide (a < j)) == true) 0 (idx o3 j)).bind fun x =>
  (gd ((decide (a < j)) == true) 0 (idx o3 (i64 (j - 1)))).bind fun x2 =>
  (gd ((decide (a < j)) == true) 0 (cmp x x2)).bind fun y =>
  if ((decide (a < j)) && (decide (y < 0))) = true then
  (idx o3 (i64 (j - 1))).bind fun x3 =>
  (idx o3 j).bind fun x4 =>
  (idx o3 j).bind fun x5 =>
  (idx (o3.set j.toNat x3) (i64 (j - 1))).bind fun x6 =>
  some (.inl (((o3.set j.toNat x3).set (i64 (j - 1)).toNat x4), (i64 (j - 1))))
  else
  some (.inr o3)

noncomputable def Zt (a : Int) (b : Int) (cmp : Int → Int → Option Int) (o : List Int) (i : Int) : Option (((List Int) × Int) ⊕ ((List Int))) :=
  if (decide (i < b)) = true then
  ((loop (t2 (Zv a cmp)) (o, i)) : Option (((List Int)))).bind (t1 fun (o2 : List Int) =>
  some (.inl (o2, (i64 (i + 1)))))
  else
  some (.inr o)

noncomputable def Zu (data : List Int) (a : Int) (b : Int) (cmp : Int → Int → Option Int) : Option (List Int) :=
  loop (t2 (Zt a b cmp)) (data, (i64 (a + 1)))

noncomputable def ZQ (a : Int) (b : Int) (n : Int) (o : List Int) (i : Int) : Option (((List Int) × Int) ⊕ ((List Int))) :=
  if (decide (i < n)) = true then
  (idx o (i64 (b + i))).bind fun x =>
  (idx o (i64 (a + i))).bind fun x2 =>
  (idx o (i64 (a + i))).bind fun x3 =>
  (idx (o.set (i64 (a + i)).toNat x) (i64 (b + i))).bind fun x4 =>
  some (.inl (((o.set (i64 (a + i)).toNat x).set (i64 (b + i)).toNat x2), (i64 (i + 1))))
  else
  some (.inr o)

noncomputable def Zx (data : List Int) (a : Int) (b : Int) (n : Int) (cmp : Int → Int → Option Int) : Option (List Int) :=
  loop (t2 (ZQ a b n)) (data, 0)

noncomputable def ZZ (m : Int) (cmp : Int → Int → Option Int) (o2 : List Int) (i2 : Int) (j : Int) : Option (((List Int) × Int × Int) ⊕ ((List Int) × Int)) :=
  if (!decide (i2 = j)) = true then
  if (decide (j < i2)) = true then
  (Zx o2 (i64 (m - i2)) m j cmp).bind fun y =>
  some (.inl (y, (i64 (i2 - j)), j))
  else
  (Zx o2 (i64 (m - i2)) (i64 ((i64 (m + j)) - i2)) i2 cmp).bind fun y2 =>
  some (.inl (y2, i2, (i64 (j - i2))))
  else
  some (.inr (o2, i2))

noncomputable def Z0 (data : List Int) (a : Int) (m : Int) (b : Int) (cmp : Int → Int → Option Int) : Option (List Int) :=
  ((loop (t3 (ZZ m cmp)) (data, (i64 (m - a)), (i64 (b - m)))) : Option (((List Int) × Int))).bind (t2 fun (o : List Int) (i : Int) =>
  (Zx o (i64 (m - i)) m i cmp).bind fun y3 =>
  some y3)

noncomputable def Z6 (data : List Int) (a : Int) (cmp : Int → Int → Option Int) (i2 : Int) (j : Int) : Option ((Int × Int) ⊕ (Int)) :=
  if (decide (i2 < j)) = true then
  (shr .u64 (u64 (i64 (i2 + j))) 1).bind fun q =>
  (idx data (i64 q)).bind fun x =>
  (idx data a).bind fun x2 =>
  (cmp x x2).bind fun y =>
  if (decide (y < 0)) = true then
  some (.inl ((i64 ((i64 q) + 1)), j))
  else
  some (.inl (i2, (i64 q)))
  else
  some (.inr i2)

noncomputable def Zz (i : Int) (o2 : List Int) (k : Int) : Option (((List Int) × Int) ⊕ ((List Int))) :=
  if (decide (k < (i64 (i - 1)))) = true then
  (idx o2 (i64 (k + 1))).bind fun x3 =>
  (idx o2 k).bind fun x4 =>
  (idx o2 k).bind fun x5 =>
  (idx (o2.set k.toNat x3) (i64 (k + 1))).bind fun x6 =>
  some (.inl (((o2.set k.toNat x3).set (i64 (k + 1)).toNat x4), (i64 (k + 1))))
  else
  some (.inr o2)

noncomputable def Z5 (data : List Int) (m : Int) (cmp : Int → Int → Option Int) (i4 : Int) (j2 : Int) : Option ((Int × Int) ⊕ (Int)) :=
  if (decide (i4 < j2)) = true then
  (shr .u64 (u64 (i64 (i4 + j2))) 1).bind fun q2 =>
  (idx data m).bind fun x7 =>
  (idx data (i64 q2)).bind fun x8 =>
  (cmp x7 x8).bind fun y2 =>
  if (!(decide (y2 < 0))) = true then
  some (.inl ((i64 ((i64 q2) + 1)), j2))
  else
  some (.inl (i4, (i64 q2)))
  else
  some (.inr i4)

noncomputable def ZA (i3 : Int) (o4 : List Int) (k2 : Int) : Option (((List Int) × Int) ⊕ ((List Int))) :=
  if (decide (i3 < k2)) = true then
  (idx o4 (i64 (k2 - 1))).bind fun x9 =>
  (idx o4 k2).bind fun x10 =>
  (idx o4 k2).bind fun x11 =>
  (idx (o4.set k2.toNat x9) (i64 (k2 - 1))).bind fun x12 =>
  some (.inl (((o4.set k2.toNat x9).set (i64 (k2 - 1)).toNat x10), (i64 (k2 - 1))))
  else
  some (.inr o4)

noncomputable def Qg (data : List Int) (m : Int) (cmp : Int → Int → Option Int) (q3 : Int) (start3 : Int) (r_2 : Int) : Option ((Int × Int) ⊕ (Int)) :=
  if (decide (start3 < r_2)) = true then
  (shr .u64 (u64 (i64 (start3 + r_2))) 1).bind fun q4 =>
  (idx data (i64 ((i64 ((i64 ((i64 q3) + m)) - 1)) - (i64 q4)))).bind fun x13 =>
  (idx data (i64 q4)).bind fun x14 =>
  (cmp x13 x14).bind fun y3 =>
  if (!(decide (y3 < 0))) = true then
  some (.inl ((i64 ((i64 q4) + 1)), r_2))
  else
  some (.inl (start3, (i64 q4)))
  else
  some (.inr start3)

noncomputable def ZW (rec_ : List Int → Int → Int → Int → (Int → Int → Option Int) → Option (List Int)) (data : List Int) (a : Int) (m : Int) (b : Int) (cmp : Int → Int → Option Int) : Option (List Int) :=
  if (decide ((i64 (m - a)) = 1)) = true then
  ((loop (t2 (Z6 data a cmp)) (m, b)) : Option ((Int))).bind (t1 fun (i : Int) =>
  ((loop (t2 (Zz i)) (data, a)) : Option (((List Int)))).bind (t1 fun (o : List Int) =>
  some o))
  else
  if (decide ((i64 (b - m)) = 1)) = true then
  ((loop (t2 (Z5 data m cmp)) (a, m)) : Option ((Int))).bind (t1 fun (i3 : Int) =>
  ((loop (t2 (ZA i3)) (data, m)) : Option (((List Int)))).bind (t1 fun (o3 : List Int) =>
  some o3))
  else
  (shr .u64 (u64 (i64 (a + b))) 1).bind fun q3 =>
  ((if (decide ((i64 q3) < m)) = true then
  some ((i64 ((i64 ((i64 q3) + m)) - b)), (i64 q3))
  else
  some (a, m)) : Option ((Int × Int))).bind (t2 fun (start : Int) (r_ : Int) =>
  ((loop (t2 (Qg data m cmp q3)) (start, r_)) : Option ((Int))).bind (t1 fun (start2 : Int) =>
  ((if ((decide (start2 < m)) && (decide (m < (i64 ((i64 ((i64 q3) + m)) - start2))))) = true then
  (Z0 data start2 m (i64 ((i64 ((i64 q3) + m)) - start2)) cmp).bind fun y4 =>
  some y4
  else
  some data) : Option (((List Int)))).bind (t1 fun (o5 : List Int) =>
  ((if ((decide (a < start2)) && (decide (start2 < (i64 q3)))) = true then
  (rec_ o5 a start2 (i64 q3) cmp).bind fun y5 =>
  some y5
  else
  some o5) : Option (((List Int)))).bind (t1 fun (o6 : List Int) =>
  if ((decide ((i64 q3) < (i64 ((i64 ((i64 q3) + m)) - start2)))) && (decide ((i64 ((i64 ((i64 q3) + m)) - start2)) < b))) = true then
  (rec_ o6 (i64 q3) (i64 ((i64 ((i64 q3) + m)) - start2)) b cmp).bind fun y6 =>
  some y6
  else
  some o6))))

noncomputable def ZC (n_ : Nat) : List Int → Int → Int → Int → (Int → Int → Option Int) → Option (List Int) :=
  Nat.rec (motive := fun _ => List Int → Int → Int → Int → (Int → Int → Option Int) → Option (List Int)) (fun _ _ _ _ _ => none) (fun _ ih => ZW ih) n_

noncomputable def ZO (n : Int) (cmp : Int → Int → Option Int) (o2 : List Int) (a2 : Int) (b : Int) : Option (((List Int) × Int × Int) ⊕ ((List Int) × Int)) :=
  if (decide (b ≤ n)) = true then
  (Zu o2 a2 b cmp).bind fun y =>
  some (.inl (y, b, (i64 (b + 20))))
  else
  some (.inr (o2, a2))

noncomputable def ZI (n : Int) (cmp : Int → Int → Option Int) (blockSize : Int) (o5 : List Int) (a4 : Int) (b2 : Int) : Option (((List Int) × Int × Int) ⊕ ((List Int) × Int)) :=
  if (decide (b2 ≤ n)) = true then
  (ZC 100 o5 a4 (i64 (a4 + blockSize)) b2 cmp).bind fun y3 =>
  some (.inl (y3, b2, (i64 (b2 + (i64 (2 * blockSize))))))
  else
  some (.inr (o5, a4))

noncomputable def ZJ (n : Int) (cmp : Int → Int → Option Int) (o3 : List Int) (blockSize : Int) : Option (((List Int) × Int) ⊕ ((List Int))) :=
  if (decide (blockSize < n)) = true then
  ((loop (t3 (ZI n cmp blockSize)) (o3, 0, (i64 (2 * blockSize)))) : Option (((List Int) × Int))).bind (t2 fun (o4 : List Int) (a3 : Int) =>
  if (decide ((i64 (a3 + blockSize)) < n)) = true then
  (ZC 100 o4 a3 (i64 (a3 + blockSize)) n cmp).bind fun y4 =>
  some (.inl (y4, (i64 (blockSize * 2))))
  else
  some (.inl (o4, (i64 (blockSize * 2)))))
  else
  some (.inr o3)

noncomputable def Qt (data : List Int) (n : Int) (cmp : Int → Int → Option Int) : Option (List Int) :=
  ((loop (t3 (ZO n cmp)) (data, 0, 20)) : Option (((List Int) × Int))).bind (t2 fun (o : List Int) (a : Int) =>
  (Zu o a n cmp).bind fun y2 =>
  loop (t2 (ZJ n cmp)) (y2, 20))

noncomputable def ZU (x : List Int) (cmp : Int → Int → Option Int) : Option (List Int) :=
  (Qt x (x.length : Int) cmp).bind fun y =>
  some y

noncomputable def Js (i : Int) (c0 : api_Memory) : Option Int :=
  (idx c0.Sectors i).bind fun x =>
  (Zap x).bind fun y =>
  some y.1

noncomputable def Jl (a : Int) (b : Int) (k : api_Memory) : Option Int :=
  (Js a k).bind fun y =>
  (Js b k).bind fun y2 =>
  some (i64 (y - y2))

noncomputable def JK (m : api_Memory) (out2 : List Int) (i : Int) : Option (((List Int) × Int) ⊕ ((List Int))) :=
  if (decide (i < (m.Sectors.length : Int))) = true then
  (idx m.Sectors i).bind fun x =>
  (Zap x).bind fun y =>
  (gd (y.2.2 == true) false (idx m.Bad i)).bind fun x2 =>
  if (y.2.2 && (!x2)) = true then
  (apz 8 out2 ([i] : List Int)).bind fun l =>
  some (.inl (l, (i64 (i + 1))))
  else
  some (.inl (out2, (i64 (i + 1))))
  else
  some (.inr out2)

noncomputable def XA (m : api_Memory) : Option (List Int) :=
  ((loop (t2 (JK m)) ([], 0)) : Option (((List Int)))).bind (t1 fun (out : List Int) =>
  (ZU out (fun z0 z1 => Jl z0 z1 m)).bind fun y2 =>
  some y2)

noncomputable def Zah (s : List Int) (i : Int) : Option (Vector Int 97) :=
  (slc s (i64 (16 + (i64 (i * 97)))) (i64 ((i64 (16 + (i64 (i * 97)))) + 97))).bind fun l =>
  (tov 97 l).bind fun v =>
  some v

noncomputable def Qj (s : List Int) (f : Int → Option Bool) (i : Int) : Option ((Int) ⊕ (Int) ⊕ (Unit)) :=
  if (decide (i < (s.length : Int))) = true then
  (idx s i).bind fun x =>
  (f x).bind fun y =>
  if y = true then
  some (.inr (.inl i))
  else
  some (.inl (i64 (i + 1)))
  else
  some (.inr (.inr ()))

noncomputable def Xc (s : List Int) (f : Int → Option Bool) : Option Int :=
  ((loop (t1 (Qj s f)) 0) : Option ((Int) ⊕ (Unit))).bind (Sum.elim (fun q' => some q') (t0 (some (-1))))

noncomputable def Qh (s : List Int) (f : Int → Option Bool) : Option Bool :=
  (Xc s f).bind fun y =>
  some (decide (0 ≤ y))

noncomputable def Jp (b : Int) : Option Bool :=
  some (!decide (b = 255))

noncomputable def Zar (p : Vector Int 97) : Option Int :=
  (ZM p 96).bind fun x =>
  if (decide (x = 0)) = true then
  some 1
  else
  (slc p.toList 0 (97 : Int)).bind fun l =>
  (Qh l (fun z0 => Jp z0)).bind fun y =>
  if y = true then
  some 2
  else
  some 0

noncomputable def Jh (m : api_Memory) (x : Int) (slot2 : Int) (i : Int) : Option ((Int × Int) ⊕ (Int)) :=
  if (decide (i < m.Slots)) = true then
  (idx m.Sectors x).bind fun x2 =>
  (Zah x2 i).bind fun y2 =>
  (Zar y2).bind fun y3 =>
  if (!decide (y3 = 0)) = true then
  some (.inl ((i64 (i + 1)), (i64 (i + 1))))
  else
  some (.inl (slot2, (i64 (i + 1))))
  else
  some (.inr slot2)

noncomputable def Xm (m : api_Memory) : Option ring_spot :=
  (XA m).bind fun y =>
  if (decide ((y.length : Int) = 0)) = true then
  some (ring_spot.mk (-1) 0)
  else
  (idx y (i64 ((y.length : Int) - 1))).bind fun x =>
  ((loop (t2 (Jh m x)) (0, 0)) : Option ((Int))).bind (t1 fun (slot : Int) =>
  some (ring_spot.mk x slot))

noncomputable def XC (y3 : (List api_Memory)) (spots2 : List ring_spot) (frozen2 : Bool) (i : Int) : Option (((List ring_spot) × Bool × Int) ⊕ ((List ring_spot) × Bool)) :=
  if (decide (i < (y3.length : Int))) = true then
  (idx y3 i).bind fun x =>
  (Xm x).bind fun y4 =>
  (apz 16 spots2 ([y4] : List ring_spot)).bind fun l2 =>
  if (decide (0 ≤ y4.sector)) = true then
  (idx x.Sectors y4.sector).bind fun x2 =>
  (Zap x2).bind fun y5 =>
  some (.inl (l2, (frozen2 || y5.2.1), (i64 (i + 1))))
  else
  some (.inl (l2, frozen2, (i64 (i + 1))))
  else
  some (.inr (spots2, frozen2))

noncomputable def XO (l : List api_Memory) (copies : Int) : Option ((Int) ⊕ (ring_Recorder × Int)) :=
  (Xo l).bind fun y =>
  if (!decide (y = 0)) = true then
  some (Sum.inl y)
  else
  (Qu copies 1 (l.length : Int)).bind fun y2 =>
  if (!y2) = true then
  some (Sum.inl 9)
  else
  (XZ l).bind fun y3 =>
  ((loop (t3 (XC y3)) ([], false, 0)) : Option (((List ring_spot) × Bool))).bind (t2 fun (spots : List ring_spot) (frozen : Bool) =>
  some (Sum.inr ((ring_Recorder.mk (ring_bank.mk y3 spots) copies frozen false 0 false), 0)))

noncomputable def XF (r_ : ring_Recorder) (power : Int) : Option Int :=
  if r_.stopped = true then
  some 15
  else
  if r_.frozen = true then
  some 11
  else
  (Qu power 0 1000000000).bind fun y =>
  if (!y) = true then
  some 9
  else
  some 0

noncomputable def Xw (w : Int) : Option Int :=
  some (i64 (QJ .u16 w 2047))

noncomputable def Xa (f : Vector Int 64) : Option Int :=
  (ZM f 1).bind fun x =>
  (Xw x).bind fun y =>
  (ZM f 2).bind fun x2 =>
  (Xw x2).bind fun y2 =>
  (shl .i64 y2 11).bind fun q =>
  some (bor .i64 y q)

def gv_frame_syncs : Vector Int 4 := #v[583, 1464, 2631, 3512]

noncomputable def Jo (x : Int) : Option Int :=
  (shr .u16 x 8).bind fun q =>
  (ZkS [0, 1, 1, 2, 1, 2, 2, 3, 1, 2, 2, 3, 2, 3, 3, 4, 1, 2, 2, 3, 2, 3, 3, 4, 2, 3, 3, 4, 3, 4, 4, 5, 1, 2, 2, 3, 2, 3, 3, 4, 2, 3, 3, 4, 3, 4, 4, 5, 2, 3, 3, 4, 3, 4, 4, 5, 3, 4, 4, 5, 4, 5, 5, 6, 1, 2, 2, 3, 2, 3, 3, 4, 2, 3, 3, 4, 3, 4, 4, 5, 2, 3, 3, 4, 3, 4, 4, 5, 3, 4, 4, 5, 4, 5, 5, 6, 2, 3, 3, 4, 3, 4, 4, 5, 3, 4, 4, 5, 4, 5, 5, 6, 3, 4, 4, 5, 4, 5, 5, 6, 4, 5, 5, 6, 5, 6, 6, 7, 1, 2, 2, 3, 2, 3, 3, 4, 2, 3, 3, 4, 3, 4, 4, 5, 2, 3, 3, 4, 3, 4, 4, 5, 3, 4, 4, 5, 4, 5, 5, 6, 2, 3, 3, 4, 3, 4, 4, 5, 3, 4, 4, 5, 4, 5, 5, 6, 3, 4, 4, 5, 4, 5, 5, 6, 4, 5, 5, 6, 5, 6, 6, 7, 2, 3, 3, 4, 3, 4, 4, 5, 3, 4, 4, 5, 4, 5, 5, 6, 3, 4, 4, 5, 4, 5, 5, 6, 4, 5, 5, 6, 5, 6, 6, 7, 3, 4, 4, 5, 4, 5, 5, 6, 4, 5, 5, 6, 5, 6, 6, 7, 4, 5, 5, 6, 5, 6, 6, 7, 5, 6, 6, 7, 6, 7, 7, 8] q).bind fun b =>
  (ZkS [0, 1, 1, 2, 1, 2, 2, 3, 1, 2, 2, 3, 2, 3, 3, 4, 1, 2, 2, 3, 2, 3, 3, 4, 2, 3, 3, 4, 3, 4, 4, 5, 1, 2, 2, 3, 2, 3, 3, 4, 2, 3, 3, 4, 3, 4, 4, 5, 2, 3, 3, 4, 3, 4, 4, 5, 3, 4, 4, 5, 4, 5, 5, 6, 1, 2, 2, 3, 2, 3, 3, 4, 2, 3, 3, 4, 3, 4, 4, 5, 2, 3, 3, 4, 3, 4, 4, 5, 3, 4, 4, 5, 4, 5, 5, 6, 2, 3, 3, 4, 3, 4, 4, 5, 3, 4, 4, 5, 4, 5, 5, 6, 3, 4, 4, 5, 4, 5, 5, 6, 4, 5, 5, 6, 5, 6, 6, 7, 1, 2, 2, 3, 2, 3, 3, 4, 2, 3, 3, 4, 3, 4, 4, 5, 2, 3, 3, 4, 3, 4, 4, 5, 3, 4, 4, 5, 4, 5, 5, 6, 2, 3, 3, 4, 3, 4, 4, 5, 3, 4, 4, 5, 4, 5, 5, 6, 3, 4, 4, 5, 4, 5, 5, 6, 4, 5, 5, 6, 5, 6, 6, 7, 2, 3, 3, 4, 3, 4, 4, 5, 3, 4, 4, 5, 4, 5, 5, 6, 3, 4, 4, 5, 4, 5, 5, 6, 4, 5, 5, 6, 5, 6, 6, 7, 3, 4, 4, 5, 4, 5, 5, 6, 4, 5, 5, 6, 5, 6, 6, 7, 4, 5, 5, 6, 5, 6, 6, 7, 5, 6, 6, 7, 6, 7, 7, 8] (QJ .u16 x 255)).bind fun b2 =>
  some (i64 (u8 (b + b2)))

noncomputable def JU (w : Int) : Option Bool :=
  (gd ((decide (w ≤ 4095)) == true) 0 (Jo w)).bind fun y =>
  (gd ((decide (w ≤ 4095)) == true) 0 (rem y 2)).bind fun q =>
  some ((decide (w ≤ 4095)) && (decide (q = 1)))

noncomputable def XK (f : Vector Int 64) (n2 : Int) (i : Int) : Option ((Int × Int) ⊕ (Int)) :=
  if (decide (i < 60)) = true then
  (ZM f (i64 (i + 1))).bind fun x =>
  (Xw x).bind fun y =>
  some (.inl ((Zb7 .i64 n2 y), (i64 (i + 1))))
  else
  some (.inr n2)

noncomputable def Jt (f : Vector Int 64) : Option Int :=
  ((loop (t2 (XK f)) (0, 0)) : Option ((Int))).bind (t1 fun (n : Int) =>
  some n)

noncomputable def Q4 (f : Vector Int 64) (i : Int) (n4 : Int) (k : Int) : Option ((Int × Int) ⊕ (Int)) :=
  if (decide (0 ≤ k)) = true then
  (shl .i64 n4 1).bind fun q =>
  (ZM f i).bind fun x =>
  (shr .u16 x k).bind fun q2 =>
  if (!((!decide ((QJ .i64 n4 2097152) = 0)) == (decide ((QJ .u16 q2 1) = 1)))) = true then
  some (.inl ((Zb7 .i64 (QJ .i64 q 4194303) 2097167), (i64 (k - 1))))
  else
  some (.inl ((QJ .i64 q 4194303), (i64 (k - 1))))
  else
  some (.inr n4)

noncomputable def Xi (f : Vector Int 64) (n2 : Int) (i : Int) : Option ((Int × Int) ⊕ (Int)) :=
  if (decide (i < 62)) = true then
  ((loop (t2 (Q4 f i)) (n2, 11)) : Option ((Int))).bind (t1 fun (n3 : Int) =>
  some (.inl (n3, (i64 (i + 1)))))
  else
  some (.inr n2)

noncomputable def XB (f : Vector Int 64) : Option Int :=
  ((loop (t2 (Xi f)) (0, 0)) : Option ((Int))).bind (t1 fun (n : Int) =>
  some n)

noncomputable def Zal (f : Vector Int 64) (out2 : List api_Flaw) (i : Int) : Option (((List api_Flaw) × Int) ⊕ ((List api_Flaw))) :=
  if (decide (i < 64)) = true then
  (ZM f i).bind fun x =>
  if (decide (4095 < x)) = true then
  (app out2 ([(api_Flaw.mk i 5)] : List api_Flaw)).bind fun l =>
  some (.inl (l, (i64 (i + 1))))
  else
  some (.inl (out2, (i64 (i + 1))))
  else
  some (.inr out2)

noncomputable def Zac (f : Vector Int 64) (out5 : List api_Flaw) (i2 : Int) : Option (((List api_Flaw) × Int) ⊕ ((List api_Flaw))) :=
  if (decide (i2 < 64)) = true then
  (ZM f i2).bind fun x4 =>
  (JU x4).bind fun y2 =>
  if (!y2) = true then
  (app out5 ([(api_Flaw.mk i2 2)] : List api_Flaw)).bind fun l3 =>
  some (.inl (l3, (i64 (i2 + 1))))
  else
  some (.inl (out5, (i64 (i2 + 1))))
  else
  some (.inr out5)

noncomputable def Zbm (f : Vector Int 64) : Option (List api_Flaw) :=
  ((loop (t2 (Zal f)) ([], 0)) : Option (((List api_Flaw)))).bind (t1 fun (out : List api_Flaw) =>
  if (decide (0 < (out.length : Int))) = true then
  some out
  else
  (((ZM f 0).bind fun x2 =>
  (Xa f).bind fun y =>
  (rem y 4).bind fun q =>
  (ZM gv_frame_syncs q).bind fun x3 =>
  if (!decide (x2 = x3)) = true then
  (app out ([(api_Flaw.mk 0 1)] : List api_Flaw)).bind fun l2 =>
  some l2
  else
  some out) : Option (((List api_Flaw)))).bind (t1 fun (out3 : List api_Flaw) =>
  ((loop (t2 (Zac f)) (out3, 1)) : Option (((List api_Flaw)))).bind (t1 fun (out4 : List api_Flaw) =>
  (((ZM f 61).bind fun x5 =>
  (Xw x5).bind fun y3 =>
  (Jt f).bind fun y4 =>
  if (!decide (y3 = y4)) = true then
  (app out4 ([(api_Flaw.mk 61 3)] : List api_Flaw)).bind fun l4 =>
  some l4
  else
  some out4) : Option (((List api_Flaw)))).bind (t1 fun (out6 : List api_Flaw) =>
  (ZM f 62).bind fun x6 =>
  (Xw x6).bind fun y5 =>
  (shl .i64 y5 11).bind fun q2 =>
  (ZM f 63).bind fun x7 =>
  (Xw x7).bind fun y6 =>
  (XB f).bind fun y7 =>
  if (!decide ((bor .i64 q2 y6) = y7)) = true then
  (app out6 ([(api_Flaw.mk 62 4)] : List api_Flaw)).bind fun l5 =>
  some l5
  else
  some out6))))

noncomputable def XY (f : Vector Int 64) : Option (Int × Bool) :=
  (ZM f 1).bind fun x =>
  (JU x).bind fun y =>
  (gd ((!y) == false) 0 (ZM f 2)).bind fun x2 =>
  (gd ((!y) == false) false (JU x2)).bind fun y2 =>
  if ((!y) || (!y2)) = true then
  some (0, false)
  else
  (Xa f).bind fun y3 =>
  some (y3, true)

noncomputable def JP (number : Int) (memories : Int) (copies : Int) (out2 : List Int) (i : Int) : Option (((List Int) × Int) ⊕ ((List Int))) :=
  if (decide (i < copies)) = true then
  (rem (i64 (number + i)) memories).bind fun q =>
  (apz 8 out2 ([q] : List Int)).bind fun l =>
  some (.inl (l, (i64 (i + 1))))
  else
  some (.inr out2)

noncomputable def Zbr (number : Int) (memories : Int) (copies : Int) : Option (List Int) :=
  ((loop (t2 (JP number memories copies)) ([], 0)) : Option (((List Int)))).bind (t1 fun (out : List Int) =>
  some out)

noncomputable def Q2 (b : ring_bank) (k : Int) : Option Bool :=
  (idx b.spots k).bind fun x =>
  (gd ((decide (x.sector < 0)) == false) (ring_spot.mk 0 0) (idx b.spots k)).bind fun x2 =>
  (gd ((decide (x.sector < 0)) == false) (api_Memory.mk 0 0 [] [] []) (idx b.memories k)).bind fun x3 =>
  some ((decide (x.sector < 0)) || (decide (x2.slot = x3.Slots)))

noncomputable def X0 (b : ring_bank) (k : Int) (x : api_Memory) (i : Int) : Option ((Int) ⊕ (Int) ⊕ (Unit)) :=
  if (decide (i < (x.Sectors.length : Int))) = true then
  (idx b.spots k).bind fun x2 =>
  (rem (i64 ((i64 (x2.sector + 1)) + i)) (x.Sectors.length : Int)).bind fun q =>
  (idx x.Bad q).bind fun x3 =>
  (gd ((!x3) == true) 0 (idx x.Wear q)).bind fun x4 =>
  if ((!x3) && (decide (x4 < x.Limit))) = true then
  some (.inr (.inl q))
  else
  some (.inl (i64 (i + 1)))
  else
  some (.inr (.inr ()))

noncomputable def Xr (b : ring_bank) (k : Int) : Option Int :=
  (idx b.memories k).bind fun x =>
  ((loop (t1 (X0 b k x)) 0) : Option ((Int) ⊕ (Unit))).bind (Sum.elim (fun q' => some q') (t0 (some (-1))))

noncomputable def Xf (sector : Int) (x : api_Memory) (most2 : Int) (i : Int) : Option ((Int × Int) ⊕ (Int)) :=
  if (decide (i < (x.Sectors.length : Int))) = true then
  (idx x.Sectors i).bind fun x2 =>
  (Zap x2).bind fun y =>
  if (y.2.2 && (!decide (i = sector))) = true then
  some (.inl ((max most2 y.1), (i64 (i + 1))))
  else
  some (.inl (most2, (i64 (i + 1))))
  else
  some (.inr most2)

noncomputable def Q0 (b : ring_bank) (k : Int) (sector : Int) : Option Int :=
  (((idx b.memories k).bind fun x =>
  loop (t2 (Xf sector x)) (0, 0)) : Option ((Int))).bind (t1 fun (most : Int) =>
  some (i64 (most + 1)))

noncomputable def XJ (b : ring_bank) (l : List Int) (i : Int) : Option ((Int) ⊕ (Int) ⊕ (Unit)) :=
  if (decide (i < (l.length : Int))) = true then
  (idx l i).bind fun x =>
  (Q2 b x).bind fun y =>
  (gd (y == true) 0 (Xr b x)).bind fun y2 =>
  if (y && (decide (y2 < 0))) = true then
  some (.inr (.inl 4))
  else
  some (.inl (i64 (i + 1)))
  else
  some (.inr (.inr ()))

noncomputable def XI (b : ring_bank) (l : List Int) (i2 : Int) : Option ((Int) ⊕ (Int) ⊕ (Unit)) :=
  if (decide (i2 < (l.length : Int))) = true then
  (idx l i2).bind fun x2 =>
  (Q2 b x2).bind fun y3 =>
  (gd (y3 == true) 0 (Xr b x2)).bind fun y4 =>
  (gd (y3 == true) 0 (Q0 b x2 y4)).bind fun y5 =>
  if (y3 && (decide (1073741824 < y5))) = true then
  some (.inr (.inl 3))
  else
  some (.inl (i64 (i2 + 1)))
  else
  some (.inr (.inr ()))

noncomputable def JO (b : ring_bank) (l : List Int) : Option Int :=
  ((loop (t1 (XJ b l)) 0) : Option ((Int) ⊕ (Unit))).bind (Sum.elim (fun q' => some q') (t0 (((loop (t1 (XI b l)) 0) : Option ((Int) ⊕ (Unit))).bind (Sum.elim (fun q' => some q') (t0 (some 0))))))

noncomputable def ZaZ (f : Vector Int 64) (i : Int) : Option ((Int) ⊕ (Bool) ⊕ (Unit)) :=
  if (decide (i < 64)) = true then
  (ZM f i).bind fun x =>
  if (decide (4095 < x)) = true then
  some (.inr (.inl true))
  else
  some (.inl (i64 (i + 1)))
  else
  some (.inr (.inr ()))

noncomputable def ZcG (f : Vector Int 64) : Option Bool :=
  ((loop (t1 (ZaZ f)) 0) : Option ((Bool) ⊕ (Unit))).bind (Sum.elim (fun q' => some q') (t0 (some false)))

noncomputable def JJ (p : Vector Int 96) (i : Int) (w : Int) : Option (Vector Int 96) :=
  (quo .i64 i 2).bind fun q =>
  (rem i 2).bind fun q2 =>
  if (decide (q2 = 0)) = true then
  (shr .u16 w 4).bind fun q3 =>
  (ZM p (i64 ((i64 (q * 3)) + 1))).bind fun x =>
  (ZM p (i64 (q * 3))).bind fun x2 =>
  (shl .u16 (QJ .u16 w 15) 4).bind fun q4 =>
  (ZM (Qz p (i64 (q * 3)) (u8 q3)) (i64 ((i64 (q * 3)) + 1))).bind fun x3 =>
  some (Qz (Qz p (i64 (q * 3)) (u8 q3)) (i64 ((i64 (q * 3)) + 1)) (bor .u8 (u8 q4) (QJ .u8 x 15)))
  else
  (ZM p (i64 ((i64 (q * 3)) + 1))).bind fun x4 =>
  (shr .u16 w 8).bind fun q5 =>
  (ZM p (i64 ((i64 (q * 3)) + 1))).bind fun x5 =>
  (ZM (Qz p (i64 ((i64 (q * 3)) + 1)) (bor .u8 (QJ .u8 x4 240) (u8 q5))) (i64 ((i64 (q * 3)) + 2))).bind fun x6 =>
  some (Qz (Qz p (i64 ((i64 (q * 3)) + 1)) (bor .u8 (QJ .u8 x4 240) (u8 q5))) (i64 ((i64 (q * 3)) + 2)) (u8 w))

noncomputable def ZaD (f : Vector Int 64) (o : Vector Int 96) (i : Int) : Option (((Vector Int 96) × Int) ⊕ ((Vector Int 96))) :=
  if (decide (i < 64)) = true then
  (ZM f i).bind fun x =>
  (JJ o i x).bind fun y =>
  some (.inl (y, (i64 (i + 1))))
  else
  some (.inr o)

noncomputable def Zdy (p : Vector Int 96) (f : Vector Int 64) : Option (Vector Int 96) :=
  loop (t2 (ZaD f)) (p, 0)

noncomputable def ZaW (f : Vector Int 64) : Option ((List Int) × Int) :=
  (ZcG f).bind fun y =>
  if y = true then
  some ([], 9)
  else
  (Zdy (Vector.replicate 96 0) f).bind fun y2 =>
  (slc y2.toList 0 (96 : Int)).bind fun l =>
  some (l, 0)

noncomputable def QL (q : Int) (o2 : List Int) (i : Int) : Option (((List Int) × Int) ⊕ ((List Int))) :=
  if (decide (i < ((Int.toNat (q - 0) : Nat) : Int))) = true then
  (ck (decide ((0 : Int) ≤ i) && decide (i < ((Int.toNat (q - 0) : Nat) : Int)))).bind fun u2 =>
  (idx o2 (0 + i)).bind fun x2 =>
  some (.inl ((o2.set (0 + i).toNat 255), (i64 (i + 1))))
  else
  some (.inr o2)

noncomputable def QM (s : List Int) (o4 : List Int) (i2 : Int) : Option (((List Int) × Int) ⊕ ((List Int))) :=
  if (decide (i2 < (s.length : Int))) = true then
  (idx o4 i2).bind fun x3 =>
  some (.inl ((o4.set i2.toNat 255), (i64 (i2 + 1))))
  else
  some (.inr o4)

noncomputable def Xk (s : List Int) (power : Int) : Option (Int × Bool × (List Int)) :=
  if (decide (power = 0)) = true then
  (quo .i64 (s.length : Int) 2).bind fun q =>
  (slp s 0 q).bind fun u =>
  ((loop (t2 (QL q)) (s, 0)) : Option (((List Int)))).bind (t1 fun (o : List Int) =>
  some ((max (i64 (power - 1)) 0), (decide (0 < power)), o))
  else
  ((loop (t2 (QM s)) (s, 0)) : Option (((List Int)))).bind (t1 fun (o3 : List Int) =>
  some ((max (i64 (power - 1)) 0), (decide (0 < power)), o3))

noncomputable def Q3 (at_ : Int) (data : List Int) (o2 : List Int) (power3 : Int) (i : Int) : Option (((List Int) × Int × Int) ⊕ (Int × Bool × (List Int)) ⊕ ((List Int) × Int)) :=
  if (decide (i < (data.length : Int))) = true then
  (idx data i).bind fun x =>
  if (decide (power3 = 0)) = true then
  (idx o2 (i64 (at_ + i))).bind fun x2 =>
  (idx o2 (i64 (at_ + i))).bind fun x3 =>
  some (.inr (.inl (0, false, (o2.set (i64 (at_ + i)).toNat (QJ .u8 x2 (bor .u8 x 15))))))
  else
  (idx o2 (i64 (at_ + i))).bind fun x4 =>
  (idx o2 (i64 (at_ + i))).bind fun x5 =>
  some (.inl ((o2.set (i64 (at_ + i)).toNat (QJ .u8 x4 x)), (i64 (power3 - 1)), (i64 (i + 1))))
  else
  some (.inr (.inr (o2, power3)))

noncomputable def Q7 (s : List Int) (at_ : Int) (data : List Int) (power : Int) : Option (Int × Bool × (List Int)) :=
  ((loop (t3 (Q3 at_ data)) (s, power, 0)) : Option ((Int × Bool × (List Int)) ⊕ ((List Int) × Int))).bind (Sum.elim (fun q' => some q') (t2 fun (o : List Int) (power2 : Int) =>
  some (power2, true, o)))

noncomputable def X4 (b : ring_Recorder) (k : Int) (power : Int) : Option (Int × Bool × ring_Recorder) :=
  (idx b.bank.memories k).bind fun x =>
  (Xr b.bank k).bind fun y =>
  (Q0 b.bank k y).bind fun y2 =>
  (idx x.Wear y).bind fun x2 =>
  (idx x.Wear y).bind fun x3 =>
  (idx x.Sectors y).bind fun x8 =>
  (Xk x8 power).bind fun y3 =>
  if (!y3.2.1) = true then
  some (y3.1, false, (ring_Recorder.mk (ring_bank.mk ((b.bank.memories.set k.toNat (api_Memory.mk x.Slots x.Limit x.Sectors (x.Wear.set y.toNat (i64 (x2 + 1))) x.Bad)).set k.toNat (api_Memory.mk x.Slots x.Limit (x.Sectors.set y.toNat y3.2.2) (x.Wear.set y.toNat (i64 (x2 + 1))) x.Bad)) b.bank.spots) b.copies b.frozen b.stopped b.last b.some_))
  else
  (((idx ((b.bank.memories.set k.toNat (api_Memory.mk x.Slots x.Limit x.Sectors (x.Wear.set y.toNat (i64 (x2 + 1))) x.Bad)).set k.toNat (api_Memory.mk x.Slots x.Limit (x.Sectors.set y.toNat y3.2.2) (x.Wear.set y.toNat (i64 (x2 + 1))) x.Bad)) k).bind fun x14 =>
  (idx x14.Sectors y).bind fun x15 =>
  (idx x14.Sectors y).bind fun x16 =>
  (Zbn y2).bind fun y4 =>
  (Q7 x15 0 y4 y3.1).bind fun y5 =>
  if y5.2.1 = true then
  (idx b.bank.spots k).bind fun x22 =>
  some ((((b.bank.memories.set k.toNat (api_Memory.mk x.Slots x.Limit x.Sectors (x.Wear.set y.toNat (i64 (x2 + 1))) x.Bad)).set k.toNat (api_Memory.mk x.Slots x.Limit (x.Sectors.set y.toNat y3.2.2) (x.Wear.set y.toNat (i64 (x2 + 1))) x.Bad)).set k.toNat (api_Memory.mk x14.Slots x14.Limit (x14.Sectors.set y.toNat y5.2.2) x14.Wear x14.Bad)), (b.bank.spots.set k.toNat (ring_spot.mk y 0)), y5.1, y5.2.1)
  else
  some ((((b.bank.memories.set k.toNat (api_Memory.mk x.Slots x.Limit x.Sectors (x.Wear.set y.toNat (i64 (x2 + 1))) x.Bad)).set k.toNat (api_Memory.mk x.Slots x.Limit (x.Sectors.set y.toNat y3.2.2) (x.Wear.set y.toNat (i64 (x2 + 1))) x.Bad)).set k.toNat (api_Memory.mk x14.Slots x14.Limit (x14.Sectors.set y.toNat y5.2.2) x14.Wear x14.Bad)), b.bank.spots, y5.1, y5.2.1)) : Option (((List api_Memory) × (List ring_spot) × Int × Bool))).bind (t4 fun (memories : List api_Memory) (spots : List ring_spot) (power2 : Int) (all : Bool) =>
  some (power2, all, (ring_Recorder.mk (ring_bank.mk memories spots) b.copies b.frozen b.stopped b.last b.some_)))

noncomputable def JF (b : ring_Recorder) (k : Int) (data : List Int) (power : Int) : Option (Int × Bool × ring_Recorder) :=
  (((Q2 b.bank k).bind fun y =>
  if y = true then
  (X4 b k power).bind fun y2 =>
  if (!y2.2.1) = true then
  some (.inl (y2.1, false, y2.2.2))
  else
  some (.inr (y2.2.2.bank.memories, y2.2.2.bank.spots, y2.2.2.copies, y2.2.2.frozen, y2.2.2.stopped, y2.2.2.last, y2.2.2.some_, y2.1))
  else
  some (.inr (b.bank.memories, b.bank.spots, b.copies, b.frozen, b.stopped, b.last, b.some_, power))) : Option ((Int × Bool × ring_Recorder) ⊕ ((List api_Memory) × (List ring_spot) × Int × Bool × Bool × Int × Bool × Int))).bind (Sum.elim (fun q' => some q') (t8 fun (memories : List api_Memory) (spots : List ring_spot) (copies : Int) (frozen : Bool) (stopped : Bool) (last : Int) (some_ : Bool) (power2 : Int) =>
  (idx spots k).bind fun x =>
  (idx memories k).bind fun x2 =>
  (idx x2.Sectors x.sector).bind fun x3 =>
  (idx memories k).bind fun x4 =>
  (idx x2.Sectors x.sector).bind fun x5 =>
  (apz 1 data ([0] : List Int)).bind fun l =>
  (Q7 x3 (i64 (16 + (i64 (x.slot * 97)))) l power2).bind fun y3 =>
  some (y3.1, y3.2.1, (ring_Recorder.mk (ring_bank.mk (memories.set k.toNat (api_Memory.mk x2.Slots x2.Limit (x2.Sectors.set x.sector.toNat y3.2.2) x2.Wear x2.Bad)) (spots.set k.toNat (ring_spot.mk x.sector (i64 (x.slot + 1))))) copies frozen stopped last some_))))

noncomputable def Zy (y4 : (List Int)) (y6 : (List Int) × Int) (memories2 : List api_Memory) (spots2 : List ring_spot) (copies2 : Int) (frozen2 : Bool) (stopped2 : Bool) (last2 : Int) (some_2 : Bool) (power3 : Int) (i : Int) : Option (((List api_Memory) × (List ring_spot) × Int × Bool × Bool × Int × Bool × Int × Int) ⊕ (Int × Bool × Int × ring_Recorder) ⊕ ((List api_Memory) × (List ring_spot) × Int × Bool × Bool × Int × Bool × Int)) :=
  if (decide (i < (y4.length : Int))) = true then
  (idx y4 i).bind fun x =>
  (slc y6.1 0 (y6.1.length : Int)).bind fun l =>
  (JF (ring_Recorder.mk (ring_bank.mk memories2 spots2) copies2 frozen2 stopped2 last2 some_2) x l power3).bind fun y7 =>
  if (!y7.2.1) = true then
  some (.inr (.inl (y7.1, false, 0, (ring_Recorder.mk y7.2.2.bank y7.2.2.copies y7.2.2.frozen true y7.2.2.last y7.2.2.some_))))
  else
  some (.inl (y7.2.2.bank.memories, y7.2.2.bank.spots, y7.2.2.copies, y7.2.2.frozen, y7.2.2.stopped, y7.2.2.last, y7.2.2.some_, y7.1, (i64 (i + 1))))
  else
  some (.inr (.inr (memories2, spots2, copies2, frozen2, stopped2, last2, some_2, power3)))

noncomputable def Z9 (r_ : ring_Recorder) (f : Vector Int 64) (power : Int) : Option (Int × Bool × Int × ring_Recorder) :=
  (XF r_ power).bind fun y =>
  if (!decide (y = 0)) = true then
  some (0, false, y, r_)
  else
  (Zbm f).bind fun y2 =>
  if (decide (0 < (y2.length : Int))) = true then
  some (0, false, 2, r_)
  else
  (XY f).bind fun y3 =>
  (Zbr y3.1 (r_.bank.memories.length : Int) r_.copies).bind fun y4 =>
  (JO r_.bank y4).bind fun y5 =>
  if (!decide (y5 = 0)) = true then
  some (0, false, y5, r_)
  else
  (ZaW f).bind fun y6 =>
  ((loop (t9 (Zy y4 y6)) (r_.bank.memories, r_.bank.spots, r_.copies, r_.frozen, r_.stopped, r_.last, r_.some_, power, 0)) : Option ((Int × Bool × Int × ring_Recorder) ⊕ ((List api_Memory) × (List ring_spot) × Int × Bool × Bool × Int × Bool × Int))).bind (Sum.elim (fun q' => some q') (t8 fun (memories : List api_Memory) (spots : List ring_spot) (copies : Int) (frozen : Bool) (stopped : Bool) (last : Int) (some_ : Bool) (power2 : Int) =>
  some (power2, true, 0, (ring_Recorder.mk (ring_bank.mk memories spots) copies frozen stopped y3.1 true))))

noncomputable def QH (r_ : ring_Recorder) : Option (List api_Memory) :=
  (XZ r_.bank.memories).bind fun y =>
  some y

noncomputable def ZbE (p : Vector Int 96) (i : Int) : Option Int :=
  (quo .i64 i 2).bind fun q =>
  (rem i 2).bind fun q2 =>
  if (decide (q2 = 0)) = true then
  (ZM p (i64 (q * 3))).bind fun x =>
  (shl .u16 (u16 x) 4).bind fun q3 =>
  (ZM p (i64 ((i64 (q * 3)) + 1))).bind fun x2 =>
  (shr .u16 (u16 x2) 4).bind fun q4 =>
  some (bor .u16 q3 q4)
  else
  (ZM p (i64 ((i64 (q * 3)) + 1))).bind fun x3 =>
  (shl .u16 (QJ .u16 (u16 x3) 15) 8).bind fun q5 =>
  (ZM p (i64 ((i64 (q * 3)) + 2))).bind fun x4 =>
  some (bor .u16 q5 (u16 x4))

noncomputable def ZaM (p : Vector Int 96) (f2 : Vector Int 64) (i : Int) : Option (((Vector Int 64) × Int) ⊕ ((Vector Int 64))) :=
  if (decide (i < 64)) = true then
  (ZbE p i).bind fun y =>
  (ZM f2 i).bind fun x =>
  some (.inl ((Qz f2 i y), (i64 (i + 1))))
  else
  some (.inr f2)

noncomputable def ZcL (p : Vector Int 96) : Option (Vector Int 64) :=
  ((loop (t2 (ZaM p)) ((Vector.replicate 64 0), 0)) : Option (((Vector Int 64)))).bind (t1 fun (f : Vector Int 64) =>
  some f)

noncomputable def XT (b : List Int) : Option ((Vector Int 64) × Int) :=
  if (decide ((b.length : Int) < 96)) = true then
  some ((#v[0, 0, 0, 0, 0, 0, 0, 0, 0, 0, 0, 0, 0, 0, 0, 0, 0, 0, 0, 0, 0, 0, 0, 0, 0, 0, 0, 0, 0, 0, 0, 0, 0, 0, 0, 0, 0, 0, 0, 0, 0, 0, 0, 0, 0, 0, 0, 0, 0, 0, 0, 0, 0, 0, 0, 0, 0, 0, 0, 0, 0, 0, 0, 0] : Vector Int 64), 3)
  else
  (slc b 0 96).bind fun l =>
  (tov 96 l).bind fun v =>
  (ZcL v).bind fun y =>
  some (y, 0)

noncomputable def JI (i : Int) (x : api_Memory) (x2 : Int) (y3 : Int × Bool × Bool) (out6 : List api_Kept) (i3 : Int) : Option (((List api_Kept) × Int) ⊕ ((List api_Kept))) :=
  if (decide (i3 < x.Slots)) = true then
  (idx x.Sectors x2).bind fun x4 =>
  (Zah x4 i3).bind fun y4 =>
  (Zar y4).bind fun y5 =>
  if (decide (y5 = 1)) = true then
  (slc y4.toList 0 (97 : Int)).bind fun l2 =>
  (XT l2).bind fun y6 =>
  (apz 160 out6 ([(api_Kept.mk i x2 y3.1 i3 y6.1)] : List api_Kept)).bind fun l3 =>
  some (.inl (l3, (i64 (i3 + 1))))
  else
  some (.inl (out6, (i64 (i3 + 1))))
  else
  some (.inr out6)

noncomputable def JQ (i : Int) (x : api_Memory) (y2 : (List Int)) (out4 : List api_Kept) (i2 : Int) : Option (((List api_Kept) × Int) ⊕ ((List api_Kept))) :=
  if (decide (i2 < (y2.length : Int))) = true then
  (((idx y2 i2).bind fun x2 =>
  (idx x.Sectors x2).bind fun x3 =>
  (Zap x3).bind fun y3 =>
  loop (t2 (JI i x x2 y3)) (out4, 0)) : Option (((List api_Kept)))).bind (t1 fun (out5 : List api_Kept) =>
  some (.inl (out5, (i64 (i2 + 1)))))
  else
  some (.inr out4)

noncomputable def JG (l : List api_Memory) (out2 : List api_Kept) (i : Int) : Option (((List api_Kept) × Int) ⊕ ((List api_Kept))) :=
  if (decide (i < (l.length : Int))) = true then
  (((idx l i).bind fun x =>
  (XA x).bind fun y2 =>
  loop (t2 (JQ i x y2)) (out2, 0)) : Option (((List api_Kept)))).bind (t1 fun (out3 : List api_Kept) =>
  some (.inl (out3, (i64 (i + 1)))))
  else
  some (.inr out2)

noncomputable def ZbB (l : List api_Memory) : Option ((List api_Kept) × Int) :=
  (Xo l).bind fun y =>
  if (!decide (y = 0)) = true then
  some ([], y)
  else
  ((loop (t2 (JG l)) ([], 0)) : Option (((List api_Kept)))).bind (t1 fun (out : List api_Kept) =>
  some (out, 0))

noncomputable def Xu (y : (List api_Kept) × Int) (best2 : List (Int × api_Kept)) (numbers2 : List Int) (i : Int) : Option (((List (Int × api_Kept)) × (List Int) × Int) ⊕ ((List (Int × api_Kept)) × (List Int))) :=
  if (decide (i < (y.1.length : Int))) = true then
  (idx y.1 i).bind fun x =>
  (Zbm x.Frame).bind fun y2 =>
  if (decide (0 < (y2.length : Int))) = true then
  some (.inl (best2, numbers2, (i64 (i + 1))))
  else
  (XY x.Frame).bind fun y3 =>
  (some (mget kqI best2 y3.1)).bind fun o =>
  ((if (!o.isSome) = true then
  (apz 8 numbers2 ([y3.1] : List Int)).bind fun l2 =>
  some l2
  else
  some numbers2) : Option (((List Int)))).bind (t1 fun (numbers3 : List Int) =>
  if ((!o.isSome) || (decide (((o.getD (api_Kept.mk 0 0 0 0 (Vector.replicate 64 0))).Sequence) < x.Sequence))) = true then
  some (.inl ((Zfe kqI best2 y3.1 x), numbers3, (i64 (i + 1))))
  else
  some (.inl (best2, numbers3, (i64 (i + 1)))))
  else
  some (.inr (best2, numbers2))

noncomputable def Zag (best : List (Int × api_Kept)) (y4 : List Int) (out2 : List (Vector Int 64)) (i2 : Int) : Option (((List (Vector Int 64)) × Int) ⊕ ((List (Vector Int 64)))) :=
  if (decide (i2 < (y4.length : Int))) = true then
  (idx y4 i2).bind fun x2 =>
  (some ((mget kqI best x2).getD (api_Kept.mk 0 0 0 0 (Vector.replicate 64 0)))).bind fun o2 =>
  (apz 128 out2 ([o2.Frame] : List (Vector Int 64))).bind fun l3 =>
  some (.inl (l3, (i64 (i2 + 1))))
  else
  some (.inr out2)

noncomputable def Zak (l : List api_Memory) : Option ((List (Vector Int 64)) × Int) :=
  (ZbB l).bind fun y =>
  if (!decide (y.2 = 0)) = true then
  some ([], y.2)
  else
  ((loop (t3 (Xu y)) (([] : List (Int × api_Kept)), [], 0)) : Option (((List (Int × api_Kept)) × (List Int)))).bind (t2 fun (best : List (Int × api_Kept)) (numbers : List Int) =>
  (Zgp numbers).bind fun y4 =>
  ((loop (t2 (Zag best y4)) ([], 0)) : Option (((List (Vector Int 64))))).bind (t1 fun (out : List (Vector Int 64)) =>
  some (out, 0)))

noncomputable def Ji (x : Int) (out4 : List Int) (k : Int) : Option (((List Int) × Int) ⊕ ((List Int))) :=
  if (decide (0 ≤ k)) = true then
  (shr .u32 x k).bind fun q =>
  (apz 1 out4 ([(u8 q)] : List Int)).bind fun l =>
  some (.inl (l, (i64 (k - 8))))
  else
  some (.inr out4)

noncomputable def Jq (sequence : Int) (out2 : List Int) (i : Int) : Option (((List Int) × Int) ⊕ ((List Int))) :=
  if (decide (i < (([(u32 sequence), (Zb7 .u32 4294967295 (u32 sequence))] : List Int).length : Int))) = true then
  (((idx ([(u32 sequence), (Zb7 .u32 4294967295 (u32 sequence))] : List Int) i).bind fun x =>
  loop (t2 (Ji x)) (out2, 24)) : Option (((List Int)))).bind (t1 fun (out3 : List Int) =>
  some (.inl (out3, (i64 (i + 1)))))
  else
  some (.inr out2)

noncomputable def Zd5 (sequence : Int) : Option (List Int) :=
  ((loop (t2 (Jq sequence)) (([79, 66] : List Int), 0)) : Option (((List Int)))).bind (t1 fun (out : List Int) =>
  some out)

noncomputable def Zao (s : List Int) (sequence2 : Int) (k : Int) : Option ((Int × Int) ⊕ (Int)) :=
  if (decide (k < 6)) = true then
  (idx s k).bind fun x =>
  some (.inl ((i64 ((i64 (sequence2 * 256)) + (i64 x))), (i64 (k + 1))))
  else
  some (.inr sequence2)

noncomputable def Zdf (s : List Int) : Option (Int × Bool × Bool) :=
  if (decide ((s.length : Int) < 16)) = true then
  some (0, false, false)
  else
  ((loop (t2 (Zao s)) (0, 2)) : Option ((Int))).bind (t1 fun (sequence : Int) =>
  (QT sequence 1 1073741824).bind fun y =>
  (gd (y == false) [] (Zd5 sequence)).bind fun y2 =>
  (gd (y == false) [] (slc s 0 10)).bind fun l =>
  if (y || (!decide ((ZdC y2) = (ZdC l)))) = true then
  some (0, false, false)
  else
  (idx s 10).bind fun x2 =>
  some (sequence, (!decide (x2 = 255)), true))

noncomputable def ZdI (s : List Int) : Option (Int × Bool) :=
  (quo .i64 (i64 ((s.length : Int) - 16)) 97).bind fun q =>
  (gd ((decide (97 ≤ (i64 ((s.length : Int) - 16)))) == true) 0 (rem (i64 ((s.length : Int) - 16)) 97)).bind fun q2 =>
  some (q, ((decide (97 ≤ (i64 ((s.length : Int) - 16)))) && (decide (q2 = 0))))

noncomputable def Ze2 (s : List Int) : Option Int :=
  (gd ((decide ((i64 ((s.length : Int) - 16)) ≤ 0)) == false) 0 (rem (i64 ((s.length : Int) - 16)) 97)).bind fun q =>
  if ((decide ((i64 ((s.length : Int) - 16)) ≤ 0)) || (!decide (q = 0))) = true then
  some (-1)
  else
  (quo .i64 (i64 ((s.length : Int) - 16)) 97).bind fun q2 =>
  some q2

noncomputable def Zex (s : List Int) (i : Int) : Option (List Int) :=
  (slc s (i64 (16 + (i64 (i * 97)))) (i64 (16 + (i64 ((i64 (i + 1)) * 97))))).bind fun l =>
  some l

noncomputable def ZbV (y : (List Int)) (i2 : Int) : Option ((Int) ⊕ (Int) ⊕ (Unit)) :=
  if (decide (i2 < (y.length : Int))) = true then
  (idx y i2).bind fun x2 =>
  if (!decide (x2 = 255)) = true then
  some (.inr (.inl 2))
  else
  some (.inl (i64 (i2 + 1)))
  else
  some (.inr (.inr ()))

noncomputable def Ze8 (s : List Int) (i : Int) : Option Int :=
  (Zex s i).bind fun y =>
  (idx y 96).bind fun x =>
  if (decide (x = 0)) = true then
  some 1
  else
  ((loop (t1 (ZbV y)) 0) : Option ((Int) ⊕ (Unit))).bind (Sum.elim (fun q' => some q') (t0 (some 0)))

noncomputable def Zec (s : List Int) (i : Int) : Option ((Vector Int 64) × Int) :=
  (ZdI s).bind fun y =>
  if (!y.2) = true then
  some ((#v[0, 0, 0, 0, 0, 0, 0, 0, 0, 0, 0, 0, 0, 0, 0, 0, 0, 0, 0, 0, 0, 0, 0, 0, 0, 0, 0, 0, 0, 0, 0, 0, 0, 0, 0, 0, 0, 0, 0, 0, 0, 0, 0, 0, 0, 0, 0, 0, 0, 0, 0, 0, 0, 0, 0, 0, 0, 0, 0, 0, 0, 0, 0, 0] : Vector Int 64), 3)
  else
  (Qu i 0 (i64 (y.1 - 1))).bind fun y2 =>
  if (!y2) = true then
  some ((#v[0, 0, 0, 0, 0, 0, 0, 0, 0, 0, 0, 0, 0, 0, 0, 0, 0, 0, 0, 0, 0, 0, 0, 0, 0, 0, 0, 0, 0, 0, 0, 0, 0, 0, 0, 0, 0, 0, 0, 0, 0, 0, 0, 0, 0, 0, 0, 0, 0, 0, 0, 0, 0, 0, 0, 0, 0, 0, 0, 0, 0, 0, 0, 0] : Vector Int 64), 9)
  else
  (Zah s i).bind fun y3 =>
  (slc y3.toList 0 (97 : Int)).bind fun l =>
  (XT l).bind fun y4 =>
  some (y4.1, y4.2)

noncomputable def JW (b : List Int) (i : Int) (f4 : Vector Int 64) (i2 : Int) : Option (((Vector Int 64) × Int) ⊕ ((Vector Int 64))) :=
  if (decide (i2 < 3)) = true then
  (quo .i64 (i64 ((i64 (3 * i)) + i2)) 2).bind fun q =>
  (idx b q).bind fun x =>
  (quo .i64 (i64 x) 16).bind fun q2 =>
  (((rem (i64 ((i64 (3 * i)) + i2)) 2).bind fun q3 =>
  if (decide (q3 = 1)) = true then
  (quo .i64 (i64 ((i64 (3 * i)) + i2)) 2).bind fun q4 =>
  (idx b q4).bind fun x2 =>
  (rem (i64 x2) 16).bind fun q5 =>
  some q5
  else
  some q2) : Option ((Int))).bind (t1 fun (half : Int) =>
  (ZM f4 i).bind fun x3 =>
  (ZM f4 i).bind fun x4 =>
  some (.inl ((Qz f4 i (u16 ((u16 (x3 * 16)) + (u16 half)))), (i64 (i2 + 1)))))
  else
  some (.inr f4)

noncomputable def ZbX (b : List Int) (f2 : Vector Int 64) (i : Int) : Option (((Vector Int 64) × Int) ⊕ ((Vector Int 64))) :=
  if (decide (i < 64)) = true then
  ((loop (t2 (JW b i)) (f2, 0)) : Option (((Vector Int 64)))).bind (t1 fun (f3 : Vector Int 64) =>
  some (.inl (f3, (i64 (i + 1)))))
  else
  some (.inr f2)

noncomputable def ZeX (b : List Int) : Option (Vector Int 64) :=
  ((loop (t2 (ZbX b)) ((#v[0, 0, 0, 0, 0, 0, 0, 0, 0, 0, 0, 0, 0, 0, 0, 0, 0, 0, 0, 0, 0, 0, 0, 0, 0, 0, 0, 0, 0, 0, 0, 0, 0, 0, 0, 0, 0, 0, 0, 0, 0, 0, 0, 0, 0, 0, 0, 0, 0, 0, 0, 0, 0, 0, 0, 0, 0, 0, 0, 0, 0, 0, 0, 0] : Vector Int 64), 0)) : Option (((Vector Int 64)))).bind (t1 fun (f : Vector Int 64) =>
  some f)

noncomputable def ZcF (b : List Int) : Option ((Vector Int 64) × Int) :=
  if (decide ((b.length : Int) < 96)) = true then
  some ((#v[0, 0, 0, 0, 0, 0, 0, 0, 0, 0, 0, 0, 0, 0, 0, 0, 0, 0, 0, 0, 0, 0, 0, 0, 0, 0, 0, 0, 0, 0, 0, 0, 0, 0, 0, 0, 0, 0, 0, 0, 0, 0, 0, 0, 0, 0, 0, 0, 0, 0, 0, 0, 0, 0, 0, 0, 0, 0, 0, 0, 0, 0, 0, 0] : Vector Int 64), 3)
  else
  (ZeX b).bind fun y =>
  some (y, 0)

noncomputable def ZcT (s : List Int) (i : Int) : Option ((Vector Int 64) × Int) :=
  (Ze2 s).bind fun y =>
  if (decide (y < 0)) = true then
  some ((#v[0, 0, 0, 0, 0, 0, 0, 0, 0, 0, 0, 0, 0, 0, 0, 0, 0, 0, 0, 0, 0, 0, 0, 0, 0, 0, 0, 0, 0, 0, 0, 0, 0, 0, 0, 0, 0, 0, 0, 0, 0, 0, 0, 0, 0, 0, 0, 0, 0, 0, 0, 0, 0, 0, 0, 0, 0, 0, 0, 0, 0, 0, 0, 0] : Vector Int 64), 3)
  else
  (QT i 0 (i64 (y - 1))).bind fun y2 =>
  if y2 = true then
  some ((#v[0, 0, 0, 0, 0, 0, 0, 0, 0, 0, 0, 0, 0, 0, 0, 0, 0, 0, 0, 0, 0, 0, 0, 0, 0, 0, 0, 0, 0, 0, 0, 0, 0, 0, 0, 0, 0, 0, 0, 0, 0, 0, 0, 0, 0, 0, 0, 0, 0, 0, 0, 0, 0, 0, 0, 0, 0, 0, 0, 0, 0, 0, 0, 0] : Vector Int 64), 9)
  else
  (Zex s i).bind fun y3 =>
  (ZcF y3).bind fun y4 =>
  some (y4.1, y4.2)

noncomputable def Jf (m : api_Memory) (i : Int) : Option ((Int) ⊕ (Int) ⊕ (Unit)) :=
  if (decide (i < (m.Sectors.length : Int))) = true then
  (idx m.Sectors i).bind fun x =>
  if (!decide ((x.length : Int) = (i64 (16 + (i64 (m.Slots * 97)))))) = true then
  some (.inr (.inl 3))
  else
  (idx m.Wear i).bind fun x2 =>
  (QT x2 0 m.Limit).bind fun y4 =>
  if y4 = true then
  some (.inr (.inl 9))
  else
  some (.inl (i64 (i + 1)))
  else
  some (.inr (.inr ()))

noncomputable def Jm (m : api_Memory) : Option Int :=
  (QT m.Slots 1 64).bind fun y =>
  (gd (y == false) false (QT m.Limit 1 1000000)).bind fun y2 =>
  (gd ((y || y2) == false) false (QT (m.Sectors.length : Int) 2 64)).bind fun y3 =>
  if ((y || y2) || y3) = true then
  some 9
  else
  if ((!decide ((m.Wear.length : Int) = (m.Sectors.length : Int))) || (!decide ((m.Bad.length : Int) = (m.Sectors.length : Int)))) = true then
  some 2
  else
  ((loop (t1 (Jf m)) 0) : Option ((Int) ⊕ (Unit))).bind (Sum.elim (fun q' => some q') (t0 (some 0)))

noncomputable def Zby (m : api_Memory) (out2 : List Int) (y : Int × Bool × Bool) (at_2 : Int) : Option ((Int) ⊕ (Int)) :=
  if (decide (0 < at_2)) = true then
  (idx out2 (i64 (at_2 - 1))).bind fun x3 =>
  (idx m.Sectors x3).bind fun x4 =>
  (Zdf x4).bind fun y2 =>
  if (decide (y2.1 ≤ y.1)) = true then
  some (.inr at_2)
  else
  some (.inl (i64 (at_2 - 1)))
  else
  some (.inr at_2)

noncomputable def Zbu (m : api_Memory) (out2 : List Int) (i : Int) : Option (((List Int) × Int) ⊕ ((List Int))) :=
  if (decide (i < (m.Sectors.length : Int))) = true then
  (idx m.Sectors i).bind fun x =>
  (Zdf x).bind fun y =>
  (gd ((!y.2.2) == false) false (idx m.Bad i)).bind fun x2 =>
  if ((!y.2.2) || x2) = true then
  some (.inl (out2, (i64 (i + 1))))
  else
  ((loop (t1 (Zby m out2 y)) (out2.length : Int)) : Option ((Int))).bind (t1 fun (at_ : Int) =>
  (apz 8 out2 ([0] : List Int)).bind fun l =>
  (slq l (i64 (at_ + 1)) (l.length : Int)).bind fun u =>
  (slq l at_ (l.length : Int)).bind fun u2 =>
  (idx (cpy l (i64 (at_ + 1)).toNat (Int.toNat ((l.length : Int) - (i64 (at_ + 1)))) at_.toNat (Int.toNat ((l.length : Int) - at_))) at_).bind fun x5 =>
  some (.inl (((cpy l (i64 (at_ + 1)).toNat (Int.toNat ((l.length : Int) - (i64 (at_ + 1)))) at_.toNat (Int.toNat ((l.length : Int) - at_))).set at_.toNat i), (i64 (i + 1)))))
  else
  some (.inr out2)

noncomputable def ZbZ (m : api_Memory) : Option (List Int) :=
  ((loop (t2 (Zbu m)) ([], 0)) : Option (((List Int)))).bind (t1 fun (out : List Int) =>
  some out)

noncomputable def ZbW (l : List api_Memory) (i : Int) : Option ((Int) ⊕ (Int) ⊕ (Unit)) :=
  if (decide (i < (l.length : Int))) = true then
  (idx l i).bind fun x =>
  (Jm x).bind fun y =>
  if (!decide (y = 0)) = true then
  some (.inr (.inl y))
  else
  some (.inl (i64 (i + 1)))
  else
  some (.inr (.inr ()))

noncomputable def Zbi (l : List api_Memory) : Option Int :=
  if ((decide ((l.length : Int) = 0)) || (decide (8 < (l.length : Int)))) = true then
  some 3
  else
  ((loop (t1 (ZbW l)) 0) : Option ((Int) ⊕ (Unit))).bind (Sum.elim (fun q' => some q') (t0 (some 0)))

noncomputable def Za3 (i : Int) (x : api_Memory) (x2 : Int) (y3 : Int × Bool × Bool) (out6 : List api_Kept) (i3 : Int) : Option (((List api_Kept) × Int) ⊕ ((List api_Kept))) :=
  if (decide (i3 < x.Slots)) = true then
  (idx x.Sectors x2).bind fun x4 =>
  (Ze8 x4 i3).bind fun y4 =>
  if (decide (y4 = 1)) = true then
  (idx x.Sectors x2).bind fun x5 =>
  (ZcT x5 i3).bind fun y5 =>
  (apz 160 out6 ([(api_Kept.mk i x2 y3.1 i3 y5.1)] : List api_Kept)).bind fun l2 =>
  some (.inl (l2, (i64 (i3 + 1))))
  else
  some (.inl (out6, (i64 (i3 + 1))))
  else
  some (.inr out6)

noncomputable def Za8 (i : Int) (x : api_Memory) (y2 : (List Int)) (out4 : List api_Kept) (i2 : Int) : Option (((List api_Kept) × Int) ⊕ ((List api_Kept))) :=
  if (decide (i2 < (y2.length : Int))) = true then
  (((idx y2 i2).bind fun x2 =>
  (idx x.Sectors x2).bind fun x3 =>
  (Zdf x3).bind fun y3 =>
  loop (t2 (Za3 i x x2 y3)) (out4, 0)) : Option (((List api_Kept)))).bind (t1 fun (out5 : List api_Kept) =>
  some (.inl (out5, (i64 (i2 + 1)))))
  else
  some (.inr out4)

noncomputable def Za7 (l : List api_Memory) (out2 : List api_Kept) (i : Int) : Option (((List api_Kept) × Int) ⊕ ((List api_Kept))) :=
  if (decide (i < (l.length : Int))) = true then
  (((idx l i).bind fun x =>
  (ZbZ x).bind fun y2 =>
  loop (t2 (Za8 i x y2)) (out2, 0)) : Option (((List api_Kept)))).bind (t1 fun (out3 : List api_Kept) =>
  some (.inl (out3, (i64 (i + 1)))))
  else
  some (.inr out2)

noncomputable def Zdt (l : List api_Memory) : Option ((List api_Kept) × Int) :=
  (Zbi l).bind fun y =>
  if (!decide (y = 0)) = true then
  some ([], y)
  else
  ((loop (t2 (Za7 l)) ([], 0)) : Option (((List api_Kept)))).bind (t1 fun (out : List api_Kept) =>
  some (out, 0))

noncomputable def ZaS (f : Vector Int 64) (out2 : List api_Flaw) (i : Int) : Option (((List api_Flaw) × Int) ⊕ ((List api_Flaw))) :=
  if (decide (i < 64)) = true then
  (ZM f i).bind fun x =>
  if (decide (4095 < x)) = true then
  (app out2 ([(api_Flaw.mk i 5)] : List api_Flaw)).bind fun l =>
  some (.inl (l, (i64 (i + 1))))
  else
  some (.inl (out2, (i64 (i + 1))))
  else
  some (.inr out2)

noncomputable def ZaH (f : Vector Int 64) (out5 : List api_Flaw) (i2 : Int) : Option (((List api_Flaw) × Int) ⊕ ((List api_Flaw))) :=
  if (decide (i2 < 64)) = true then
  (ZM f i2).bind fun x3 =>
  (ZbY (i64 x3)).bind fun y3 =>
  if (!y3) = true then
  (app out5 ([(api_Flaw.mk i2 2)] : List api_Flaw)).bind fun l3 =>
  some (.inl (l3, (i64 (i2 + 1))))
  else
  some (.inl (out5, (i64 (i2 + 1))))
  else
  some (.inr out5)

noncomputable def ZcP (f : Vector Int 64) : Option (List api_Flaw) :=
  ((loop (t2 (ZaS f)) ([], 0)) : Option (((List api_Flaw)))).bind (t1 fun (out : List api_Flaw) =>
  if (decide (0 < (out.length : Int))) = true then
  some out
  else
  (((ZM f 0).bind fun x2 =>
  (Jb f).bind fun y =>
  (Zb5 y).bind fun y2 =>
  if (!decide ((i64 x2) = y2)) = true then
  (app out ([(api_Flaw.mk 0 1)] : List api_Flaw)).bind fun l2 =>
  some l2
  else
  some out) : Option (((List api_Flaw)))).bind (t1 fun (out3 : List api_Flaw) =>
  ((loop (t2 (ZaH f)) (out3, 1)) : Option (((List api_Flaw)))).bind (t1 fun (out4 : List api_Flaw) =>
  (((ZM f 61).bind fun x4 =>
  (rem (i64 x4) 2048).bind fun q =>
  (Zep f).bind fun y4 =>
  if (!decide (q = y4)) = true then
  (app out4 ([(api_Flaw.mk 61 3)] : List api_Flaw)).bind fun l4 =>
  some l4
  else
  some out4) : Option (((List api_Flaw)))).bind (t1 fun (out6 : List api_Flaw) =>
  (ZM f 62).bind fun x5 =>
  (rem (i64 x5) 2048).bind fun q2 =>
  (ZM f 63).bind fun x6 =>
  (rem (i64 x6) 2048).bind fun q3 =>
  (ZcI f).bind fun y5 =>
  if (!decide ((i64 ((i64 (q2 * 2048)) + q3)) = y5)) = true then
  (app out6 ([(api_Flaw.mk 62 4)] : List api_Flaw)).bind fun l5 =>
  some l5
  else
  some out6))))

noncomputable def Zbf (f : Vector Int 64) : Option Bool :=
  (ZcP f).bind fun y =>
  some (decide ((y.length : Int) = 0))

noncomputable def JB (w : Int) : Option Bool :=
  (gd ((decide (w ≤ 4095)) == true) false (ZbY (i64 w))).bind fun y =>
  some ((decide (w ≤ 4095)) && y)

noncomputable def QE (f : Vector Int 64) : Option (Int × Bool) :=
  (ZM f 1).bind fun x =>
  (JB x).bind fun y =>
  (gd ((!y) == false) 0 (ZM f 2)).bind fun x2 =>
  (gd ((!y) == false) false (JB x2)).bind fun y2 =>
  if ((!y) || (!y2)) = true then
  some (0, false)
  else
  (Jb f).bind fun y3 =>
  some (y3, true)

noncomputable def Zbp (best2 : List api_Kept) (y3 : Int × Bool) (at_2 : Int) : Option ((Int) ⊕ (Int)) :=
  if (decide (at_2 < (best2.length : Int))) = true then
  (idx best2 at_2).bind fun x2 =>
  (QE x2.Frame).bind fun y4 =>
  if (decide (y3.1 ≤ y4.1)) = true then
  some (.inr at_2)
  else
  some (.inl (i64 (at_2 + 1)))
  else
  some (.inr at_2)

noncomputable def XL (y : (List api_Kept) × Int) (best2 : List api_Kept) (i : Int) : Option (((List api_Kept) × Int) ⊕ ((List api_Kept))) :=
  if (decide (i < (y.1.length : Int))) = true then
  (((idx y.1 i).bind fun x =>
  (Zbf x.Frame).bind fun y2 =>
  if (!y2) = true then
  some best2
  else
  (QE x.Frame).bind fun y3 =>
  ((loop (t1 (Zbp best2 y3)) 0) : Option ((Int))).bind (t1 fun (at_ : Int) =>
  ((if (decide (at_ < (best2.length : Int))) = true then
  (idx best2 at_).bind fun x3 =>
  (QE x3.Frame).bind fun y5 =>
  if (decide (y5.1 = y3.1)) = true then
  (idx best2 at_).bind fun x4 =>
  if (decide (x4.Sequence < x.Sequence)) = true then
  (idx best2 at_).bind fun x5 =>
  some (.inl (best2.set at_.toNat x))
  else
  some (.inl best2)
  else
  some (.inr ())
  else
  some (.inr ())) : Option (((List api_Kept)) ⊕ (Unit))).bind (Sum.elim (fun q' => some q') (t0 ((apz 160 best2 ([x] : List api_Kept)).bind fun l2 =>
  (slq l2 (i64 (at_ + 1)) (l2.length : Int)).bind fun u =>
  (slq l2 at_ (l2.length : Int)).bind fun u2 =>
  (idx (cpy l2 (i64 (at_ + 1)).toNat (Int.toNat ((l2.length : Int) - (i64 (at_ + 1)))) at_.toNat (Int.toNat ((l2.length : Int) - at_))) at_).bind fun x6 =>
  some ((cpy l2 (i64 (at_ + 1)).toNat (Int.toNat ((l2.length : Int) - (i64 (at_ + 1)))) at_.toNat (Int.toNat ((l2.length : Int) - at_))).set at_.toNat x)))))) : Option (((List api_Kept)))).bind (t1 fun (best3 : List api_Kept) =>
  some (.inl (best3, (i64 (i + 1)))))
  else
  some (.inr best2)

noncomputable def Zbv (best : List api_Kept) (out2 : List (Vector Int 64)) (i2 : Int) : Option (((List (Vector Int 64)) × Int) ⊕ ((List (Vector Int 64)))) :=
  if (decide (i2 < (best.length : Int))) = true then
  (idx best i2).bind fun x7 =>
  (apz 128 out2 ([x7.Frame] : List (Vector Int 64))).bind fun l3 =>
  some (.inl (l3, (i64 (i2 + 1))))
  else
  some (.inr out2)

noncomputable def Zgh (l : List api_Memory) : Option ((List (Vector Int 64)) × Int) :=
  (Zdt l).bind fun y =>
  if (!decide (y.2 = 0)) = true then
  some ([], y.2)
  else
  ((loop (t2 (XL y)) ([], 0)) : Option (((List api_Kept)))).bind (t1 fun (best : List api_Kept) =>
  ((loop (t2 (Zbv best)) ([], 0)) : Option (((List (Vector Int 64))))).bind (t1 fun (out : List (Vector Int 64)) =>
  some (out, 0)))

noncomputable def Jj (x : api_Memory) (good2 : Int) (i2 : Int) : Option ((Int × Int) ⊕ (Int)) :=
  if (decide (i2 < (x.Bad.length : Int))) = true then
  (idx x.Bad i2).bind fun x2 =>
  if (!x2) = true then
  some (.inl ((i64 (good2 + 1)), (i64 (i2 + 1))))
  else
  some (.inl (good2, (i64 (i2 + 1))))
  else
  some (.inr good2)

noncomputable def Jk (l : List api_Memory) (least2 : Int) (i : Int) : Option ((Int × Int) ⊕ (Int)) :=
  if (decide (i < (l.length : Int))) = true then
  (idx l i).bind fun x =>
  ((loop (t2 (Jj x)) (0, 0)) : Option ((Int))).bind (t1 fun (good : Int) =>
  if ((decide (least2 < 0)) || (decide ((i64 ((max (i64 (good - 1)) 0) * x.Slots)) < least2))) = true then
  some (.inl ((i64 ((max (i64 (good - 1)) 0) * x.Slots)), (i64 (i + 1))))
  else
  some (.inl (least2, (i64 (i + 1)))))
  else
  some (.inr least2)

noncomputable def ZaL (l : List api_Memory) (copies : Int) : Option (Int × Int) :=
  (Xo l).bind fun y =>
  if (!decide (y = 0)) = true then
  some (0, y)
  else
  (Qu copies 1 (l.length : Int)).bind fun y2 =>
  if (!y2) = true then
  some (0, 9)
  else
  ((loop (t2 (Jk l)) ((-1), 0)) : Option ((Int))).bind (t1 fun (least : Int) =>
  (quo .i64 (i64 (least * (l.length : Int))) copies).bind fun q =>
  some (q, 0))

noncomputable def Q8 (data : Int) : Option Int :=
  (JU (u16 data)).bind fun y =>
  if (!y) = true then
  some (bor .u16 (u16 data) 2048)
  else
  some (u16 data)

noncomputable def JA (f : Vector Int 64) : Option (Vector Int 64) :=
  (Xa f).bind fun y =>
  (rem y 4).bind fun q =>
  (ZM gv_frame_syncs q).bind fun x =>
  (ZM f 0).bind fun x2 =>
  (Jt (Qz f 0 x)).bind fun y2 =>
  (Q8 y2).bind fun y3 =>
  (ZM (Qz f 0 x) 61).bind fun x3 =>
  (XB (Qz (Qz f 0 x) 61 y3)).bind fun y4 =>
  (shr .i64 y4 11).bind fun q2 =>
  (Q8 q2).bind fun y5 =>
  (Q8 (QJ .i64 y4 2047)).bind fun y6 =>
  (ZM (Qz (Qz f 0 x) 61 y3) 62).bind fun x4 =>
  (ZM (Qz (Qz (Qz f 0 x) 61 y3) 62 y5) 63).bind fun x5 =>
  some (Qz (Qz (Qz (Qz f 0 x) 61 y3) 62 y5) 63 y6)

noncomputable def X5 (data : List Int) (f2 : Vector Int 64) (i : Int) : Option (((Vector Int 64) × Int) ⊕ ((Vector Int 64) × Int) ⊕ ((Vector Int 64))) :=
  if (decide (i < (data.length : Int))) = true then
  (idx data i).bind fun x3 =>
  if ((decide (x3 < 0)) || (decide (2047 < x3))) = true then
  some (.inr (.inl ((#v[0, 0, 0, 0, 0, 0, 0, 0, 0, 0, 0, 0, 0, 0, 0, 0, 0, 0, 0, 0, 0, 0, 0, 0, 0, 0, 0, 0, 0, 0, 0, 0, 0, 0, 0, 0, 0, 0, 0, 0, 0, 0, 0, 0, 0, 0, 0, 0, 0, 0, 0, 0, 0, 0, 0, 0, 0, 0, 0, 0, 0, 0, 0, 0] : Vector Int 64), 9)))
  else
  (Q8 x3).bind fun y3 =>
  (ZM f2 (i64 (3 + i))).bind fun x4 =>
  some (.inl ((Qz f2 (i64 (3 + i)) y3), (i64 (i + 1))))
  else
  some (.inr (.inr f2))

noncomputable def XX (number : Int) (data : List Int) : Option ((Vector Int 64) × Int) :=
  if ((decide (number < 0)) || (decide (4194304 ≤ number))) = true then
  some ((#v[0, 0, 0, 0, 0, 0, 0, 0, 0, 0, 0, 0, 0, 0, 0, 0, 0, 0, 0, 0, 0, 0, 0, 0, 0, 0, 0, 0, 0, 0, 0, 0, 0, 0, 0, 0, 0, 0, 0, 0, 0, 0, 0, 0, 0, 0, 0, 0, 0, 0, 0, 0, 0, 0, 0, 0, 0, 0, 0, 0, 0, 0, 0, 0] : Vector Int 64), 9)
  else
  if (!decide ((data.length : Int) = 58)) = true then
  some ((#v[0, 0, 0, 0, 0, 0, 0, 0, 0, 0, 0, 0, 0, 0, 0, 0, 0, 0, 0, 0, 0, 0, 0, 0, 0, 0, 0, 0, 0, 0, 0, 0, 0, 0, 0, 0, 0, 0, 0, 0, 0, 0, 0, 0, 0, 0, 0, 0, 0, 0, 0, 0, 0, 0, 0, 0, 0, 0, 0, 0, 0, 0, 0, 0] : Vector Int 64), 3)
  else
  (Q8 (QJ .i64 number 2047)).bind fun y =>
  (shr .i64 number 11).bind fun q =>
  (Q8 q).bind fun y2 =>
  (ZM (Vector.replicate 64 (0 : Int)) 1).bind fun x =>
  (ZM (Qz (Vector.replicate 64 0) 1 y) 2).bind fun x2 =>
  ((loop (t2 (X5 data)) ((Qz (Qz (Vector.replicate 64 0) 1 y) 2 y2), 0)) : Option (((Vector Int 64) × Int) ⊕ ((Vector Int 64)))).bind (Sum.elim (fun q' => some q') (t1 fun (f : Vector Int 64) =>
  (JA f).bind fun y4 =>
  some (y4, 0)))

noncomputable def Zcu  : Option Bool :=
  (mks 58 0).bind fun l =>
  (idx l 0).bind fun x =>
  (XX 2050 (l.set (Int.toNat 0) 5)).bind fun y =>
  (gd ((decide (y.2 = 0)) == true) 0 (ZM y.1 0)).bind fun x2 =>
  (gd (((decide (y.2 = 0)) && (decide (x2 = 2631))) == true) 0 (ZM y.1 1)).bind fun x3 =>
  (gd ((((decide (y.2 = 0)) && (decide (x2 = 2631))) && (decide (x3 = 2))) == true) 0 (ZM y.1 2)).bind fun x4 =>
  (gd (((((decide (y.2 = 0)) && (decide (x2 = 2631))) && (decide (x3 = 2))) && (decide (x4 = 1))) == true) 0 (ZM y.1 3)).bind fun x5 =>
  some (((((decide (y.2 = 0)) && (decide (x2 = 2631))) && (decide (x3 = 2))) && (decide (x4 = 1))) && (decide (x5 = 2053)))

noncomputable def ZaX (x2 : List Int) (i3 : Int) : Option ((Int) ⊕ (Bool) ⊕ (Unit)) :=
  if (decide (i3 < (x2.length : Int))) = true then
  (idx x2 i3).bind fun x5 =>
  if (!decide (x5 = 255)) = true then
  some (.inr (.inl false))
  else
  some (.inl (i64 (i3 + 1)))
  else
  some (.inr (.inr ()))

noncomputable def ZaK (x : api_Memory) (i2 : Int) : Option ((Int) ⊕ (Bool) ⊕ (Unit)) :=
  if (decide (i2 < (x.Sectors.length : Int))) = true then
  (((idx x.Sectors i2).bind fun x2 =>
  (idx x.Wear i2).bind fun x3 =>
  (gd ((!decide (x3 = 0)) == false) false (idx x.Bad i2)).bind fun x4 =>
  if ((!decide (x3 = 0)) || x4) = true then
  some (.inl false)
  else
  loop (t1 (ZaX x2)) 0) : Option ((Bool) ⊕ (Unit))).bind (Sum.elim (fun q' => some (.inr (.inl q'))) (t0 (some (.inl (i64 (i2 + 1))))))
  else
  some (.inr (.inr ()))

noncomputable def ZaP (l : List api_Memory) (frames : Int) (i : Int) : Option ((Int) ⊕ (Bool) ⊕ (Unit)) :=
  if (decide (i < (l.length : Int))) = true then
  (((idx l i).bind fun x =>
  if (decide (x.Limit < frames)) = true then
  some (.inl false)
  else
  loop (t1 (ZaK x)) 0) : Option ((Bool) ⊕ (Unit))).bind (Sum.elim (fun q' => some (.inr (.inl q'))) (t0 (some (.inl (i64 (i + 1))))))
  else
  some (.inr (.inr ()))

noncomputable def ZcM (l : List api_Memory) (frames : Int) : Option Bool :=
  (Zbi l).bind fun y =>
  if (!decide (y = 0)) = true then
  some false
  else
  ((loop (t1 (ZaP l frames)) 0) : Option ((Bool) ⊕ (Unit))).bind (Sum.elim (fun q' => some q') (t0 (some true)))

noncomputable def Zdl (frames : List (Vector Int 64)) : Option ((Unit) ⊕ (Unit)) :=
  if (decide (0 < (frames.length : Int))) = true then
  (idx frames 0).bind fun x =>
  none
  else
  some (.inr ())

noncomputable def XE (frames : List (Vector Int 64)) (power2 : Int) (memories2 : List api_Memory) (spots2 : List ring_spot) (copies3 : Int) (frozen2 : Bool) (stopped2 : Bool) (last2 : Int) (some_2 : Bool) (done2 : List (Vector Int 64)) (i : Int) : Option ((Int × (List api_Memory) × (List ring_spot) × Int × Bool × Bool × Int × Bool × (List (Vector Int 64)) × Int) ⊕ ((List api_Memory) × (List ring_spot) × Int × Bool × Bool × Int × Bool × (List (Vector Int 64)))) :=
  if (decide (i < (frames.length : Int))) = true then
  (idx frames i).bind fun x2 =>
  (Z9 (ring_Recorder.mk (ring_bank.mk memories2 spots2) copies3 frozen2 stopped2 last2 some_2) x2 power2).bind fun y2 =>
  if (!decide (y2.2.2.1 = 0)) = true then
  some (.inr (y2.2.2.2.bank.memories, y2.2.2.2.bank.spots, y2.2.2.2.copies, y2.2.2.2.frozen, y2.2.2.2.stopped, y2.2.2.2.last, y2.2.2.2.some_, done2))
  else
  if (!y2.2.1) = true then
  some (.inr (y2.2.2.2.bank.memories, y2.2.2.2.bank.spots, y2.2.2.2.copies, y2.2.2.2.frozen, y2.2.2.2.stopped, y2.2.2.2.last, y2.2.2.2.some_, done2))
  else
  (app done2 ([x2] : List (Vector Int 64))).bind fun l2 =>
  some (.inl (y2.1, y2.2.2.2.bank.memories, y2.2.2.2.bank.spots, y2.2.2.2.copies, y2.2.2.2.frozen, y2.2.2.2.stopped, y2.2.2.2.last, y2.2.2.2.some_, l2, (i64 (i + 1))))
  else
  some (.inr (memories2, spots2, copies3, frozen2, stopped2, last2, some_2, done2))

noncomputable def ZaO (l : List api_Memory) (copies : Int) (frames : List (Vector Int 64)) (power : Int) : Option ((List (Vector Int 64)) × (List api_Memory) × Bool) :=
  (XO l copies).bind (Sum.elim (fun y =>
  if (!decide (y = 0)) = true then
  some ([], [], false)
  else
  ((loop (t0 (Zdl frames)) ()) : Option ((Unit))).bind (t0 (none))) (fun y =>
  if (!decide (y.2 = 0)) = true then
  some ([], [], false)
  else
  ((loop (t10 (XE frames)) (power, y.1.bank.memories, y.1.bank.spots, y.1.copies, y.1.frozen, y.1.stopped, y.1.last, y.1.some_, [], 0)) : Option (((List api_Memory) × (List ring_spot) × Int × Bool × Bool × Int × Bool × (List (Vector Int 64))))).bind (t8 fun (memories : List api_Memory) (spots : List ring_spot) (copies2 : Int) (frozen : Bool) (stopped : Bool) (last : Int) (some_ : Bool) (done : List (Vector Int 64)) =>
  (QH (ring_Recorder.mk (ring_bank.mk memories spots) copies2 frozen stopped last some_)).bind fun y3 =>
  some (done, y3, true))))

noncomputable def Qe (s : List (Vector Int 64)) (v : Vector Int 64) (i : Int) : Option ((Int) ⊕ (Int) ⊕ (Unit)) :=
  if (decide (i < (s.length : Int))) = true then
  (idx s i).bind fun x =>
  if (decide (v = x)) = true then
  some (.inr (.inl i))
  else
  some (.inl (i64 (i + 1)))
  else
  some (.inr (.inr ()))

noncomputable def Qw (s : List (Vector Int 64)) (v : Vector Int 64) : Option Int :=
  ((loop (t1 (Qe s v)) 0) : Option ((Int) ⊕ (Unit))).bind (Sum.elim (fun q' => some q') (t0 (some (-1))))

noncomputable def ZD (s : List (Vector Int 64)) (v : Vector Int 64) : Option Bool :=
  (Qw s v).bind fun y =>
  some (decide (0 ≤ y))

noncomputable def JC (l : List (Vector Int 64)) (i : Int) : Option ((Int) ⊕ (Bool) ⊕ (Unit)) :=
  if (decide (i < (l.length : Int))) = true then
  (idx l (i64 (i - 1))).bind fun x =>
  (QE x).bind fun y =>
  (idx l i).bind fun x2 =>
  (QE x2).bind fun y2 =>
  if (!decide (y2.1 = (i64 (y.1 + 1)))) = true then
  some (.inr (.inl false))
  else
  some (.inl (i64 (i + 1)))
  else
  some (.inr (.inr ()))

noncomputable def XW (l : List (Vector Int 64)) : Option Bool :=
  ((loop (t1 (JC l)) 1) : Option ((Bool) ⊕ (Unit))).bind (Sum.elim (fun q' => some q') (t0 (some true)))

noncomputable def ZY (frames : List (Vector Int 64)) (last2 : Int) (i : Int) : Option ((Int × Int) ⊕ (Bool) ⊕ (Int)) :=
  if (decide (i < (frames.length : Int))) = true then
  (idx frames i).bind fun x =>
  (QE x).bind fun y3 =>
  (Zbf x).bind fun y4 =>
  if ((!y4) || (decide (y3.1 ≤ last2))) = true then
  some (.inr (.inl true))
  else
  some (.inl (y3.1, (i64 (i + 1))))
  else
  some (.inr (.inr last2))

noncomputable def Z7 (frames : List (Vector Int 64)) (y6 : (List (Vector Int 64)) × Int) (i2 : Int) : Option ((Int) ⊕ (Bool) ⊕ (Unit)) :=
  if (decide (i2 < (y6.1.length : Int))) = true then
  (idx y6.1 i2).bind fun x2 =>
  (ZD frames x2).bind fun y7 =>
  if (!y7) = true then
  some (.inr (.inl false))
  else
  some (.inl (i64 (i2 + 1)))
  else
  some (.inr (.inr ()))

noncomputable def Qq (y5 : (List (Vector Int 64)) × (List api_Memory) × Bool) (y6 : (List (Vector Int 64)) × Int) (k : Int) : Option ((Int) ⊕ (Bool) ⊕ (Unit)) :=
  if (decide (k < (y5.1.length : Int))) = true then
  (idx y5.1 k).bind fun x3 =>
  (ZD y6.1 x3).bind fun y10 =>
  if (!y10) = true then
  some (.inr (.inl false))
  else
  some (.inl (i64 (k + 1)))
  else
  some (.inr (.inr ()))

noncomputable def Xe (l : List api_Memory) (copies : Int) (frames : List (Vector Int 64)) (power : Int) : Option Bool :=
  (Zcu).bind fun y =>
  if (!y) = true then
  some false
  else
  (gd ((decide (40 < (frames.length : Int))) == false) false (ZcM l 80)).bind fun y2 =>
  if ((((((decide (40 < (frames.length : Int))) || (!y2)) || (decide (copies < 1))) || (decide ((l.length : Int) < copies))) || (decide (power < 0))) || (decide (1000000000 < power))) = true then
  some true
  else
  ((loop (t2 (ZY frames)) ((-1), 0)) : Option ((Bool) ⊕ (Int))).bind (Sum.elim (fun q' => some q') (t1 fun (last : Int) =>
  (ZaO l copies frames power).bind fun y5 =>
  if (!y5.2.2) = true then
  some false
  else
  (Zak y5.2.1).bind fun y6 =>
  if (!decide (y6.2 = 0)) = true then
  some false
  else
  ((loop (t1 (Z7 frames y6)) 0) : Option ((Bool) ⊕ (Unit))).bind (Sum.elim (fun q' => some q') (t0 ((ZaL l copies).bind fun y8 =>
  if (!decide (y8.2 = 0)) = true then
  some false
  else
  (((XW frames).bind fun y9 =>
  if y9 = true then
  loop (t1 (Qq y5 y6)) (max 0 (i64 ((y5.1.length : Int) - (max 0 (i64 (y8.1 - 1))))))
  else
  some (.inr ())) : Option ((Bool) ⊕ (Unit))).bind (Sum.elim (fun q' => some q') (t0 ((XO y5.2.1 copies).bind (Sum.elim (fun y11 =>
  if (!decide (y11 = 0)) = true then
  some false
  else
  (mks 58 0).bind fun l2 =>
  (XX (i64 (last + 1)) l2).bind fun y12 =>
  if (!decide (y12.2 = 0)) = true then
  some true
  else
  none) (fun y11 =>
  if (!decide (y11.2 = 0)) = true then
  some false
  else
  (mks 58 0).bind fun l3 =>
  (XX (i64 (last + 1)) l3).bind fun y13 =>
  if (!decide (y13.2 = 0)) = true then
  some true
  else
  (Z9 y11.1 y13.1 1000000000).bind fun y14 =>
  if ((!decide (y14.2.2.1 = 0)) || (!y14.2.1)) = true then
  some false
  else
  (QH y14.2.2.2).bind fun y15 =>
  (Zak y15).bind fun y16 =>
  (gd ((decide (y16.2 = 0)) == true) false (ZD y16.1 y13.1)).bind fun y17 =>
  some ((decide (y16.2 = 0)) && y17)))))))))))
end Go.Vx
