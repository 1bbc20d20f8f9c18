/- A text of the proof: a verified executor of the program form, or the contracts of the functions that the law reaches. -/
import Derived.Test.YtnlmjeleocelgaaGreatDoorShLib
set_option linter.all false
namespace Go.Vx
open Go Go.RowKit
set_option linter.unusedVariables false
structure api_Memory where
  Slots : Int
  Limit : Int
  Sectors : List (List Int)
  Wear : List Int
  Bad : List Bool
structure ring_spot where
  sector : Int
  slot : Int
structure ring_bank where
  memories : List api_Memory
  spots : List ring_spot
structure ring_Recorder where
  bank : ring_bank
  copies : Int
  frozen : Bool
  stopped : Bool
  last : Int
  some_ : Bool
structure api_Flaw where
  Word : Int
  Kind : Int
structure api_Kept where
  Memory : Int
  Sector : Int
  Sequence : Int
  Slot : Int
  Frame : Vector Int 64
structure law3_Deed where
  Freeze : Bool
  Frame : Vector Int 64
  Power : Int

noncomputable def Qo (n : Int) (low : Int) (high : Int) : Option Bool :=
  some ((decide (low ≤ n)) && (decide (n ≤ high)))

noncomputable def Xh (slots : Int) : Option Int :=
  some (i64 (16 + (i64 (slots * 97))))

noncomputable def ZdU (x : Int) (y : Int) : Option (Int × Int) :=
  (shr .u64 x 32).bind fun q =>
  (shr .u64 y 32).bind fun q2 =>
  (shr .u64 (u64 ((QD .u64 x 4294967295) * (QD .u64 y 4294967295))) 32).bind fun q3 =>
  (shr .u64 (u64 ((u64 (q * (QD .u64 y 4294967295))) + q3)) 32).bind fun q4 =>
  (shr .u64 (u64 ((QD .u64 (u64 ((u64 (q * (QD .u64 y 4294967295))) + q3)) 4294967295) + (u64 ((QD .u64 x 4294967295) * q2)))) 32).bind fun q5 =>
  some ((u64 ((u64 ((u64 (q * q2)) + q4)) + q5)), (u64 (x * y)))

noncomputable def ZfZ (x : Int) (y : Int) : Option (Int × Int) :=
  (ZdU x y).bind fun y2 =>
  some (y2.1, y2.2)

noncomputable def Xq (newslice2 : List Int) (n : Int) : Option (((List Int) × Int) ⊕ ((List Int))) :=
  if (decide (n < (newslice2.length : Int))) = true then
  (slq newslice2 n (newslice2.length : Int)).bind fun u =>
  (slq newslice2 0 n).bind fun u2 =>
  some (.inl ((cpy newslice2 n.toNat (Int.toNat ((newslice2.length : Int) - n)) (Int.toNat 0) (Int.toNat (n - 0))), (i64 (n + ((min (Int.toNat (n - 0)) (Int.toNat ((newslice2.length : Int) - n)) : Nat) : Int)))))
  else
  some (.inr newslice2)

noncomputable def Xg (x : List Int) (count : Int) : Option (List Int) :=
  if (decide (count < 0)) = true then
  none
  else
  (ZfZ (u64 (x.length : Int)) (u64 count)).bind fun y =>
  if ((decide (0 < y.1)) || (decide (9223372036854775807 < y.2))) = true then
  none
  else
  (mks (i64 y.2) 0).bind fun l =>
  ((loop (t2 (Xq)) ((ZiB l x), ((min x.length l.length : Nat) : Int))) : Option (((List Int)))).bind (t1 fun (newslice : List Int) =>
  some newslice)

noncomputable def Zaz (sectors : Int) (slots : Int) (Sectors2 : List (List Int)) (i : Int) : Option (((List (List Int)) × Int) ⊕ ((List (List Int)))) :=
  if (decide (i < sectors)) = true then
  (((Xh slots).bind fun y4 =>
  (Xg ([255] : List Int) y4).bind fun y5 =>
  (apz 24 Sectors2 [y5]).bind fun l3 =>
  some l3) : Option (((List (List Int))))).bind (t1 fun (Sectors3 : List (List Int)) =>
  some (.inl (Sectors3, (i64 (i + 1)))))
  else
  some (.inr Sectors2)

noncomputable def ZaF (sectors : Int) (slots : Int) (limit : Int) : Option (api_Memory × Int) :=
  (Qo sectors 2 64).bind fun y =>
  (gd ((!y) == false) false (Qo slots 1 64)).bind fun y2 =>
  (gd (((!y) || (!y2)) == false) false (Qo limit 1 1000000)).bind fun y3 =>
  if (((!y) || (!y2)) || (!y3)) = true then
  some ((api_Memory.mk 0 0 [] [] []), 9)
  else
  (((mkz 8 sectors 0).bind fun l =>
  (mkz 1 sectors false).bind fun l2 =>
  some (l, l2)) : Option (((List Int) × (List Bool)))).bind (t2 fun (Wear : List Int) (Bad : List Bool) =>
  ((loop (t2 (Zaz sectors slots)) ([], 0)) : Option (((List (List Int))))).bind (t1 fun (Sectors : List (List Int)) =>
  some ((api_Memory.mk slots limit Sectors Wear Bad), 0)))

noncomputable def JB (n : Int) (low : Int) (high : Int) : Option Bool :=
  some ((decide (n < low)) || (decide (high < n)))

noncomputable def Qk (s1 : List (List Int)) (s2 : List (List Int)) (eq : (List Int) → (List Int) → Option Bool) (i : Int) : Option ((Int) ⊕ (Bool) ⊕ (Unit)) :=
  if (decide (i < (s1.length : Int))) = true then
  (idx s1 i).bind fun x =>
  (idx s2 i).bind fun x2 =>
  (eq x x2).bind fun y =>
  if (!y) = true then
  some (.inr (.inl false))
  else
  some (.inl (i64 (i + 1)))
  else
  some (.inr (.inr ()))

noncomputable def Z8 (s1 : List (List Int)) (s2 : List (List Int)) (eq : (List Int) → (List Int) → Option Bool) : Option Bool :=
  if (!decide ((s1.length : Int) = (s2.length : Int))) = true then
  some false
  else
  ((loop (t1 (Qk s1 s2 eq)) 0) : Option ((Bool) ⊕ (Unit))).bind (Sum.elim (fun q' => some q') (t0 (some true)))

noncomputable def Zc5 (a : List Int) (b : List Int) : Option Bool :=
  some (decide ((JT a) = (JT b)))

noncomputable def XV (s1 : List Int) (s2 : List Int) (i : Int) : Option ((Int) ⊕ (Bool) ⊕ (Unit)) :=
  if (decide (i < (s1.length : Int))) = true then
  (idx s1 i).bind fun x =>
  (idx s2 i).bind fun x2 =>
  if (!decide (x = x2)) = true then
  some (.inr (.inl false))
  else
  some (.inl (i64 (i + 1)))
  else
  some (.inr (.inr ()))

noncomputable def XI (s1 : List Int) (s2 : List Int) : Option Bool :=
  if (!decide ((s1.length : Int) = (s2.length : Int))) = true then
  some false
  else
  ((loop (t1 (XV s1 s2)) 0) : Option ((Bool) ⊕ (Unit))).bind (Sum.elim (fun q' => some q') (t0 (some true)))

noncomputable def Xz (s1 : List Bool) (s2 : List Bool) (i : Int) : Option ((Int) ⊕ (Bool) ⊕ (Unit)) :=
  if (decide (i < (s1.length : Int))) = true then
  (idx s1 i).bind fun x =>
  (idx s2 i).bind fun x2 =>
  if (!(x == x2)) = true then
  some (.inr (.inl false))
  else
  some (.inl (i64 (i + 1)))
  else
  some (.inr (.inr ()))

noncomputable def Xk (s1 : List Bool) (s2 : List Bool) : Option Bool :=
  if (!decide ((s1.length : Int) = (s2.length : Int))) = true then
  some false
  else
  ((loop (t1 (Xz s1 s2)) 0) : Option ((Bool) ⊕ (Unit))).bind (Sum.elim (fun q' => some q') (t0 (some true)))

noncomputable def Xt (a : api_Memory) (b : api_Memory) : Option Bool :=
  (gd (((decide (a.Slots = b.Slots)) && (decide (a.Limit = b.Limit))) == true) false (Z8 a.Sectors b.Sectors (fun z0 z1 => Zc5 z0 z1))).bind fun y =>
  (gd ((((decide (a.Slots = b.Slots)) && (decide (a.Limit = b.Limit))) && y) == true) false (XI a.Wear b.Wear)).bind fun y2 =>
  (gd (((((decide (a.Slots = b.Slots)) && (decide (a.Limit = b.Limit))) && y) && y2) == true) false (Xk a.Bad b.Bad)).bind fun y3 =>
  some (((((decide (a.Slots = b.Slots)) && (decide (a.Limit = b.Limit))) && y) && y2) && y3)

noncomputable def Zec (n2 : Int) (ones2 : Int) : Option ((Int × Int) ⊕ (Int)) :=
  if (decide (0 < n2)) = true then
  (rem n2 2).bind fun q =>
  (quo .i64 n2 2).bind fun q2 =>
  some (.inl (q2, (i64 (ones2 + q))))
  else
  some (.inr ones2)

noncomputable def ZbS (n : Int) : Option Bool :=
  ((loop (t2 (Zec)) (n, 0)) : Option ((Int))).bind (t1 fun (ones : Int) =>
  (rem ones 2).bind fun q3 =>
  some (decide (q3 = 1)))

noncomputable def ZbC (data : Int) : Option Int :=
  (ZbS data).bind fun y =>
  if y = true then
  some data
  else
  some (i64 (data + 2048))

noncomputable def XG (f : Vector Int 64) : Option Int :=
  (ZP f 1).bind fun x =>
  (rem (i64 x) 2048).bind fun q =>
  (ZP f 2).bind fun x2 =>
  (rem (i64 x2) 2048).bind fun q2 =>
  some (i64 (q + (i64 (q2 * 2048))))

noncomputable def Zaa (number : Int) : Option Int :=
  (rem number 4).bind fun q =>
  (ZP (#v[583, 1464, 2631, 3512] : Vector Int 4) q).bind fun x =>
  some x

noncomputable def ZaM (f : Vector Int 64) (x2 : Int) (i : Int) : Option ((Int × Int) ⊕ (Int)) :=
  if (decide (i ≤ 60)) = true then
  (ZP f i).bind fun x3 =>
  (rem (i64 x3) 2048).bind fun q =>
  some (.inl ((Zcd .i64 x2 q), (i64 (i + 1))))
  else
  some (.inr x2)

noncomputable def Zdc (f : Vector Int 64) : Option Int :=
  ((loop (t2 (ZaM f)) (0, 1)) : Option ((Int))).bind (t1 fun (x : Int) =>
  some x)

noncomputable def JO (f : Vector Int 64) (rest2 : Int) (i : Int) : Option ((Int × Int) ⊕ (Int)) :=
  if (decide (i < 766)) = true then
  ((if (decide (i < 744)) = true then
  (quo .i64 i 12).bind fun q =>
  (ZP f q).bind fun x =>
  (rem i 12).bind fun q2 =>
  (shr .i64 (i64 x) (i64 (11 - q2))).bind fun q3 =>
  some (QD .i64 q3 1)
  else
  some 0) : Option ((Int))).bind (t1 fun (bit : Int) =>
  if (decide (4194304 ≤ (i64 ((i64 (rest2 * 2)) + bit)))) = true then
  some (.inl ((Zcd .i64 (i64 ((i64 (rest2 * 2)) + bit)) 6291471), (i64 (i + 1))))
  else
  some (.inl ((i64 ((i64 (rest2 * 2)) + bit)), (i64 (i + 1)))))
  else
  some (.inr rest2)

noncomputable def ZaH (f : Vector Int 64) : Option Int :=
  ((loop (t2 (JO f)) (0, 0)) : Option ((Int))).bind (t1 fun (rest : Int) =>
  some rest)

noncomputable def ZbJ (f : Vector Int 64) : Option (Vector Int 64) :=
  (ZaH f).bind fun y =>
  (quo .i64 y 2048).bind fun q =>
  (ZbC q).bind fun y2 =>
  (rem y 2048).bind fun q2 =>
  (ZbC q2).bind fun y3 =>
  (ZP f 62).bind fun x =>
  (ZP (JQ f 62 (u16 y2)) 63).bind fun x2 =>
  some (JQ (JQ f 62 (u16 y2)) 63 (u16 y3))

noncomputable def ZbH (f3 : Vector Int 64) (i : Int) : Option (((Vector Int 64) × Int) ⊕ ((Vector Int 64))) :=
  if (decide (i ≤ 60)) = true then
  (ZP f3 i).bind fun x =>
  (rem (i64 x) 2048).bind fun q =>
  (ZbC q).bind fun y =>
  (ZP f3 i).bind fun x2 =>
  some (.inl ((JQ f3 i (u16 y)), (i64 (i + 1))))
  else
  some (.inr f3)

noncomputable def ZcX (f : Vector Int 64) : Option (Vector Int 64) :=
  ((loop (t2 (ZbH)) (f, 1)) : Option (((Vector Int 64)))).bind (t1 fun (f2 : Vector Int 64) =>
  (XG f2).bind fun y2 =>
  (Zaa y2).bind fun y3 =>
  (ZP f2 0).bind fun x3 =>
  (Zdc (JQ f2 0 (u16 y3))).bind fun y4 =>
  (ZbC y4).bind fun y5 =>
  (ZP (JQ f2 0 (u16 y3)) 61).bind fun x4 =>
  (ZbJ (JQ (JQ f2 0 (u16 y3)) 61 (u16 y5))).bind fun y6 =>
  some y6)

noncomputable def Zei (data : List Int) (f2 : Vector Int 64) (i : Int) : Option (((Vector Int 64) × Int) ⊕ ((Vector Int 64) × Int) ⊕ ((Vector Int 64))) :=
  if (decide (i < (data.length : Int))) = true then
  (idx data i).bind fun x3 =>
  if ((decide (x3 < 0)) || (decide (2047 < x3))) = true then
  some (.inr (.inl ((#v[0, 0, 0, 0, 0, 0, 0, 0, 0, 0, 0, 0, 0, 0, 0, 0, 0, 0, 0, 0, 0, 0, 0, 0, 0, 0, 0, 0, 0, 0, 0, 0, 0, 0, 0, 0, 0, 0, 0, 0, 0, 0, 0, 0, 0, 0, 0, 0, 0, 0, 0, 0, 0, 0, 0, 0, 0, 0, 0, 0, 0, 0, 0, 0] : Vector Int 64), 9)))
  else
  (ZP f2 (i64 (3 + i))).bind fun x4 =>
  some (.inl ((JQ f2 (i64 (3 + i)) (u16 x3)), (i64 (i + 1))))
  else
  some (.inr (.inr f2))

noncomputable def ZfM (number : Int) (data : List Int) : Option ((Vector Int 64) × Int) :=
  if ((decide (number < 0)) || (decide (4194304 ≤ number))) = true then
  some ((#v[0, 0, 0, 0, 0, 0, 0, 0, 0, 0, 0, 0, 0, 0, 0, 0, 0, 0, 0, 0, 0, 0, 0, 0, 0, 0, 0, 0, 0, 0, 0, 0, 0, 0, 0, 0, 0, 0, 0, 0, 0, 0, 0, 0, 0, 0, 0, 0, 0, 0, 0, 0, 0, 0, 0, 0, 0, 0, 0, 0, 0, 0, 0, 0] : Vector Int 64), 9)
  else
  if (!decide ((data.length : Int) = 58)) = true then
  some ((#v[0, 0, 0, 0, 0, 0, 0, 0, 0, 0, 0, 0, 0, 0, 0, 0, 0, 0, 0, 0, 0, 0, 0, 0, 0, 0, 0, 0, 0, 0, 0, 0, 0, 0, 0, 0, 0, 0, 0, 0, 0, 0, 0, 0, 0, 0, 0, 0, 0, 0, 0, 0, 0, 0, 0, 0, 0, 0, 0, 0, 0, 0, 0, 0] : Vector Int 64), 3)
  else
  (rem number 2048).bind fun q =>
  (quo .i64 number 2048).bind fun q2 =>
  (ZP (#v[0, 0, 0, 0, 0, 0, 0, 0, 0, 0, 0, 0, 0, 0, 0, 0, 0, 0, 0, 0, 0, 0, 0, 0, 0, 0, 0, 0, 0, 0, 0, 0, 0, 0, 0, 0, 0, 0, 0, 0, 0, 0, 0, 0, 0, 0, 0, 0, 0, 0, 0, 0, 0, 0, 0, 0, 0, 0, 0, 0, 0, 0, 0, 0] : Vector Int 64) 1).bind fun x =>
  (ZP (JQ (#v[0, 0, 0, 0, 0, 0, 0, 0, 0, 0, 0, 0, 0, 0, 0, 0, 0, 0, 0, 0, 0, 0, 0, 0, 0, 0, 0, 0, 0, 0, 0, 0, 0, 0, 0, 0, 0, 0, 0, 0, 0, 0, 0, 0, 0, 0, 0, 0, 0, 0, 0, 0, 0, 0, 0, 0, 0, 0, 0, 0, 0, 0, 0, 0] : Vector Int 64) 1 (u16 q)) 2).bind fun x2 =>
  ((loop (t2 (Zei data)) ((JQ (JQ (#v[0, 0, 0, 0, 0, 0, 0, 0, 0, 0, 0, 0, 0, 0, 0, 0, 0, 0, 0, 0, 0, 0, 0, 0, 0, 0, 0, 0, 0, 0, 0, 0, 0, 0, 0, 0, 0, 0, 0, 0, 0, 0, 0, 0, 0, 0, 0, 0, 0, 0, 0, 0, 0, 0, 0, 0, 0, 0, 0, 0, 0, 0, 0, 0] : Vector Int 64) 1 (u16 q)) 2 (u16 q2)), 0)) : Option (((Vector Int 64) × Int) ⊕ ((Vector Int 64)))).bind (Sum.elim (fun q' => some q') (t1 fun (f : Vector Int 64) =>
  (ZcX f).bind fun y =>
  some (y, 0)))

noncomputable def Qp (m : api_Memory) (i : Int) : Option ((Int) ⊕ (Int) ⊕ (Unit)) :=
  if (decide (i < (m.Sectors.length : Int))) = true then
  (idx m.Sectors i).bind fun x =>
  (Xh m.Slots).bind fun y4 =>
  if (!decide ((x.length : Int) = y4)) = true then
  some (.inr (.inl 3))
  else
  (idx m.Wear i).bind fun x2 =>
  (Qo x2 0 m.Limit).bind fun y5 =>
  if (!y5) = true then
  some (.inr (.inl 9))
  else
  some (.inl (i64 (i + 1)))
  else
  some (.inr (.inr ()))

noncomputable def QX (m : api_Memory) : Option Int :=
  (Qo m.Slots 1 64).bind fun y =>
  (gd ((!y) == false) false (Qo m.Limit 1 1000000)).bind fun y2 =>
  (gd (((!y) || (!y2)) == false) false (Qo (m.Sectors.length : Int) 2 64)).bind fun y3 =>
  if (((!y) || (!y2)) || (!y3)) = true then
  some 9
  else
  if ((!decide ((m.Wear.length : Int) = (m.Sectors.length : Int))) || (!decide ((m.Bad.length : Int) = (m.Sectors.length : Int)))) = true then
  some 2
  else
  ((loop (t1 (Qp m)) 0) : Option ((Int) ⊕ (Unit))).bind (Sum.elim (fun q' => some q') (t0 (some 0)))

noncomputable def ring_checkAll_L1 (l : List api_Memory) (i : Int) : Option ((Int) ⊕ (Int) ⊕ (Unit)) :=
  if (decide (i < (l.length : Int))) = true then
  (idx l i).bind fun x =>
  (QX x).bind fun y2 =>
  if (!decide (y2 = 0)) = true then
  some (.inr (.inl y2))
  else
  some (.inl (i64 (i + 1)))
  else
  some (.inr (.inr ()))

noncomputable def XE (l : List api_Memory) : Option Int :=
  (Qo (l.length : Int) 1 8).bind fun y =>
  if (!y) = true then
  some 3
  else
  ((loop (t1 (ring_checkAll_L1 l)) 0) : Option ((Int) ⊕ (Unit))).bind (Sum.elim (fun q' => some q') (t0 (some 0)))

noncomputable def Q8 (m : api_Memory) (sectors2 : List (List Int)) (i : Int) : Option (((List (List Int)) × Int) ⊕ ((List (List Int)))) :=
  if (decide (i < (m.Sectors.length : Int))) = true then
  (idx m.Sectors i).bind fun x =>
  (Zen 1 x).bind fun y =>
  (apz 24 sectors2 [y]).bind fun l =>
  some (.inl (l, (i64 (i + 1))))
  else
  some (.inr sectors2)

noncomputable def X0 (m : api_Memory) : Option api_Memory :=
  ((loop (t2 (Q8 m)) ([], 0)) : Option (((List (List Int))))).bind (t1 fun (sectors : List (List Int)) =>
  (Zen 8 m.Wear).bind fun y2 =>
  (Zen 1 m.Bad).bind fun y3 =>
  some (api_Memory.mk m.Slots m.Limit sectors y2 y3))

noncomputable def Xs (l : List api_Memory) (out2 : List api_Memory) (i : Int) : Option (((List api_Memory) × Int) ⊕ ((List api_Memory))) :=
  if (decide (i < (l.length : Int))) = true then
  (idx l i).bind fun x =>
  (X0 x).bind fun y =>
  (apz 88 out2 [y]).bind fun l2 =>
  some (.inl (l2, (i64 (i + 1))))
  else
  some (.inr out2)

noncomputable def XF (l : List api_Memory) : Option (List api_Memory) :=
  ((loop (t2 (Xs l)) ([], 0)) : Option (((List api_Memory)))).bind (t1 fun (out : List api_Memory) =>
  some out)

noncomputable def Xo (sequence : Int) (out2 : List Int) (shift : Int) : Option (((List Int) × Int) ⊕ ((List Int))) :=
  if (decide (0 ≤ shift)) = true then
  (shr .i64 sequence shift).bind fun q =>
  (apz 1 out2 ([(u8 q)] : List Int)).bind fun l =>
  some (.inl (l, (i64 (shift - 8))))
  else
  some (.inr out2)

noncomputable def Xm (out : List Int) (out4 : List Int) (i : Int) : Option (((List Int) × Int) ⊕ ((List Int))) :=
  if (decide (i < ((Int.toNat (6 - 2) : Nat) : Int))) = true then
  (ck (decide ((0 : Int) ≤ i) && decide (i < ((Int.toNat (6 - 2) : Nat) : Int)))).bind fun u2 =>
  (idx out (2 + i)).bind fun x2 =>
  (apz 1 out4 ([(Zcd .u8 255 x2)] : List Int)).bind fun l2 =>
  some (.inl (l2, (i64 (i + 1))))
  else
  some (.inr out4)

noncomputable def J9 (sequence : Int) : Option (List Int) :=
  ((loop (t2 (Xo sequence)) (([79, 66] : List Int), 24)) : Option (((List Int)))).bind (t1 fun (out : List Int) =>
  (((slp out 2 6).bind fun u =>
  loop (t2 (Xm out)) (out, 0)) : Option (((List Int)))).bind (t1 fun (out3 : List Int) =>
  some out3))

noncomputable def Qy (s1 : List Int) (s2 : List Int) (i : Int) : Option ((Int) ⊕ (Bool) ⊕ (Unit)) :=
  if (decide (i < (s1.length : Int))) = true then
  (idx s1 i).bind fun x =>
  (idx s2 i).bind fun x2 =>
  if (!decide (x = x2)) = true then
  some (.inr (.inl false))
  else
  some (.inl (i64 (i + 1)))
  else
  some (.inr (.inr ()))

noncomputable def QC (s1 : List Int) (s2 : List Int) : Option Bool :=
  if (!decide ((s1.length : Int) = (s2.length : Int))) = true then
  some false
  else
  ((loop (t1 (Qy s1 s2)) 0) : Option ((Bool) ⊕ (Unit))).bind (Sum.elim (fun q' => some q') (t0 (some true)))

noncomputable def JY (s : List Int) : Option (Int × Bool × Bool) :=
  if (decide ((s.length : Int) < 16)) = true then
  some (0, false, false)
  else
  (slc s 0 16).bind fun l =>
  (tov 16 l).bind fun v =>
  (ZP v 2).bind fun x =>
  (shl .i64 (i64 x) 24).bind fun q =>
  (ZP v 3).bind fun x2 =>
  (shl .i64 (i64 x2) 16).bind fun q2 =>
  (ZP v 4).bind fun x3 =>
  (shl .i64 (i64 x3) 8).bind fun q3 =>
  (ZP v 5).bind fun x4 =>
  (Qo (bor .i64 (bor .i64 (bor .i64 q q2) q3) (i64 x4)) 1 1073741824).bind fun y =>
  (gd ((!y) == false) [] (slc v.toList 0 10)).bind fun l2 =>
  (gd ((!y) == false) [] (J9 (bor .i64 (bor .i64 (bor .i64 q q2) q3) (i64 x4)))).bind fun y2 =>
  (gd ((!y) == false) false (QC l2 y2)).bind fun y3 =>
  if ((!y) || (!y3)) = true then
  some (0, false, false)
  else
  (ZP v 10).bind fun x5 =>
  some ((bor .i64 (bor .i64 (bor .i64 q q2) q3) (i64 x4)), (!decide (x5 = 255)), true)

noncomputable def Zx (a : Int) (cmp : Int → Int → Option Int) (o3 : List Int) (j : Int) : Option (((List Int) × Int) ⊕ ((List Int))) :=
  (gd ((decide (a < j)) == true) 0 (idx o3 j)).bind fun x =>
  (gd ((decide (a < j)) == true) 0 (idx o3 (i64 (j - 1)))).bind fun x2 =>
  (gd ((decide (a < j)) == true) 0 (cmp x x2)).bind fun y =>
  if ((decide (a < j)) && (decide (y < 0))) = true then
  (idx o3 (i64 (j - 1))).bind fun x3 =>
  (idx o3 j).bind fun x4 =>
  (idx o3 j).bind fun x5 =>
  (idx (o3.set j.toNat x3) (i64 (j - 1))).bind fun x6 =>
  some (.inl (((o3.set j.toNat x3).set (i64 (j - 1)).toNat x4), (i64 (j - 1))))
  else
  some (.inr o3)

noncomputable def Zs (a : Int) (b : Int) (cmp : Int → Int → Option Int) (o : List Int) (i : Int) : Option (((List Int) × Int) ⊕ ((List Int))) :=
  if (decide (i < b)) = true then
  ((loop (t2 (Zx a cmp)) (o, i)) : Option (((List Int)))).bind (t1 fun (o2 : List Int) =>
  some (.inl (o2, (i64 (i + 1)))))
  else
  some (.inr o)

noncomputable def Zy (data : List Int) (a : Int) (b : Int) (cmp : Int → Int → Option Int) : Option (List Int) :=
  loop (t2 (Zs a b cmp)) (data, (i64 (a + 1)))

noncomputable def ZW (a : Int) (b : Int) (n : Int) (o : List Int) (i : Int) : Option (((List Int) × Int) ⊕ ((List Int))) :=
  if (decide (i < n)) = true then
  (idx o (i64 (b + i))).bind fun x =>
  (idx o (i64 (a + i))).bind fun x2 =>
  (idx o (i64 (a + i))).bind fun x3 =>
  (idx (o.set (i64 (a + i)).toNat x) (i64 (b + i))).bind fun x4 =>
  some (.inl (((o.set (i64 (a + i)).toNat x).set (i64 (b + i)).toNat x2), (i64 (i + 1))))
  else
  some (.inr o)

noncomputable def ZJ (data : List Int) (a : Int) (b : Int) (n : Int) (cmp : Int → Int → Option Int) : Option (List Int) :=
  loop (t2 (ZW a b n)) (data, 0)

noncomputable def Qa (m : Int) (cmp : Int → Int → Option Int) (o2 : List Int) (i2 : Int) (j : Int) : Option (((List Int) × Int × Int) ⊕ ((List Int) × Int)) :=
  if (!decide (i2 = j)) = true then
  if (decide (j < i2)) = true then
  (ZJ o2 (i64 (m - i2)) m j cmp).bind fun y =>
  some (.inl (y, (i64 (i2 - j)), j))
  else
  (ZJ o2 (i64 (m - i2)) (i64 ((i64 (m + j)) - i2)) i2 cmp).bind fun y2 =>
  some (.inl (y2, i2, (i64 (j - i2))))
  else
  some (.inr (o2, i2))

noncomputable def Qd (data : List Int) (a : Int) (m : Int) (b : Int) (cmp : Int → Int → Option Int) : Option (List Int) :=
  ((loop (t3 (Qa m cmp)) (data, (i64 (m - a)), (i64 (b - m)))) : Option (((List Int) × Int))).bind (t2 fun (o : List Int) (i : Int) =>
  (ZJ o (i64 (m - i)) m i cmp).bind fun y3 =>
  some y3)

noncomputable def Qg (data : List Int) (a : Int) (cmp : Int → Int → Option Int) (i2 : Int) (j : Int) : Option ((Int × Int) ⊕ (Int)) :=
  if (decide (i2 < j)) = true then
  (shr .u64 (u64 (i64 (i2 + j))) 1).bind fun q =>
  (idx data (i64 q)).bind fun x =>
  (idx data a).bind fun x2 =>
  (cmp x x2).bind fun y =>
  if (decide (y < 0)) = true then
  some (.inl ((i64 ((i64 q) + 1)), j))
  else
  some (.inl (i2, (i64 q)))
  else
  some (.inr i2)

noncomputable def ZL (i : Int) (o2 : List Int) (k : Int) : Option (((List Int) × Int) ⊕ ((List Int))) :=
  if (decide (k < (i64 (i - 1)))) = true then
  (idx o2 (i64 (k + 1))).bind fun x3 =>
  (idx o2 k).bind fun x4 =>
  (idx o2 k).bind fun x5 =>
  (idx (o2.set k.toNat x3) (i64 (k + 1))).bind fun x6 =>
  some (.inl (((o2.set k.toNat x3).set (i64 (k + 1)).toNat x4), (i64 (k + 1))))
  else
  some (.inr o2)

noncomputable def Qi (data : List Int) (m : Int) (cmp : Int → Int → Option Int) (i4 : Int) (j2 : Int) : Option ((Int × Int) ⊕ (Int)) :=
  if (decide (i4 < j2)) = true then
  (shr .u64 (u64 (i64 (i4 + j2))) 1).bind fun q2 =>
  (idx data m).bind fun x7 =>
  (idx data (i64 q2)).bind fun x8 =>
  (cmp x7 x8).bind fun y2 =>
  if (!(decide (y2 < 0))) = true then
  some (.inl ((i64 ((i64 q2) + 1)), j2))
  else
  some (.inl (i4, (i64 q2)))
  else
  some (.inr i4)

noncomputable def ZM (i3 : Int) (o4 : List Int) (k2 : Int) : Option (((List Int) × Int) ⊕ ((List Int))) :=
  if (decide (i3 < k2)) = true then
  (idx o4 (i64 (k2 - 1))).bind fun x9 =>
  (idx o4 k2).bind fun x10 =>
  (idx o4 k2).bind fun x11 =>
  (idx (o4.set k2.toNat x9) (i64 (k2 - 1))).bind fun x12 =>
  some (.inl (((o4.set k2.toNat x9).set (i64 (k2 - 1)).toNat x10), (i64 (k2 - 1))))
  else
  some (.inr o4)

noncomputable def Qx (data : List Int) (m : Int) (cmp : Int → Int → Option Int) (q3 : Int) (start3 : Int) (r_2 : Int) : Option ((Int × Int) ⊕ (Int)) :=
  if (decide (start3 < r_2)) = true then
  (shr .u64 (u64 (i64 (start3 + r_2))) 1).bind fun q4 =>
  (idx data (i64 ((i64 ((i64 ((i64 q3) + m)) - 1)) - (i64 q4)))).bind fun x13 =>
  (idx data (i64 q4)).bind fun x14 =>
  (cmp x13 x14).bind fun y3 =>
  if (!(decide (y3 < 0))) = true then
  some (.inl ((i64 ((i64 q4) + 1)), r_2))
  else
  some (.inl (start3, (i64 q4)))
  else
  some (.inr start3)

noncomputable def Z7 (rec_ : List Int → Int → Int → Int → (Int → Int → Option Int) → Option (List Int)) (data : List Int) (a : Int) (m : Int) (b : Int) (cmp : Int → Int → Option Int) : Option (List Int) :=
  if (decide ((i64 (m - a)) = 1)) = true then
  ((loop (t2 (Qg data a cmp)) (m, b)) : Option ((Int))).bind (t1 fun (i : Int) =>
  ((loop (t2 (ZL i)) (data, a)) : Option (((List Int)))).bind (t1 fun (o : List Int) =>
  some o))
  else
  if (decide ((i64 (b - m)) = 1)) = true then
  ((loop (t2 (Qi data m cmp)) (a, m)) : Option ((Int))).bind (t1 fun (i3 : Int) =>
  ((loop (t2 (ZM i3)) (data, m)) : Option (((List Int)))).bind (t1 fun (o3 : List Int) =>
  some o3))
  else
  (shr .u64 (u64 (i64 (a + b))) 1).bind fun q3 =>
  ((if (decide ((i64 q3) < m)) = true then
  some ((i64 ((i64 ((i64 q3) + m)) - b)), (i64 q3))
  else
  some (a, m)) : Option ((Int × Int))).bind (t2 fun (start : Int) (r_ : Int) =>
  ((loop (t2 (Qx data m cmp q3)) (start, r_)) : Option ((Int))).bind (t1 fun (start2 : Int) =>
  ((if ((decide (start2 < m)) && (decide (m < (i64 ((i64 ((i64 q3) + m)) - start2))))) = true then
  (Qd data start2 m (i64 ((i64 ((i64 q3) + m)) - start2)) cmp).bind fun y4 =>
  some y4
  else
  some data) : Option (((List Int)))).bind (t1 fun (o5 : List Int) =>
  ((if ((decide (a < start2)) && (decide (start2 < (i64 q3)))) = true then
  (rec_ o5 a start2 (i64 q3) cmp).bind fun y5 =>
  some y5
  else
  some o5) : Option (((List Int)))).bind (t1 fun (o6 : List Int) =>
  if ((decide ((i64 q3) < (i64 ((i64 ((i64 q3) + m)) - start2)))) && (decide ((i64 ((i64 ((i64 q3) + m)) - start2)) < b))) = true then
  (rec_ o6 (i64 q3) (i64 ((i64 ((i64 q3) + m)) - start2)) b cmp).bind fun y6 =>
  some y6
  else
  some o6))))

noncomputable def ZI (n_ : Nat) : List Int → Int → Int → Int → (Int → Int → Option Int) → Option (List Int) :=
  Nat.rec (motive := fun _ => List Int → Int → Int → Int → (Int → Int → Option Int) → Option (List Int)) (fun _ _ _ _ _ => none) (fun _ ih => Z7 ih) n_

noncomputable def ZK (n : Int) (cmp : Int → Int → Option Int) (o2 : List Int) (a2 : Int) (b : Int) : Option (((List Int) × Int × Int) ⊕ ((List Int) × Int)) :=
  if (decide (b ≤ n)) = true then
  (Zy o2 a2 b cmp).bind fun y =>
  some (.inl (y, b, (i64 (b + 20))))
  else
  some (.inr (o2, a2))

noncomputable def ZE (n : Int) (cmp : Int → Int → Option Int) (blockSize : Int) (o5 : List Int) (a4 : Int) (b2 : Int) : Option (((List Int) × Int × Int) ⊕ ((List Int) × Int)) :=
  if (decide (b2 ≤ n)) = true then
  (ZI 100 o5 a4 (i64 (a4 + blockSize)) b2 cmp).bind fun y3 =>
  some (.inl (y3, b2, (i64 (b2 + (i64 (2 * blockSize))))))
  else
  some (.inr (o5, a4))

noncomputable def ZD (n : Int) (cmp : Int → Int → Option Int) (o3 : List Int) (blockSize : Int) : Option (((List Int) × Int) ⊕ ((List Int))) :=
  if (decide (blockSize < n)) = true then
  ((loop (t3 (ZE n cmp blockSize)) (o3, 0, (i64 (2 * blockSize)))) : Option (((List Int) × Int))).bind (t2 fun (o4 : List Int) (a3 : Int) =>
  if (decide ((i64 (a3 + blockSize)) < n)) = true then
  (ZI 100 o4 a3 (i64 (a3 + blockSize)) n cmp).bind fun y4 =>
  some (.inl (y4, (i64 (blockSize * 2))))
  else
  some (.inl (o4, (i64 (blockSize * 2)))))
  else
  some (.inr o3)

noncomputable def Qe (data : List Int) (n : Int) (cmp : Int → Int → Option Int) : Option (List Int) :=
  ((loop (t3 (ZK n cmp)) (data, 0, 20)) : Option (((List Int) × Int))).bind (t2 fun (o : List Int) (a : Int) =>
  (Zy o a n cmp).bind fun y2 =>
  loop (t2 (ZD n cmp)) (y2, 20))

noncomputable def ZO (x : List Int) (cmp : Int → Int → Option Int) : Option (List Int) :=
  (Qe x (x.length : Int) cmp).bind fun y =>
  some y

noncomputable def XP (i : Int) (c0 : api_Memory) : Option Int :=
  (idx c0.Sectors i).bind fun x =>
  (JY x).bind fun y =>
  some y.1

noncomputable def XJ (a : Int) (b : Int) (k : api_Memory) : Option Int :=
  (XP a k).bind fun y =>
  (XP b k).bind fun y2 =>
  some (i64 (y - y2))

noncomputable def XX (m : api_Memory) (out2 : List Int) (i : Int) : Option (((List Int) × Int) ⊕ ((List Int))) :=
  if (decide (i < (m.Sectors.length : Int))) = true then
  (idx m.Sectors i).bind fun x =>
  (JY x).bind fun y =>
  (gd (y.2.2 == true) false (idx m.Bad i)).bind fun x2 =>
  if (y.2.2 && (!x2)) = true then
  (apz 8 out2 ([i] : List Int)).bind fun l =>
  some (.inl (l, (i64 (i + 1))))
  else
  some (.inl (out2, (i64 (i + 1))))
  else
  some (.inr out2)

noncomputable def Xr (m : api_Memory) : Option (List Int) :=
  ((loop (t2 (XX m)) ([], 0)) : Option (((List Int)))).bind (t1 fun (out : List Int) =>
  (ZO out (fun z0 z1 => XJ z0 z1 m)).bind fun y2 =>
  some y2)

noncomputable def Zad (s : List Int) (i : Int) : Option (Vector Int 97) :=
  (slc s (i64 (16 + (i64 (i * 97)))) (i64 ((i64 (16 + (i64 (i * 97)))) + 97))).bind fun l =>
  (tov 97 l).bind fun v =>
  some v

noncomputable def Z3 (s : List Int) (f : Int → Option Bool) (i : Int) : Option ((Int) ⊕ (Int) ⊕ (Unit)) :=
  if (decide (i < (s.length : Int))) = true then
  (idx s i).bind fun x =>
  (f x).bind fun y =>
  if y = true then
  some (.inr (.inl i))
  else
  some (.inl (i64 (i + 1)))
  else
  some (.inr (.inr ()))

noncomputable def Qs (s : List Int) (f : Int → Option Bool) : Option Int :=
  ((loop (t1 (Z3 s f)) 0) : Option ((Int) ⊕ (Unit))).bind (Sum.elim (fun q' => some q') (t0 (some (-1))))

noncomputable def Z0 (s : List Int) (f : Int → Option Bool) : Option Bool :=
  (Qs s f).bind fun y =>
  some (decide (0 ≤ y))

noncomputable def XN (b : Int) : Option Bool :=
  some (!decide (b = 255))

noncomputable def JD (p : Vector Int 97) : Option Int :=
  (ZP p 96).bind fun x =>
  if (decide (x = 0)) = true then
  some 1
  else
  (slc p.toList 0 (97 : Int)).bind fun l =>
  (Z0 l (fun z0 => XN z0)).bind fun y =>
  if y = true then
  some 2
  else
  some 0

noncomputable def XB (m : api_Memory) (x : Int) (slot2 : Int) (i : Int) : Option ((Int × Int) ⊕ (Int)) :=
  if (decide (i < m.Slots)) = true then
  (idx m.Sectors x).bind fun x2 =>
  (Zad x2 i).bind fun y2 =>
  (JD y2).bind fun y3 =>
  if (!decide (y3 = 0)) = true then
  some (.inl ((i64 (i + 1)), (i64 (i + 1))))
  else
  some (.inl (slot2, (i64 (i + 1))))
  else
  some (.inr slot2)

noncomputable def JJ (m : api_Memory) : Option ring_spot :=
  (Xr m).bind fun y =>
  if (decide ((y.length : Int) = 0)) = true then
  some (ring_spot.mk (-1) 0)
  else
  (idx y (i64 ((y.length : Int) - 1))).bind fun x =>
  ((loop (t2 (XB m x)) (0, 0)) : Option ((Int))).bind (t1 fun (slot : Int) =>
  some (ring_spot.mk x slot))

noncomputable def JG (y3 : (List api_Memory)) (spots2 : List ring_spot) (frozen2 : Bool) (i : Int) : Option (((List ring_spot) × Bool × Int) ⊕ ((List ring_spot) × Bool)) :=
  if (decide (i < (y3.length : Int))) = true then
  (idx y3 i).bind fun x =>
  (JJ x).bind fun y4 =>
  (apz 16 spots2 ([y4] : List ring_spot)).bind fun l2 =>
  if (decide (0 ≤ y4.sector)) = true then
  (idx x.Sectors y4.sector).bind fun x2 =>
  (JY x2).bind fun y5 =>
  some (.inl (l2, (frozen2 || y5.2.1), (i64 (i + 1))))
  else
  some (.inl (l2, frozen2, (i64 (i + 1))))
  else
  some (.inr (spots2, frozen2))

noncomputable def Jm (l : List api_Memory) (copies : Int) : Option ((Int) ⊕ (ring_Recorder × Int)) :=
  (XE l).bind fun y =>
  if (!decide (y = 0)) = true then
  some (Sum.inl y)
  else
  (Qo copies 1 (l.length : Int)).bind fun y2 =>
  if (!y2) = true then
  some (Sum.inl 9)
  else
  (XF l).bind fun y3 =>
  ((loop (t3 (JG y3)) ([], false, 0)) : Option (((List ring_spot) × Bool))).bind (t2 fun (spots : List ring_spot) (frozen : Bool) =>
  some (Sum.inr ((ring_Recorder.mk (ring_bank.mk y3 spots) copies frozen false 0 false), 0)))

noncomputable def Xb (r_ : ring_Recorder) (power : Int) : Option Int :=
  if r_.stopped = true then
  some 15
  else
  if r_.frozen = true then
  some 11
  else
  (Qo power 0 1000000000).bind fun y =>
  if (!y) = true then
  some 9
  else
  some 0

noncomputable def X6 (w : Int) : Option Int :=
  some (i64 (QD .u16 w 2047))

noncomputable def XH (f : Vector Int 64) : Option Int :=
  (ZP f 1).bind fun x =>
  (X6 x).bind fun y =>
  (ZP f 2).bind fun x2 =>
  (X6 x2).bind fun y2 =>
  (shl .i64 y2 11).bind fun q =>
  some (bor .i64 y q)

def gv_frame_syncs : Vector Int 4 := #v[583, 1464, 2631, 3512]

noncomputable def J3 (x : Int) : Option Int :=
  (shr .u16 x 8).bind fun q =>
  (Zms [0, 1, 1, 2, 1, 2, 2, 3, 1, 2, 2, 3, 2, 3, 3, 4, 1, 2, 2, 3, 2, 3, 3, 4, 2, 3, 3, 4, 3, 4, 4, 5, 1, 2, 2, 3, 2, 3, 3, 4, 2, 3, 3, 4, 3, 4, 4, 5, 2, 3, 3, 4, 3, 4, 4, 5, 3, 4, 4, 5, 4, 5, 5, 6, 1, 2, 2, 3, 2, 3, 3, 4, 2, 3, 3, 4, 3, 4, 4, 5, 2, 3, 3, 4, 3, 4, 4, 5, 3, 4, 4, 5, 4, 5, 5, 6, 2, 3, 3, 4, 3, 4, 4, 5, 3, 4, 4, 5, 4, 5, 5, 6, 3, 4, 4, 5, 4, 5, 5, 6, 4, 5, 5, 6, 5, 6, 6, 7, 1, 2, 2, 3, 2, 3, 3, 4, 2, 3, 3, 4, 3, 4, 4, 5, 2, 3, 3, 4, 3, 4, 4, 5, 3, 4, 4, 5, 4, 5, 5, 6, 2, 3, 3, 4, 3, 4, 4, 5, 3, 4, 4, 5, 4, 5, 5, 6, 3, 4, 4, 5, 4, 5, 5, 6, 4, 5, 5, 6, 5, 6, 6, 7, 2, 3, 3, 4, 3, 4, 4, 5, 3, 4, 4, 5, 4, 5, 5, 6, 3, 4, 4, 5, 4, 5, 5, 6, 4, 5, 5, 6, 5, 6, 6, 7, 3, 4, 4, 5, 4, 5, 5, 6, 4, 5, 5, 6, 5, 6, 6, 7, 4, 5, 5, 6, 5, 6, 6, 7, 5, 6, 6, 7, 6, 7, 7, 8] q).bind fun b =>
  (Zms [0, 1, 1, 2, 1, 2, 2, 3, 1, 2, 2, 3, 2, 3, 3, 4, 1, 2, 2, 3, 2, 3, 3, 4, 2, 3, 3, 4, 3, 4, 4, 5, 1, 2, 2, 3, 2, 3, 3, 4, 2, 3, 3, 4, 3, 4, 4, 5, 2, 3, 3, 4, 3, 4, 4, 5, 3, 4, 4, 5, 4, 5, 5, 6, 1, 2, 2, 3, 2, 3, 3, 4, 2, 3, 3, 4, 3, 4, 4, 5, 2, 3, 3, 4, 3, 4, 4, 5, 3, 4, 4, 5, 4, 5, 5, 6, 2, 3, 3, 4, 3, 4, 4, 5, 3, 4, 4, 5, 4, 5, 5, 6, 3, 4, 4, 5, 4, 5, 5, 6, 4, 5, 5, 6, 5, 6, 6, 7, 1, 2, 2, 3, 2, 3, 3, 4, 2, 3, 3, 4, 3, 4, 4, 5, 2, 3, 3, 4, 3, 4, 4, 5, 3, 4, 4, 5, 4, 5, 5, 6, 2, 3, 3, 4, 3, 4, 4, 5, 3, 4, 4, 5, 4, 5, 5, 6, 3, 4, 4, 5, 4, 5, 5, 6, 4, 5, 5, 6, 5, 6, 6, 7, 2, 3, 3, 4, 3, 4, 4, 5, 3, 4, 4, 5, 4, 5, 5, 6, 3, 4, 4, 5, 4, 5, 5, 6, 4, 5, 5, 6, 5, 6, 6, 7, 3, 4, 4, 5, 4, 5, 5, 6, 4, 5, 5, 6, 5, 6, 6, 7, 4, 5, 5, 6, 5, 6, 6, 7, 5, 6, 6, 7, 6, 7, 7, 8] (QD .u16 x 255)).bind fun b2 =>
  some (i64 (u8 (b + b2)))

noncomputable def ZaR (w : Int) : Option Bool :=
  (gd ((decide (w ≤ 4095)) == true) 0 (J3 w)).bind fun y =>
  (gd ((decide (w ≤ 4095)) == true) 0 (rem y 2)).bind fun q =>
  some ((decide (w ≤ 4095)) && (decide (q = 1)))

noncomputable def Je (f : Vector Int 64) (n2 : Int) (i : Int) : Option ((Int × Int) ⊕ (Int)) :=
  if (decide (i < 60)) = true then
  (ZP f (i64 (i + 1))).bind fun x =>
  (X6 x).bind fun y =>
  some (.inl ((Zcd .i64 n2 y), (i64 (i + 1))))
  else
  some (.inr n2)

noncomputable def ZaL (f : Vector Int 64) : Option Int :=
  ((loop (t2 (Je f)) (0, 0)) : Option ((Int))).bind (t1 fun (n : Int) =>
  some n)

noncomputable def Xe (f : Vector Int 64) (i : Int) (n4 : Int) (k : Int) : Option ((Int × Int) ⊕ (Int)) :=
  if (decide (0 ≤ k)) = true then
  (shl .i64 n4 1).bind fun q =>
  (ZP f i).bind fun x =>
  (shr .u16 x k).bind fun q2 =>
  if (!((!decide ((QD .i64 n4 2097152) = 0)) == (decide ((QD .u16 q2 1) = 1)))) = true then
  some (.inl ((Zcd .i64 (QD .i64 q 4194303) 2097167), (i64 (k - 1))))
  else
  some (.inl ((QD .i64 q 4194303), (i64 (k - 1))))
  else
  some (.inr n4)

noncomputable def XC (f : Vector Int 64) (n2 : Int) (i : Int) : Option ((Int × Int) ⊕ (Int)) :=
  if (decide (i < 62)) = true then
  ((loop (t2 (Xe f i)) (n2, 11)) : Option ((Int))).bind (t1 fun (n3 : Int) =>
  some (.inl (n3, (i64 (i + 1)))))
  else
  some (.inr n2)

noncomputable def JM (f : Vector Int 64) : Option Int :=
  ((loop (t2 (XC f)) (0, 0)) : Option ((Int))).bind (t1 fun (n : Int) =>
  some n)

noncomputable def Ja (f : Vector Int 64) (out2 : List api_Flaw) (i : Int) : Option (((List api_Flaw) × Int) ⊕ ((List api_Flaw))) :=
  if (decide (i < 64)) = true then
  (ZP f i).bind fun x =>
  if (decide (4095 < x)) = true then
  (app out2 ([(api_Flaw.mk i 5)] : List api_Flaw)).bind fun l =>
  some (.inl (l, (i64 (i + 1))))
  else
  some (.inl (out2, (i64 (i + 1))))
  else
  some (.inr out2)

noncomputable def Jj (f : Vector Int 64) (out5 : List api_Flaw) (i2 : Int) : Option (((List api_Flaw) × Int) ⊕ ((List api_Flaw))) :=
  if (decide (i2 < 64)) = true then
  (ZP f i2).bind fun x4 =>
  (ZaR x4).bind fun y2 =>
  if (!y2) = true then
  (app out5 ([(api_Flaw.mk i2 2)] : List api_Flaw)).bind fun l3 =>
  some (.inl (l3, (i64 (i2 + 1))))
  else
  some (.inl (out5, (i64 (i2 + 1))))
  else
  some (.inr out5)

noncomputable def Zab (f : Vector Int 64) : Option (List api_Flaw) :=
  ((loop (t2 (Ja f)) ([], 0)) : Option (((List api_Flaw)))).bind (t1 fun (out : List api_Flaw) =>
  if (decide (0 < (out.length : Int))) = true then
  some out
  else
  (((ZP f 0).bind fun x2 =>
  (XH f).bind fun y =>
  (rem y 4).bind fun q =>
  (ZP gv_frame_syncs q).bind fun x3 =>
  if (!decide (x2 = x3)) = true then
  (app out ([(api_Flaw.mk 0 1)] : List api_Flaw)).bind fun l2 =>
  some l2
  else
  some out) : Option (((List api_Flaw)))).bind (t1 fun (out3 : List api_Flaw) =>
  ((loop (t2 (Jj f)) (out3, 1)) : Option (((List api_Flaw)))).bind (t1 fun (out4 : List api_Flaw) =>
  (((ZP f 61).bind fun x5 =>
  (X6 x5).bind fun y3 =>
  (ZaL f).bind fun y4 =>
  if (!decide (y3 = y4)) = true then
  (app out4 ([(api_Flaw.mk 61 3)] : List api_Flaw)).bind fun l4 =>
  some l4
  else
  some out4) : Option (((List api_Flaw)))).bind (t1 fun (out6 : List api_Flaw) =>
  (ZP f 62).bind fun x6 =>
  (X6 x6).bind fun y5 =>
  (shl .i64 y5 11).bind fun q2 =>
  (ZP f 63).bind fun x7 =>
  (X6 x7).bind fun y6 =>
  (JM f).bind fun y7 =>
  if (!decide ((bor .i64 q2 y6) = y7)) = true then
  (app out6 ([(api_Flaw.mk 62 4)] : List api_Flaw)).bind fun l5 =>
  some l5
  else
  some out6))))

noncomputable def X8 (f : Vector Int 64) : Option (Int × Bool) :=
  (ZP f 1).bind fun x =>
  (ZaR x).bind fun y =>
  (gd ((!y) == false) 0 (ZP f 2)).bind fun x2 =>
  (gd ((!y) == false) false (ZaR x2)).bind fun y2 =>
  if ((!y) || (!y2)) = true then
  some (0, false)
  else
  (XH f).bind fun y3 =>
  some (y3, true)

noncomputable def X3 (number : Int) (memories : Int) (copies : Int) (out2 : List Int) (i : Int) : Option (((List Int) × Int) ⊕ ((List Int))) :=
  if (decide (i < copies)) = true then
  (rem (i64 (number + i)) memories).bind fun q =>
  (apz 8 out2 ([q] : List Int)).bind fun l =>
  some (.inl (l, (i64 (i + 1))))
  else
  some (.inr out2)

noncomputable def Zaj (number : Int) (memories : Int) (copies : Int) : Option (List Int) :=
  ((loop (t2 (X3 number memories copies)) ([], 0)) : Option (((List Int)))).bind (t1 fun (out : List Int) =>
  some out)

noncomputable def QK (b : ring_bank) (k : Int) : Option Bool :=
  (idx b.spots k).bind fun x =>
  (gd ((decide (x.sector < 0)) == false) (ring_spot.mk 0 0) (idx b.spots k)).bind fun x2 =>
  (gd ((decide (x.sector < 0)) == false) (api_Memory.mk 0 0 [] [] []) (idx b.memories k)).bind fun x3 =>
  some ((decide (x.sector < 0)) || (decide (x2.slot = x3.Slots)))

noncomputable def Xn (b : ring_bank) (k : Int) (x : api_Memory) (i : Int) : Option ((Int) ⊕ (Int) ⊕ (Unit)) :=
  if (decide (i < (x.Sectors.length : Int))) = true then
  (idx b.spots k).bind fun x2 =>
  (rem (i64 ((i64 (x2.sector + 1)) + i)) (x.Sectors.length : Int)).bind fun q =>
  (idx x.Bad q).bind fun x3 =>
  (gd ((!x3) == true) 0 (idx x.Wear q)).bind fun x4 =>
  if ((!x3) && (decide (x4 < x.Limit))) = true then
  some (.inr (.inl q))
  else
  some (.inl (i64 (i + 1)))
  else
  some (.inr (.inr ()))

noncomputable def Q7 (b : ring_bank) (k : Int) : Option Int :=
  (idx b.memories k).bind fun x =>
  ((loop (t1 (Xn b k x)) 0) : Option ((Int) ⊕ (Unit))).bind (Sum.elim (fun q' => some q') (t0 (some (-1))))

noncomputable def QN (sector : Int) (x : api_Memory) (most2 : Int) (i : Int) : Option ((Int × Int) ⊕ (Int)) :=
  if (decide (i < (x.Sectors.length : Int))) = true then
  (idx x.Sectors i).bind fun x2 =>
  (JY x2).bind fun y =>
  if (y.2.2 && (!decide (i = sector))) = true then
  some (.inl ((max most2 y.1), (i64 (i + 1))))
  else
  some (.inl (most2, (i64 (i + 1))))
  else
  some (.inr most2)

noncomputable def QE (b : ring_bank) (k : Int) (sector : Int) : Option Int :=
  (((idx b.memories k).bind fun x =>
  loop (t2 (QN sector x)) (0, 0)) : Option ((Int))).bind (t1 fun (most : Int) =>
  some (i64 (most + 1)))

noncomputable def Q9 (b : ring_bank) (l : List Int) (i : Int) : Option ((Int) ⊕ (Int) ⊕ (Unit)) :=
  if (decide (i < (l.length : Int))) = true then
  (idx l i).bind fun x =>
  (QK b x).bind fun y =>
  (gd (y == true) 0 (Q7 b x)).bind fun y2 =>
  if (y && (decide (y2 < 0))) = true then
  some (.inr (.inl 4))
  else
  some (.inl (i64 (i + 1)))
  else
  some (.inr (.inr ()))

noncomputable def Xa (b : ring_bank) (l : List Int) (i2 : Int) : Option ((Int) ⊕ (Int) ⊕ (Unit)) :=
  if (decide (i2 < (l.length : Int))) = true then
  (idx l i2).bind fun x2 =>
  (QK b x2).bind fun y3 =>
  (gd (y3 == true) 0 (Q7 b x2)).bind fun y4 =>
  (gd (y3 == true) 0 (QE b x2 y4)).bind fun y5 =>
  if (y3 && (decide (1073741824 < y5))) = true then
  some (.inr (.inl 3))
  else
  some (.inl (i64 (i2 + 1)))
  else
  some (.inr (.inr ()))

noncomputable def X5 (b : ring_bank) (l : List Int) : Option Int :=
  ((loop (t1 (Q9 b l)) 0) : Option ((Int) ⊕ (Unit))).bind (Sum.elim (fun q' => some q') (t0 (((loop (t1 (Xa b l)) 0) : Option ((Int) ⊕ (Unit))).bind (Sum.elim (fun q' => some q') (t0 (some 0))))))

noncomputable def JE (f : Vector Int 64) (i : Int) : Option ((Int) ⊕ (Bool) ⊕ (Unit)) :=
  if (decide (i < 64)) = true then
  (ZP f i).bind fun x =>
  if (decide (4095 < x)) = true then
  some (.inr (.inl true))
  else
  some (.inl (i64 (i + 1)))
  else
  some (.inr (.inr ()))

noncomputable def Zbx (f : Vector Int 64) : Option Bool :=
  ((loop (t1 (JE f)) 0) : Option ((Bool) ⊕ (Unit))).bind (Sum.elim (fun q' => some q') (t0 (some false)))

noncomputable def X4 (p : Vector Int 96) (i : Int) (w : Int) : Option (Vector Int 96) :=
  (quo .i64 i 2).bind fun q =>
  (rem i 2).bind fun q2 =>
  if (decide (q2 = 0)) = true then
  (shr .u16 w 4).bind fun q3 =>
  (ZP p (i64 ((i64 (q * 3)) + 1))).bind fun x =>
  (ZP p (i64 (q * 3))).bind fun x2 =>
  (shl .u16 (QD .u16 w 15) 4).bind fun q4 =>
  (ZP (JQ p (i64 (q * 3)) (u8 q3)) (i64 ((i64 (q * 3)) + 1))).bind fun x3 =>
  some (JQ (JQ p (i64 (q * 3)) (u8 q3)) (i64 ((i64 (q * 3)) + 1)) (bor .u8 (u8 q4) (QD .u8 x 15)))
  else
  (ZP p (i64 ((i64 (q * 3)) + 1))).bind fun x4 =>
  (shr .u16 w 8).bind fun q5 =>
  (ZP p (i64 ((i64 (q * 3)) + 1))).bind fun x5 =>
  (ZP (JQ p (i64 ((i64 (q * 3)) + 1)) (bor .u8 (QD .u8 x4 240) (u8 q5))) (i64 ((i64 (q * 3)) + 2))).bind fun x6 =>
  some (JQ (JQ p (i64 ((i64 (q * 3)) + 1)) (bor .u8 (QD .u8 x4 240) (u8 q5))) (i64 ((i64 (q * 3)) + 2)) (u8 w))

noncomputable def JI (f : Vector Int 64) (o : Vector Int 96) (i : Int) : Option (((Vector Int 96) × Int) ⊕ ((Vector Int 96))) :=
  if (decide (i < 64)) = true then
  (ZP f i).bind fun x =>
  (X4 o i x).bind fun y =>
  some (.inl (y, (i64 (i + 1))))
  else
  some (.inr o)

noncomputable def Zcw (p : Vector Int 96) (f : Vector Int 64) : Option (Vector Int 96) :=
  loop (t2 (JI f)) (p, 0)

noncomputable def JK (f : Vector Int 64) : Option ((List Int) × Int) :=
  (Zbx f).bind fun y =>
  if y = true then
  some ([], 9)
  else
  (Zcw (Vector.replicate 96 0) f).bind fun y2 =>
  (slc y2.toList 0 (96 : Int)).bind fun l =>
  some (l, 0)

noncomputable def Qq (q : Int) (o2 : List Int) (i : Int) : Option (((List Int) × Int) ⊕ ((List Int))) :=
  if (decide (i < ((Int.toNat (q - 0) : Nat) : Int))) = true then
  (ck (decide ((0 : Int) ≤ i) && decide (i < ((Int.toNat (q - 0) : Nat) : Int)))).bind fun u2 =>
  (idx o2 (0 + i)).bind fun x2 =>
  some (.inl ((o2.set (0 + i).toNat 255), (i64 (i + 1))))
  else
  some (.inr o2)

noncomputable def Qr (s : List Int) (o4 : List Int) (i2 : Int) : Option (((List Int) × Int) ⊕ ((List Int))) :=
  if (decide (i2 < (s.length : Int))) = true then
  (idx o4 i2).bind fun x3 =>
  some (.inl ((o4.set i2.toNat 255), (i64 (i2 + 1))))
  else
  some (.inr o4)

noncomputable def QW (s : List Int) (power : Int) : Option (Int × Bool × (List Int)) :=
  if (decide (power = 0)) = true then
  (quo .i64 (s.length : Int) 2).bind fun q =>
  (slp s 0 q).bind fun u =>
  ((loop (t2 (Qq q)) (s, 0)) : Option (((List Int)))).bind (t1 fun (o : List Int) =>
  some ((max (i64 (power - 1)) 0), (decide (0 < power)), o))
  else
  ((loop (t2 (Qr s)) (s, 0)) : Option (((List Int)))).bind (t1 fun (o3 : List Int) =>
  some ((max (i64 (power - 1)) 0), (decide (0 < power)), o3))

noncomputable def QL (at_ : Int) (data : List Int) (o2 : List Int) (power3 : Int) (i : Int) : Option (((List Int) × Int × Int) ⊕ (Int × Bool × (List Int)) ⊕ ((List Int) × Int)) :=
  if (decide (i < (data.length : Int))) = true then
  (idx data i).bind fun x =>
  if (decide (power3 = 0)) = true then
  (idx o2 (i64 (at_ + i))).bind fun x2 =>
  (idx o2 (i64 (at_ + i))).bind fun x3 =>
  some (.inr (.inl (0, false, (o2.set (i64 (at_ + i)).toNat (QD .u8 x2 (bor .u8 x 15))))))
  else
  (idx o2 (i64 (at_ + i))).bind fun x4 =>
  (idx o2 (i64 (at_ + i))).bind fun x5 =>
  some (.inl ((o2.set (i64 (at_ + i)).toNat (QD .u8 x4 x)), (i64 (power3 - 1)), (i64 (i + 1))))
  else
  some (.inr (.inr (o2, power3)))

noncomputable def QT (s : List Int) (at_ : Int) (data : List Int) (power : Int) : Option (Int × Bool × (List Int)) :=
  ((loop (t3 (QL at_ data)) (s, power, 0)) : Option ((Int × Bool × (List Int)) ⊕ ((List Int) × Int))).bind (Sum.elim (fun q' => some q') (t2 fun (o : List Int) (power2 : Int) =>
  some (power2, true, o)))

noncomputable def Xl (b : ring_Recorder) (k : Int) (power : Int) : Option (Int × Bool × ring_Recorder) :=
  (idx b.bank.memories k).bind fun x =>
  (Q7 b.bank k).bind fun y =>
  (QE b.bank k y).bind fun y2 =>
  (idx x.Wear y).bind fun x2 =>
  (idx x.Wear y).bind fun x3 =>
  (idx x.Sectors y).bind fun x8 =>
  (QW x8 power).bind fun y3 =>
  if (!y3.2.1) = true then
  some (y3.1, false, (ring_Recorder.mk (ring_bank.mk ((b.bank.memories.set k.toNat (api_Memory.mk x.Slots x.Limit x.Sectors (x.Wear.set y.toNat (i64 (x2 + 1))) x.Bad)).set k.toNat (api_Memory.mk x.Slots x.Limit (x.Sectors.set y.toNat y3.2.2) (x.Wear.set y.toNat (i64 (x2 + 1))) x.Bad)) b.bank.spots) b.copies b.frozen b.stopped b.last b.some_))
  else
  (((idx ((b.bank.memories.set k.toNat (api_Memory.mk x.Slots x.Limit x.Sectors (x.Wear.set y.toNat (i64 (x2 + 1))) x.Bad)).set k.toNat (api_Memory.mk x.Slots x.Limit (x.Sectors.set y.toNat y3.2.2) (x.Wear.set y.toNat (i64 (x2 + 1))) x.Bad)) k).bind fun x14 =>
  (idx x14.Sectors y).bind fun x15 =>
  (idx x14.Sectors y).bind fun x16 =>
  (J9 y2).bind fun y4 =>
  (QT x15 0 y4 y3.1).bind fun y5 =>
  if y5.2.1 = true then
  (idx b.bank.spots k).bind fun x22 =>
  some ((((b.bank.memories.set k.toNat (api_Memory.mk x.Slots x.Limit x.Sectors (x.Wear.set y.toNat (i64 (x2 + 1))) x.Bad)).set k.toNat (api_Memory.mk x.Slots x.Limit (x.Sectors.set y.toNat y3.2.2) (x.Wear.set y.toNat (i64 (x2 + 1))) x.Bad)).set k.toNat (api_Memory.mk x14.Slots x14.Limit (x14.Sectors.set y.toNat y5.2.2) x14.Wear x14.Bad)), (b.bank.spots.set k.toNat (ring_spot.mk y 0)), y5.1, y5.2.1)
  else
  some ((((b.bank.memories.set k.toNat (api_Memory.mk x.Slots x.Limit x.Sectors (x.Wear.set y.toNat (i64 (x2 + 1))) x.Bad)).set k.toNat (api_Memory.mk x.Slots x.Limit (x.Sectors.set y.toNat y3.2.2) (x.Wear.set y.toNat (i64 (x2 + 1))) x.Bad)).set k.toNat (api_Memory.mk x14.Slots x14.Limit (x14.Sectors.set y.toNat y5.2.2) x14.Wear x14.Bad)), b.bank.spots, y5.1, y5.2.1)) : Option (((List api_Memory) × (List ring_spot) × Int × Bool))).bind (t4 fun (memories : List api_Memory) (spots : List ring_spot) (power2 : Int) (all : Bool) =>
  some (power2, all, (ring_Recorder.mk (ring_bank.mk memories spots) b.copies b.frozen b.stopped b.last b.some_)))

noncomputable def XY (b : ring_Recorder) (k : Int) (data : List Int) (power : Int) : Option (Int × Bool × ring_Recorder) :=
  (((QK b.bank k).bind fun y =>
  if y = true then
  (Xl b k power).bind fun y2 =>
  if (!y2.2.1) = true then
  some (.inl (y2.1, false, y2.2.2))
  else
  some (.inr (y2.2.2.bank.memories, y2.2.2.bank.spots, y2.2.2.copies, y2.2.2.frozen, y2.2.2.stopped, y2.2.2.last, y2.2.2.some_, y2.1))
  else
  some (.inr (b.bank.memories, b.bank.spots, b.copies, b.frozen, b.stopped, b.last, b.some_, power))) : Option ((Int × Bool × ring_Recorder) ⊕ ((List api_Memory) × (List ring_spot) × Int × Bool × Bool × Int × Bool × Int))).bind (Sum.elim (fun q' => some q') (t8 fun (memories : List api_Memory) (spots : List ring_spot) (copies : Int) (frozen : Bool) (stopped : Bool) (last : Int) (some_ : Bool) (power2 : Int) =>
  (idx spots k).bind fun x =>
  (idx memories k).bind fun x2 =>
  (idx x2.Sectors x.sector).bind fun x3 =>
  (idx memories k).bind fun x4 =>
  (idx x2.Sectors x.sector).bind fun x5 =>
  (apz 1 data ([0] : List Int)).bind fun l =>
  (QT x3 (i64 (16 + (i64 (x.slot * 97)))) l power2).bind fun y3 =>
  some (y3.1, y3.2.1, (ring_Recorder.mk (ring_bank.mk (memories.set k.toNat (api_Memory.mk x2.Slots x2.Limit (x2.Sectors.set x.sector.toNat y3.2.2) x2.Wear x2.Bad)) (spots.set k.toNat (ring_spot.mk x.sector (i64 (x.slot + 1))))) copies frozen stopped last some_))))

noncomputable def Z6 (y4 : (List Int)) (y6 : (List Int) × Int) (memories2 : List api_Memory) (spots2 : List ring_spot) (copies2 : Int) (frozen2 : Bool) (stopped2 : Bool) (last2 : Int) (some_2 : Bool) (power3 : Int) (i : Int) : Option (((List api_Memory) × (List ring_spot) × Int × Bool × Bool × Int × Bool × Int × Int) ⊕ (Int × Bool × Int × ring_Recorder) ⊕ ((List api_Memory) × (List ring_spot) × Int × Bool × Bool × Int × Bool × Int)) :=
  if (decide (i < (y4.length : Int))) = true then
  (idx y4 i).bind fun x =>
  (slc y6.1 0 (y6.1.length : Int)).bind fun l =>
  (XY (ring_Recorder.mk (ring_bank.mk memories2 spots2) copies2 frozen2 stopped2 last2 some_2) x l power3).bind fun y7 =>
  if (!y7.2.1) = true then
  some (.inr (.inl (y7.1, false, 0, (ring_Recorder.mk y7.2.2.bank y7.2.2.copies y7.2.2.frozen true y7.2.2.last y7.2.2.some_))))
  else
  some (.inl (y7.2.2.bank.memories, y7.2.2.bank.spots, y7.2.2.copies, y7.2.2.frozen, y7.2.2.stopped, y7.2.2.last, y7.2.2.some_, y7.1, (i64 (i + 1))))
  else
  some (.inr (.inr (memories2, spots2, copies2, frozen2, stopped2, last2, some_2, power3)))

noncomputable def Qv (r_ : ring_Recorder) (f : Vector Int 64) (power : Int) : Option (Int × Bool × Int × ring_Recorder) :=
  (Xb r_ power).bind fun y =>
  if (!decide (y = 0)) = true then
  some (0, false, y, r_)
  else
  (Zab f).bind fun y2 =>
  if (decide (0 < (y2.length : Int))) = true then
  some (0, false, 2, r_)
  else
  (X8 f).bind fun y3 =>
  (Zaj y3.1 (r_.bank.memories.length : Int) r_.copies).bind fun y4 =>
  (X5 r_.bank y4).bind fun y5 =>
  if (!decide (y5 = 0)) = true then
  some (0, false, y5, r_)
  else
  (JK f).bind fun y6 =>
  ((loop (t9 (Z6 y4 y6)) (r_.bank.memories, r_.bank.spots, r_.copies, r_.frozen, r_.stopped, r_.last, r_.some_, power, 0)) : Option ((Int × Bool × Int × ring_Recorder) ⊕ ((List api_Memory) × (List ring_spot) × Int × Bool × Bool × Int × Bool × Int))).bind (Sum.elim (fun q' => some q') (t8 fun (memories : List api_Memory) (spots : List ring_spot) (copies : Int) (frozen : Bool) (stopped : Bool) (last : Int) (some_ : Bool) (power2 : Int) =>
  some (power2, true, 0, (ring_Recorder.mk (ring_bank.mk memories spots) copies frozen stopped y3.1 true))))

noncomputable def Qb (r_ : ring_Recorder) : Option (List api_Memory) :=
  (XF r_.bank.memories).bind fun y =>
  some y

noncomputable def ZbR (p : Vector Int 96) (i : Int) : Option Int :=
  (quo .i64 i 2).bind fun q =>
  (rem i 2).bind fun q2 =>
  if (decide (q2 = 0)) = true then
  (ZP p (i64 (q * 3))).bind fun x =>
  (shl .u16 (u16 x) 4).bind fun q3 =>
  (ZP p (i64 ((i64 (q * 3)) + 1))).bind fun x2 =>
  (shr .u16 (u16 x2) 4).bind fun q4 =>
  some (bor .u16 q3 q4)
  else
  (ZP p (i64 ((i64 (q * 3)) + 1))).bind fun x3 =>
  (shl .u16 (QD .u16 (u16 x3) 15) 8).bind fun q5 =>
  (ZP p (i64 ((i64 (q * 3)) + 2))).bind fun x4 =>
  some (bor .u16 q5 (u16 x4))

noncomputable def ZcP (p : Vector Int 96) (f2 : Vector Int 64) (i : Int) : Option (((Vector Int 64) × Int) ⊕ ((Vector Int 64))) :=
  if (decide (i < 64)) = true then
  (ZbR p i).bind fun y =>
  (ZP f2 i).bind fun x =>
  some (.inl ((JQ f2 i y), (i64 (i + 1))))
  else
  some (.inr f2)

noncomputable def Zd0 (p : Vector Int 96) : Option (Vector Int 64) :=
  ((loop (t2 (ZcP p)) ((Vector.replicate 64 0), 0)) : Option (((Vector Int 64)))).bind (t1 fun (f : Vector Int 64) =>
  some f)

noncomputable def Zan (b : List Int) : Option ((Vector Int 64) × Int) :=
  if (decide ((b.length : Int) < 96)) = true then
  some ((#v[0, 0, 0, 0, 0, 0, 0, 0, 0, 0, 0, 0, 0, 0, 0, 0, 0, 0, 0, 0, 0, 0, 0, 0, 0, 0, 0, 0, 0, 0, 0, 0, 0, 0, 0, 0, 0, 0, 0, 0, 0, 0, 0, 0, 0, 0, 0, 0, 0, 0, 0, 0, 0, 0, 0, 0, 0, 0, 0, 0, 0, 0, 0, 0] : Vector Int 64), 3)
  else
  (slc b 0 96).bind fun l =>
  (tov 96 l).bind fun v =>
  (Zd0 v).bind fun y =>
  some (y, 0)

noncomputable def Zbo (i : Int) (x : api_Memory) (x2 : Int) (y3 : Int × Bool × Bool) (out6 : List api_Kept) (i3 : Int) : Option (((List api_Kept) × Int) ⊕ ((List api_Kept))) :=
  if (decide (i3 < x.Slots)) = true then
  (idx x.Sectors x2).bind fun x4 =>
  (Zad x4 i3).bind fun y4 =>
  (JD y4).bind fun y5 =>
  if (decide (y5 = 1)) = true then
  (slc y4.toList 0 (97 : Int)).bind fun l2 =>
  (Zan l2).bind fun y6 =>
  (apz 160 out6 ([(api_Kept.mk i x2 y3.1 i3 y6.1)] : List api_Kept)).bind fun l3 =>
  some (.inl (l3, (i64 (i3 + 1))))
  else
  some (.inl (out6, (i64 (i3 + 1))))
  else
  some (.inr out6)

noncomputable def Zbm (i : Int) (x : api_Memory) (y2 : (List Int)) (out4 : List api_Kept) (i2 : Int) : Option (((List api_Kept) × Int) ⊕ ((List api_Kept))) :=
  if (decide (i2 < (y2.length : Int))) = true then
  (((idx y2 i2).bind fun x2 =>
  (idx x.Sectors x2).bind fun x3 =>
  (JY x3).bind fun y3 =>
  loop (t2 (Zbo i x x2 y3)) (out4, 0)) : Option (((List api_Kept)))).bind (t1 fun (out5 : List api_Kept) =>
  some (.inl (out5, (i64 (i2 + 1)))))
  else
  some (.inr out4)

noncomputable def Zbj (l : List api_Memory) (out2 : List api_Kept) (i : Int) : Option (((List api_Kept) × Int) ⊕ ((List api_Kept))) :=
  if (decide (i < (l.length : Int))) = true then
  (((idx l i).bind fun x =>
  (Xr x).bind fun y2 =>
  loop (t2 (Zbm i x y2)) (out2, 0)) : Option (((List api_Kept)))).bind (t1 fun (out3 : List api_Kept) =>
  some (.inl (out3, (i64 (i + 1)))))
  else
  some (.inr out2)

noncomputable def Zb7 (l : List api_Memory) : Option ((List api_Kept) × Int) :=
  (XE l).bind fun y =>
  if (!decide (y = 0)) = true then
  some ([], y)
  else
  ((loop (t2 (Zbj l)) ([], 0)) : Option (((List api_Kept)))).bind (t1 fun (out : List api_Kept) =>
  some (out, 0))

noncomputable def Zck (y : (List api_Kept) × Int) (best2 : List (Int × api_Kept)) (numbers2 : List Int) (i : Int) : Option (((List (Int × api_Kept)) × (List Int) × Int) ⊕ ((List (Int × api_Kept)) × (List Int))) :=
  if (decide (i < (y.1.length : Int))) = true then
  (idx y.1 i).bind fun x =>
  (Zab x.Frame).bind fun y2 =>
  if (decide (0 < (y2.length : Int))) = true then
  some (.inl (best2, numbers2, (i64 (i + 1))))
  else
  (X8 x.Frame).bind fun y3 =>
  (some (mget kqI best2 y3.1)).bind fun o =>
  ((if (!o.isSome) = true then
  (apz 8 numbers2 ([y3.1] : List Int)).bind fun l2 =>
  some l2
  else
  some numbers2) : Option (((List Int)))).bind (t1 fun (numbers3 : List Int) =>
  if ((!o.isSome) || (decide (((o.getD (api_Kept.mk 0 0 0 0 (Vector.replicate 64 0))).Sequence) < x.Sequence))) = true then
  some (.inl ((Zlg kqI best2 y3.1 x), numbers3, (i64 (i + 1))))
  else
  some (.inl (best2, numbers3, (i64 (i + 1)))))
  else
  some (.inr (best2, numbers2))

noncomputable def ZbG (best : List (Int × api_Kept)) (y4 : List Int) (out2 : List (Vector Int 64)) (i2 : Int) : Option (((List (Vector Int 64)) × Int) ⊕ ((List (Vector Int 64)))) :=
  if (decide (i2 < (y4.length : Int))) = true then
  (idx y4 i2).bind fun x2 =>
  (some ((mget kqI best x2).getD (api_Kept.mk 0 0 0 0 (Vector.replicate 64 0)))).bind fun o2 =>
  (apz 128 out2 ([o2.Frame] : List (Vector Int 64))).bind fun l3 =>
  some (.inl (l3, (i64 (i2 + 1))))
  else
  some (.inr out2)

noncomputable def Zc3 (l : List api_Memory) : Option ((List (Vector Int 64)) × Int) :=
  (Zb7 l).bind fun y =>
  if (!decide (y.2 = 0)) = true then
  some ([], y.2)
  else
  ((loop (t3 (Zck y)) (([] : List (Int × api_Kept)), [], 0)) : Option (((List (Int × api_Kept)) × (List Int)))).bind (t2 fun (best : List (Int × api_Kept)) (numbers : List Int) =>
  (Zic numbers).bind fun y4 =>
  ((loop (t2 (ZbG best y4)) ([], 0)) : Option (((List (Vector Int 64))))).bind (t1 fun (out : List (Vector Int 64)) =>
  some (out, 0)))

noncomputable def ZbD  : Option Bool :=
  (mkz 8 58 0).bind fun l =>
  (ZfM 4 l).bind fun y =>
  (ZaF 2 1 3).bind fun y2 =>
  if (!decide (y2.2 = 0)) = true then
  some false
  else
  (Jm ([y2.1] : List api_Memory) 1).bind (Sum.elim (fun y3 =>
  if (!decide (y3 = 0)) = true then
  some false
  else
  none) (fun y3 =>
  if (!decide (y3.2 = 0)) = true then
  some false
  else
  (Qv y3.1 y.1 109).bind fun y4 =>
  (Qb y4.2.2.2).bind fun y5 =>
  (Zc3 y5).bind fun y6 =>
  (gd ((((((decide (y4.1 = 1)) && y4.2.1) && (decide (y4.2.2.1 = 0))) && (decide (y6.2 = 0))) && (decide ((y6.1.length : Int) = 1))) == true) (Vector.replicate 64 0) (idx y6.1 0)).bind fun x =>
  some ((((((decide (y4.1 = 1)) && y4.2.1) && (decide (y4.2.2.1 = 0))) && (decide (y6.2 = 0))) && (decide ((y6.1.length : Int) = 1))) && (decide (x = y.1)))))

noncomputable def J4 (x : Int) (out4 : List Int) (k : Int) : Option (((List Int) × Int) ⊕ ((List Int))) :=
  if (decide (0 ≤ k)) = true then
  (shr .u32 x k).bind fun q =>
  (apz 1 out4 ([(u8 q)] : List Int)).bind fun l =>
  some (.inl (l, (i64 (k - 8))))
  else
  some (.inr out4)

noncomputable def J5 (sequence : Int) (out2 : List Int) (i : Int) : Option (((List Int) × Int) ⊕ ((List Int))) :=
  if (decide (i < (([(u32 sequence), (Zcd .u32 4294967295 (u32 sequence))] : List Int).length : Int))) = true then
  (((idx ([(u32 sequence), (Zcd .u32 4294967295 (u32 sequence))] : List Int) i).bind fun x =>
  loop (t2 (J4 x)) (out2, 24)) : Option (((List Int)))).bind (t1 fun (out3 : List Int) =>
  some (.inl (out3, (i64 (i + 1)))))
  else
  some (.inr out2)

noncomputable def ZfO (sequence : Int) : Option (List Int) :=
  ((loop (t2 (J5 sequence)) (([79, 66] : List Int), 0)) : Option (((List Int)))).bind (t1 fun (out : List Int) =>
  some out)

noncomputable def ZaQ (s : List Int) (sequence2 : Int) (k : Int) : Option ((Int × Int) ⊕ (Int)) :=
  if (decide (k < 6)) = true then
  (idx s k).bind fun x =>
  some (.inl ((i64 ((i64 (sequence2 * 256)) + (i64 x))), (i64 (k + 1))))
  else
  some (.inr sequence2)

noncomputable def Zf5 (s : List Int) : Option (Int × Bool × Bool) :=
  if (decide ((s.length : Int) < 16)) = true then
  some (0, false, false)
  else
  ((loop (t2 (ZaQ s)) (0, 2)) : Option ((Int))).bind (t1 fun (sequence : Int) =>
  (JB sequence 1 1073741824).bind fun y =>
  (gd (y == false) [] (ZfO sequence)).bind fun y2 =>
  (gd (y == false) [] (slc s 0 10)).bind fun l =>
  if (y || (!decide ((JT y2) = (JT l)))) = true then
  some (0, false, false)
  else
  (idx s 10).bind fun x2 =>
  some (sequence, (!decide (x2 = 255)), true))

noncomputable def Zbc (m : api_Memory) (i : Int) : Option ((Int) ⊕ (Int) ⊕ (Unit)) :=
  if (decide (i < (m.Sectors.length : Int))) = true then
  (idx m.Sectors i).bind fun x =>
  if (!decide ((x.length : Int) = (i64 (16 + (i64 (m.Slots * 97)))))) = true then
  some (.inr (.inl 3))
  else
  (idx m.Wear i).bind fun x2 =>
  (JB x2 0 m.Limit).bind fun y4 =>
  if y4 = true then
  some (.inr (.inl 9))
  else
  some (.inl (i64 (i + 1)))
  else
  some (.inr (.inr ()))

noncomputable def ZcL (m : api_Memory) : Option Int :=
  (JB m.Slots 1 64).bind fun y =>
  (gd (y == false) false (JB m.Limit 1 1000000)).bind fun y2 =>
  (gd ((y || y2) == false) false (JB (m.Sectors.length : Int) 2 64)).bind fun y3 =>
  if ((y || y2) || y3) = true then
  some 9
  else
  if ((!decide ((m.Wear.length : Int) = (m.Sectors.length : Int))) || (!decide ((m.Bad.length : Int) = (m.Sectors.length : Int)))) = true then
  some 2
  else
  ((loop (t1 (Zbc m)) 0) : Option ((Int) ⊕ (Unit))).bind (Sum.elim (fun q' => some q') (t0 (some 0)))

noncomputable def Zb2 (m : api_Memory) (out2 : List Int) (y : Int × Bool × Bool) (at_2 : Int) : Option ((Int) ⊕ (Int)) :=
  if (decide (0 < at_2)) = true then
  (idx out2 (i64 (at_2 - 1))).bind fun x3 =>
  (idx m.Sectors x3).bind fun x4 =>
  (Zf5 x4).bind fun y2 =>
  if (decide (y2.1 ≤ y.1)) = true then
  some (.inr at_2)
  else
  some (.inl (i64 (at_2 - 1)))
  else
  some (.inr at_2)

noncomputable def Zcb (m : api_Memory) (out2 : List Int) (i : Int) : Option (((List Int) × Int) ⊕ ((List Int))) :=
  if (decide (i < (m.Sectors.length : Int))) = true then
  (idx m.Sectors i).bind fun x =>
  (Zf5 x).bind fun y =>
  (gd ((!y.2.2) == false) false (idx m.Bad i)).bind fun x2 =>
  if ((!y.2.2) || x2) = true then
  some (.inl (out2, (i64 (i + 1))))
  else
  ((loop (t1 (Zb2 m out2 y)) (out2.length : Int)) : Option ((Int))).bind (t1 fun (at_ : Int) =>
  (apz 8 out2 ([0] : List Int)).bind fun l =>
  (slq l (i64 (at_ + 1)) (l.length : Int)).bind fun u =>
  (slq l at_ (l.length : Int)).bind fun u2 =>
  (idx (cpy l (i64 (at_ + 1)).toNat (Int.toNat ((l.length : Int) - (i64 (at_ + 1)))) at_.toNat (Int.toNat ((l.length : Int) - at_))) at_).bind fun x5 =>
  some (.inl (((cpy l (i64 (at_ + 1)).toNat (Int.toNat ((l.length : Int) - (i64 (at_ + 1)))) at_.toNat (Int.toNat ((l.length : Int) - at_))).set at_.toNat i), (i64 (i + 1)))))
  else
  some (.inr out2)

noncomputable def Zed (m : api_Memory) : Option (List Int) :=
  ((loop (t2 (Zcb m)) ([], 0)) : Option (((List Int)))).bind (t1 fun (out : List Int) =>
  some out)

noncomputable def ZbW (m : api_Memory) (Sectors2 : List (List Int)) (i : Int) : Option (((List (List Int)) × Int) ⊕ ((List (List Int)))) :=
  if (decide (i < (m.Sectors.length : Int))) = true then
  (((idx m.Sectors i).bind fun x =>
  (apz 1 ([] : List Int) x).bind fun l =>
  (apz 24 Sectors2 [l]).bind fun l2 =>
  some l2) : Option (((List (List Int))))).bind (t1 fun (Sectors3 : List (List Int)) =>
  some (.inl (Sectors3, (i64 (i + 1)))))
  else
  some (.inr Sectors2)

noncomputable def ZeJ (m : api_Memory) : Option api_Memory :=
  ((loop (t2 (ZbW m)) ([], 0)) : Option (((List (List Int))))).bind (t1 fun (Sectors : List (List Int)) =>
  (apz 8 ([] : List Int) m.Wear).bind fun l3 =>
  (apz 1 ([] : List Bool) m.Bad).bind fun l4 =>
  some (api_Memory.mk m.Slots m.Limit Sectors l3 l4))

noncomputable def Zev (l : List api_Memory) (i : Int) : Option ((Int) ⊕ (Int) ⊕ (Unit)) :=
  if (decide (i < (l.length : Int))) = true then
  (idx l i).bind fun x =>
  (ZcL x).bind fun y =>
  if (!decide (y = 0)) = true then
  some (.inr (.inl y))
  else
  some (.inl (i64 (i + 1)))
  else
  some (.inr (.inr ()))

noncomputable def Zi7 (l : List api_Memory) : Option Int :=
  if ((decide ((l.length : Int) = 0)) || (decide (8 < (l.length : Int)))) = true then
  some 3
  else
  ((loop (t1 (Zev l)) 0) : Option ((Int) ⊕ (Unit))).bind (Sum.elim (fun q' => some q') (t0 (some 0)))

noncomputable def ZcO (f : Vector Int 64) (out2 : List api_Flaw) (i : Int) : Option (((List api_Flaw) × Int) ⊕ ((List api_Flaw))) :=
  if (decide (i < 64)) = true then
  (ZP f i).bind fun x =>
  if (decide (4095 < x)) = true then
  (app out2 ([(api_Flaw.mk i 5)] : List api_Flaw)).bind fun l =>
  some (.inl (l, (i64 (i + 1))))
  else
  some (.inl (out2, (i64 (i + 1))))
  else
  some (.inr out2)

noncomputable def ZcT (f : Vector Int 64) (out5 : List api_Flaw) (i2 : Int) : Option (((List api_Flaw) × Int) ⊕ ((List api_Flaw))) :=
  if (decide (i2 < 64)) = true then
  (ZP f i2).bind fun x3 =>
  (ZbS (i64 x3)).bind fun y3 =>
  if (!y3) = true then
  (app out5 ([(api_Flaw.mk i2 2)] : List api_Flaw)).bind fun l3 =>
  some (.inl (l3, (i64 (i2 + 1))))
  else
  some (.inl (out5, (i64 (i2 + 1))))
  else
  some (.inr out5)

noncomputable def ZgP (f : Vector Int 64) : Option (List api_Flaw) :=
  ((loop (t2 (ZcO f)) ([], 0)) : Option (((List api_Flaw)))).bind (t1 fun (out : List api_Flaw) =>
  if (decide (0 < (out.length : Int))) = true then
  some out
  else
  (((ZP f 0).bind fun x2 =>
  (XG f).bind fun y =>
  (Zaa y).bind fun y2 =>
  if (!decide ((i64 x2) = y2)) = true then
  (app out ([(api_Flaw.mk 0 1)] : List api_Flaw)).bind fun l2 =>
  some l2
  else
  some out) : Option (((List api_Flaw)))).bind (t1 fun (out3 : List api_Flaw) =>
  ((loop (t2 (ZcT f)) (out3, 1)) : Option (((List api_Flaw)))).bind (t1 fun (out4 : List api_Flaw) =>
  (((ZP f 61).bind fun x4 =>
  (rem (i64 x4) 2048).bind fun q =>
  (Zdc f).bind fun y4 =>
  if (!decide (q = y4)) = true then
  (app out4 ([(api_Flaw.mk 61 3)] : List api_Flaw)).bind fun l4 =>
  some l4
  else
  some out4) : Option (((List api_Flaw)))).bind (t1 fun (out6 : List api_Flaw) =>
  (ZP f 62).bind fun x5 =>
  (rem (i64 x5) 2048).bind fun q2 =>
  (ZP f 63).bind fun x6 =>
  (rem (i64 x6) 2048).bind fun q3 =>
  (ZaH f).bind fun y5 =>
  if (!decide ((i64 ((i64 (q2 * 2048)) + q3)) = y5)) = true then
  (app out6 ([(api_Flaw.mk 62 4)] : List api_Flaw)).bind fun l5 =>
  some l5
  else
  some out6))))

noncomputable def ZgS (f : Vector Int 64) : Option Bool :=
  (ZgP f).bind fun y =>
  some (decide ((y.length : Int) = 0))

noncomputable def ZeU (w : Int) : Option Bool :=
  (gd ((decide (w ≤ 4095)) == true) false (ZbS (i64 w))).bind fun y =>
  some ((decide (w ≤ 4095)) && y)

noncomputable def Zid (f : Vector Int 64) : Option (Int × Bool) :=
  (ZP f 1).bind fun x =>
  (ZeU x).bind fun y =>
  (gd ((!y) == false) 0 (ZP f 2)).bind fun x2 =>
  (gd ((!y) == false) false (ZeU x2)).bind fun y2 =>
  if ((!y) || (!y2)) = true then
  some (0, false)
  else
  (XG f).bind fun y3 =>
  some (y3, true)

noncomputable def Zv (s1 : List api_Memory) (s2 : List api_Memory) (eq : api_Memory → api_Memory → Option Bool) (i : Int) : Option ((Int) ⊕ (Bool) ⊕ (Unit)) :=
  if (decide (i < (s1.length : Int))) = true then
  (idx s1 i).bind fun x =>
  (idx s2 i).bind fun x2 =>
  (eq x x2).bind fun y =>
  if (!y) = true then
  some (.inr (.inl false))
  else
  some (.inl (i64 (i + 1)))
  else
  some (.inr (.inr ()))

noncomputable def Zr (s1 : List api_Memory) (s2 : List api_Memory) (eq : api_Memory → api_Memory → Option Bool) : Option Bool :=
  if (!decide ((s1.length : Int) = (s2.length : Int))) = true then
  some false
  else
  ((loop (t1 (Zv s1 s2 eq)) 0) : Option ((Bool) ⊕ (Unit))).bind (Sum.elim (fun q' => some q') (t0 (some true)))

noncomputable def Qw (l : List api_Memory) (old2 : List api_Memory) (i : Int) : Option (((List api_Memory) × Int) ⊕ ((List api_Memory))) :=
  if (decide (i < (l.length : Int))) = true then
  (idx l i).bind fun x =>
  (ZeJ x).bind fun y =>
  (apz 88 old2 [y]).bind fun l2 =>
  some (.inl (l2, (i64 (i + 1))))
  else
  some (.inr old2)

noncomputable def Qh (deeds : List law3_Deed) (memories : List api_Memory) (spots : List ring_spot) (copies2 : Int) (frozen : Bool) (stopped : Bool) (last : Int) (some_ : Bool) (i2 : Int) : Option (((List api_Memory) × (List ring_spot) × Int × Bool × Bool × Int × Bool × Int) ⊕ (Unit)) :=
  if (decide (i2 < (deeds.length : Int))) = true then
  (idx deeds i2).bind fun x2 =>
  (Qv (ring_Recorder.mk (ring_bank.mk memories spots) copies2 frozen stopped last some_) x2.Frame x2.Power).bind fun y6 =>
  some (.inl (y6.2.2.2.bank.memories, y6.2.2.2.bank.spots, y6.2.2.2.copies, y6.2.2.2.frozen, y6.2.2.2.stopped, y6.2.2.2.last, y6.2.2.2.some_, (i64 (i2 + 1))))
  else
  some (.inr ())

noncomputable def Xp (l : List api_Memory) (copies : Int) (deeds : List law3_Deed) : Option Bool :=
  ((loop (t2 (Qw l)) ([], 0)) : Option (((List api_Memory)))).bind (t1 fun (old : List api_Memory) =>
  (Jm l copies).bind (Sum.elim (fun y2 =>
  if (!decide (y2 = 0)) = true then
  (ZbD).bind fun y3 =>
  some y3
  else
  none) (fun y2 =>
  if (!decide (y2.2 = 0)) = true then
  (ZbD).bind fun y4 =>
  some y4
  else
  (Qb y2.1).bind fun y5 =>
  ((loop (t8 (Qh deeds)) (y2.1.bank.memories, y2.1.bank.spots, y2.1.copies, y2.1.frozen, y2.1.stopped, y2.1.last, y2.1.some_, 0)) : Option ((Unit))).bind (t0 ((Zr l old (fun z0 z1 => Xt z0 z1)).bind fun y7 =>
  (gd (y7 == true) false (Zr y5 old (fun z0 z1 => Xt z0 z1))).bind fun y8 =>
  (gd ((y7 && y8) == true) false ZbD).bind fun y9 =>
  some ((y7 && y8) && y9))))))

end Go.Vx
