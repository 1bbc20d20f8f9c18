/- A text of the proof: a verified executor of the program form, or the contracts of the functions that the law reaches. -/
import Derived.Test.YtnlmjeleocelgaaGreatDoorShLib
set_option linter.all false
namespace Go.Vx
open Go Go.RowKit
set_option linter.unusedVariables false
structure api_Memory where
  Slots : Int
  Limit : Int
  Sectors : List (List Int)
  Wear : List Int
  Bad : List Bool
structure ring_spot where
  sector : Int
  slot : Int
structure ring_bank where
  memories : List api_Memory
  spots : List ring_spot
structure ring_Recorder where
  bank : ring_bank
  copies : Int
  frozen : Bool
  stopped : Bool
  last : Int
  some_ : Bool
structure api_Flaw where
  Word : Int
  Kind : Int
structure api_Kept where
  Memory : Int
  Sector : Int
  Sequence : Int
  Slot : Int
  Frame : Vector Int 64

noncomputable def ZT (n : Int) (low : Int) (high : Int) : Option Bool :=
  some ((decide (low ≤ n)) && (decide (n ≤ high)))

noncomputable def Xb (slots : Int) : Option Int :=
  some (i64 (16 + (i64 (slots * 97))))

noncomputable def ZcP (x : Int) (y : Int) : Option (Int × Int) :=
  (shr .u64 x 32).bind fun q =>
  (shr .u64 y 32).bind fun q2 =>
  (shr .u64 (u64 ((Q6 .u64 x 4294967295) * (Q6 .u64 y 4294967295))) 32).bind fun q3 =>
  (shr .u64 (u64 ((u64 (q * (Q6 .u64 y 4294967295))) + q3)) 32).bind fun q4 =>
  (shr .u64 (u64 ((Q6 .u64 (u64 ((u64 (q * (Q6 .u64 y 4294967295))) + q3)) 4294967295) + (u64 ((Q6 .u64 x 4294967295) * q2)))) 32).bind fun q5 =>
  some ((u64 ((u64 ((u64 (q * q2)) + q4)) + q5)), (u64 (x * y)))

noncomputable def Zet (x : Int) (y : Int) : Option (Int × Int) :=
  (ZcP x y).bind fun y2 =>
  some (y2.1, y2.2)

noncomputable def Qy (newslice2 : List Int) (n : Int) : Option (((List Int) × Int) ⊕ ((List Int))) :=
  if (decide (n < (newslice2.length : Int))) = true then
  (slq newslice2 n (newslice2.length : Int)).bind fun u =>
  (slq newslice2 0 n).bind fun u2 =>
  some (.inl ((cpy newslice2 n.toNat (Int.toNat ((newslice2.length : Int) - n)) (Int.toNat 0) (Int.toNat (n - 0))), (i64 (n + ((min (Int.toNat (n - 0)) (Int.toNat ((newslice2.length : Int) - n)) : Nat) : Int)))))
  else
  some (.inr newslice2)

noncomputable def Qs (x : List Int) (count : Int) : Option (List Int) :=
  if (decide (count < 0)) = true then
  none
  else
  (Zet (u64 (x.length : Int)) (u64 count)).bind fun y =>
  if ((decide (0 < y.1)) || (decide (9223372036854775807 < y.2))) = true then
  none
  else
  (mks (i64 y.2) 0).bind fun l =>
  ((loop (t2 (Qy)) ((ZgR l x), ((min x.length l.length : Nat) : Int))) : Option (((List Int)))).bind (t1 fun (newslice : List Int) =>
  some newslice)

noncomputable def Js (sectors : Int) (slots : Int) (Sectors2 : List (List Int)) (i : Int) : Option (((List (List Int)) × Int) ⊕ ((List (List Int)))) :=
  if (decide (i < sectors)) = true then
  (((Xb slots).bind fun y4 =>
  (Qs ([255] : List Int) y4).bind fun y5 =>
  (app Sectors2 [y5]).bind fun l3 =>
  some l3) : Option (((List (List Int))))).bind (t1 fun (Sectors3 : List (List Int)) =>
  some (.inl (Sectors3, (i64 (i + 1)))))
  else
  some (.inr Sectors2)

noncomputable def JI (sectors : Int) (slots : Int) (limit : Int) : Option (api_Memory × Int) :=
  (ZT sectors 2 64).bind fun y =>
  (gd ((!y) == false) false (ZT slots 1 64)).bind fun y2 =>
  (gd (((!y) || (!y2)) == false) false (ZT limit 1 1000000)).bind fun y3 =>
  if (((!y) || (!y2)) || (!y3)) = true then
  some ((api_Memory.mk 0 0 [] [] []), 9)
  else
  (((mkz 8 sectors 0).bind fun l =>
  (mkz 1 sectors false).bind fun l2 =>
  some (l, l2)) : Option (((List Int) × (List Bool)))).bind (t2 fun (Wear : List Int) (Bad : List Bool) =>
  ((loop (t2 (Js sectors slots)) ([], 0)) : Option (((List (List Int))))).bind (t1 fun (Sectors : List (List Int)) =>
  some ((api_Memory.mk slots limit Sectors Wear Bad), 0)))

noncomputable def JQ (n : Int) (low : Int) (high : Int) : Option Bool :=
  some ((decide (n < low)) || (decide (high < n)))

noncomputable def QY (s1 : List Int) (s2 : List Int) (i : Int) : Option ((Int) ⊕ (Bool) ⊕ (Unit)) :=
  if (decide (i < (s1.length : Int))) = true then
  (idx s1 i).bind fun x =>
  (idx s2 i).bind fun x2 =>
  if (!decide (x = x2)) = true then
  some (.inr (.inl false))
  else
  some (.inl (i64 (i + 1)))
  else
  some (.inr (.inr ()))

noncomputable def QP (s1 : List Int) (s2 : List Int) : Option Bool :=
  if (!decide ((s1.length : Int) = (s2.length : Int))) = true then
  some false
  else
  ((loop (t1 (QY s1 s2)) 0) : Option ((Bool) ⊕ (Unit))).bind (Sum.elim (fun q' => some q') (t0 (some true)))

noncomputable def Zc3 (n2 : Int) (ones2 : Int) : Option ((Int × Int) ⊕ (Int)) :=
  if (decide (0 < n2)) = true then
  (rem n2 2).bind fun q =>
  (quo .i64 n2 2).bind fun q2 =>
  some (.inl (q2, (i64 (ones2 + q))))
  else
  some (.inr ones2)

noncomputable def Zez (n : Int) : Option Bool :=
  ((loop (t2 (Zc3)) (n, 0)) : Option ((Int))).bind (t1 fun (ones : Int) =>
  (rem ones 2).bind fun q3 =>
  some (decide (q3 = 1)))

noncomputable def ZaI (data : Int) : Option Int :=
  (Zez data).bind fun y =>
  if y = true then
  some data
  else
  some (i64 (data + 2048))

noncomputable def Zae (f : Vector Int 64) : Option Int :=
  (ZH f 1).bind fun x =>
  (rem (i64 x) 2048).bind fun q =>
  (ZH f 2).bind fun x2 =>
  (rem (i64 x2) 2048).bind fun q2 =>
  some (i64 (q + (i64 (q2 * 2048))))

noncomputable def Zb0 (number : Int) : Option Int :=
  (rem number 4).bind fun q =>
  (ZH (#v[583, 1464, 2631, 3512] : Vector Int 4) q).bind fun x =>
  some x

noncomputable def ZcZ (f : Vector Int 64) (x2 : Int) (i : Int) : Option ((Int × Int) ⊕ (Int)) :=
  if (decide (i ≤ 60)) = true then
  (ZH f i).bind fun x3 =>
  (rem (i64 x3) 2048).bind fun q =>
  some (.inl ((Zat .i64 x2 q), (i64 (i + 1))))
  else
  some (.inr x2)

noncomputable def Zej (f : Vector Int 64) : Option Int :=
  ((loop (t2 (ZcZ f)) (0, 1)) : Option ((Int))).bind (t1 fun (x : Int) =>
  some x)

noncomputable def ZbI (f : Vector Int 64) (rest2 : Int) (i : Int) : Option ((Int × Int) ⊕ (Int)) :=
  if (decide (i < 766)) = true then
  ((if (decide (i < 744)) = true then
  (quo .i64 i 12).bind fun q =>
  (ZH f q).bind fun x =>
  (rem i 12).bind fun q2 =>
  (shr .i64 (i64 x) (i64 (11 - q2))).bind fun q3 =>
  some (Q6 .i64 q3 1)
  else
  some 0) : Option ((Int))).bind (t1 fun (bit : Int) =>
  if (decide (4194304 ≤ (i64 ((i64 (rest2 * 2)) + bit)))) = true then
  some (.inl ((Zat .i64 (i64 ((i64 (rest2 * 2)) + bit)) 6291471), (i64 (i + 1))))
  else
  some (.inl ((i64 ((i64 (rest2 * 2)) + bit)), (i64 (i + 1)))))
  else
  some (.inr rest2)

noncomputable def ZcO (f : Vector Int 64) : Option Int :=
  ((loop (t2 (ZbI f)) (0, 0)) : Option ((Int))).bind (t1 fun (rest : Int) =>
  some rest)

noncomputable def Zbg (f : Vector Int 64) : Option (Vector Int 64) :=
  (ZcO f).bind fun y =>
  (quo .i64 y 2048).bind fun q =>
  (ZaI q).bind fun y2 =>
  (rem y 2048).bind fun q2 =>
  (ZaI q2).bind fun y3 =>
  (ZH f 62).bind fun x =>
  (ZH (Q2 f 62 (u16 y2)) 63).bind fun x2 =>
  some (Q2 (Q2 f 62 (u16 y2)) 63 (u16 y3))

noncomputable def ZaW (f3 : Vector Int 64) (i : Int) : Option (((Vector Int 64) × Int) ⊕ ((Vector Int 64))) :=
  if (decide (i ≤ 60)) = true then
  (ZH f3 i).bind fun x =>
  (rem (i64 x) 2048).bind fun q =>
  (ZaI q).bind fun y =>
  (ZH f3 i).bind fun x2 =>
  some (.inl ((Q2 f3 i (u16 y)), (i64 (i + 1))))
  else
  some (.inr f3)

noncomputable def ZbX (f : Vector Int 64) : Option (Vector Int 64) :=
  ((loop (t2 (ZaW)) (f, 1)) : Option (((Vector Int 64)))).bind (t1 fun (f2 : Vector Int 64) =>
  (Zae f2).bind fun y2 =>
  (Zb0 y2).bind fun y3 =>
  (ZH f2 0).bind fun x3 =>
  (Zej (Q2 f2 0 (u16 y3))).bind fun y4 =>
  (ZaI y4).bind fun y5 =>
  (ZH (Q2 f2 0 (u16 y3)) 61).bind fun x4 =>
  (Zbg (Q2 (Q2 f2 0 (u16 y3)) 61 (u16 y5))).bind fun y6 =>
  some y6)

noncomputable def Zc1 (data : List Int) (f2 : Vector Int 64) (i : Int) : Option (((Vector Int 64) × Int) ⊕ ((Vector Int 64) × Int) ⊕ ((Vector Int 64))) :=
  if (decide (i < (data.length : Int))) = true then
  (idx data i).bind fun x3 =>
  if ((decide (x3 < 0)) || (decide (2047 < x3))) = true then
  some (.inr (.inl ((#v[0, 0, 0, 0, 0, 0, 0, 0, 0, 0, 0, 0, 0, 0, 0, 0, 0, 0, 0, 0, 0, 0, 0, 0, 0, 0, 0, 0, 0, 0, 0, 0, 0, 0, 0, 0, 0, 0, 0, 0, 0, 0, 0, 0, 0, 0, 0, 0, 0, 0, 0, 0, 0, 0, 0, 0, 0, 0, 0, 0, 0, 0, 0, 0] : Vector Int 64), 9)))
  else
  (ZH f2 (i64 (3 + i))).bind fun x4 =>
  some (.inl ((Q2 f2 (i64 (3 + i)) (u16 x3)), (i64 (i + 1))))
  else
  some (.inr (.inr f2))

noncomputable def Zex (number : Int) (data : List Int) : Option ((Vector Int 64) × Int) :=
  if ((decide (number < 0)) || (decide (4194304 ≤ number))) = true then
  some ((#v[0, 0, 0, 0, 0, 0, 0, 0, 0, 0, 0, 0, 0, 0, 0, 0, 0, 0, 0, 0, 0, 0, 0, 0, 0, 0, 0, 0, 0, 0, 0, 0, 0, 0, 0, 0, 0, 0, 0, 0, 0, 0, 0, 0, 0, 0, 0, 0, 0, 0, 0, 0, 0, 0, 0, 0, 0, 0, 0, 0, 0, 0, 0, 0] : Vector Int 64), 9)
  else
  if (!decide ((data.length : Int) = 58)) = true then
  some ((#v[0, 0, 0, 0, 0, 0, 0, 0, 0, 0, 0, 0, 0, 0, 0, 0, 0, 0, 0, 0, 0, 0, 0, 0, 0, 0, 0, 0, 0, 0, 0, 0, 0, 0, 0, 0, 0, 0, 0, 0, 0, 0, 0, 0, 0, 0, 0, 0, 0, 0, 0, 0, 0, 0, 0, 0, 0, 0, 0, 0, 0, 0, 0, 0] : Vector Int 64), 3)
  else
  (rem number 2048).bind fun q =>
  (quo .i64 number 2048).bind fun q2 =>
  (ZH (#v[0, 0, 0, 0, 0, 0, 0, 0, 0, 0, 0, 0, 0, 0, 0, 0, 0, 0, 0, 0, 0, 0, 0, 0, 0, 0, 0, 0, 0, 0, 0, 0, 0, 0, 0, 0, 0, 0, 0, 0, 0, 0, 0, 0, 0, 0, 0, 0, 0, 0, 0, 0, 0, 0, 0, 0, 0, 0, 0, 0, 0, 0, 0, 0] : Vector Int 64) 1).bind fun x =>
  (ZH (Q2 (#v[0, 0, 0, 0, 0, 0, 0, 0, 0, 0, 0, 0, 0, 0, 0, 0, 0, 0, 0, 0, 0, 0, 0, 0, 0, 0, 0, 0, 0, 0, 0, 0, 0, 0, 0, 0, 0, 0, 0, 0, 0, 0, 0, 0, 0, 0, 0, 0, 0, 0, 0, 0, 0, 0, 0, 0, 0, 0, 0, 0, 0, 0, 0, 0] : Vector Int 64) 1 (u16 q)) 2).bind fun x2 =>
  ((loop (t2 (Zc1 data)) ((Q2 (Q2 (#v[0, 0, 0, 0, 0, 0, 0, 0, 0, 0, 0, 0, 0, 0, 0, 0, 0, 0, 0, 0, 0, 0, 0, 0, 0, 0, 0, 0, 0, 0, 0, 0, 0, 0, 0, 0, 0, 0, 0, 0, 0, 0, 0, 0, 0, 0, 0, 0, 0, 0, 0, 0, 0, 0, 0, 0, 0, 0, 0, 0, 0, 0, 0, 0] : Vector Int 64) 1 (u16 q)) 2 (u16 q2)), 0)) : Option (((Vector Int 64) × Int) ⊕ ((Vector Int 64)))).bind (Sum.elim (fun q' => some q') (t1 fun (f : Vector Int 64) =>
  (ZbX f).bind fun y =>
  some (y, 0)))

noncomputable def XN (m : api_Memory) (i : Int) : Option ((Int) ⊕ (Int) ⊕ (Unit)) :=
  if (decide (i < (m.Sectors.length : Int))) = true then
  (idx m.Sectors i).bind fun x =>
  (Xb m.Slots).bind fun y4 =>
  if (!decide ((x.length : Int) = y4)) = true then
  some (.inr (.inl 3))
  else
  (idx m.Wear i).bind fun x2 =>
  (ZT x2 0 m.Limit).bind fun y5 =>
  if (!y5) = true then
  some (.inr (.inl 9))
  else
  some (.inl (i64 (i + 1)))
  else
  some (.inr (.inr ()))

noncomputable def XZ (m : api_Memory) : Option Int :=
  (ZT m.Slots 1 64).bind fun y =>
  (gd ((!y) == false) false (ZT m.Limit 1 1000000)).bind fun y2 =>
  (gd (((!y) || (!y2)) == false) false (ZT (m.Sectors.length : Int) 2 64)).bind fun y3 =>
  if (((!y) || (!y2)) || (!y3)) = true then
  some 9
  else
  if ((!decide ((m.Wear.length : Int) = (m.Sectors.length : Int))) || (!decide ((m.Bad.length : Int) = (m.Sectors.length : Int)))) = true then
  some 2
  else
  ((loop (t1 (XN m)) 0) : Option ((Int) ⊕ (Unit))).bind (Sum.elim (fun q' => some q') (t0 (some 0)))

noncomputable def JO (l : List api_Memory) (i : Int) : Option ((Int) ⊕ (Int) ⊕ (Unit)) :=
  if (decide (i < (l.length : Int))) = true then
  (idx l i).bind fun x =>
  (XZ x).bind fun y2 =>
  if (!decide (y2 = 0)) = true then
  some (.inr (.inl y2))
  else
  some (.inl (i64 (i + 1)))
  else
  some (.inr (.inr ()))

noncomputable def Jl (l : List api_Memory) : Option Int :=
  (ZT (l.length : Int) 1 8).bind fun y =>
  if (!y) = true then
  some 3
  else
  ((loop (t1 (JO l)) 0) : Option ((Int) ⊕ (Unit))).bind (Sum.elim (fun q' => some q') (t0 (some 0)))

noncomputable def X8 (m : api_Memory) (sectors2 : List (List Int)) (i : Int) : Option (((List (List Int)) × Int) ⊕ ((List (List Int)))) :=
  if (decide (i < (m.Sectors.length : Int))) = true then
  (idx m.Sectors i).bind fun x =>
  (ZdT 1 x).bind fun y =>
  (app sectors2 [y]).bind fun l =>
  some (.inl (l, (i64 (i + 1))))
  else
  some (.inr sectors2)

noncomputable def Je (m : api_Memory) : Option api_Memory :=
  ((loop (t2 (X8 m)) ([], 0)) : Option (((List (List Int))))).bind (t1 fun (sectors : List (List Int)) =>
  (ZdT 8 m.Wear).bind fun y2 =>
  (ZdT 1 m.Bad).bind fun y3 =>
  some (api_Memory.mk m.Slots m.Limit sectors y2 y3))

noncomputable def Jf (l : List api_Memory) (out2 : List api_Memory) (i : Int) : Option (((List api_Memory) × Int) ⊕ ((List api_Memory))) :=
  if (decide (i < (l.length : Int))) = true then
  (idx l i).bind fun x =>
  (Je x).bind fun y =>
  (app out2 [y]).bind fun l2 =>
  some (.inl (l2, (i64 (i + 1))))
  else
  some (.inr out2)

noncomputable def XD (l : List api_Memory) : Option (List api_Memory) :=
  ((loop (t2 (Jf l)) ([], 0)) : Option (((List api_Memory)))).bind (t1 fun (out : List api_Memory) =>
  some out)

noncomputable def Qu (sequence : Int) (out2 : List Int) (shift : Int) : Option (((List Int) × Int) ⊕ ((List Int))) :=
  if (decide (0 ≤ shift)) = true then
  (shr .i64 sequence shift).bind fun q =>
  (apz 1 out2 ([(u8 q)] : List Int)).bind fun l =>
  some (.inl (l, (i64 (shift - 8))))
  else
  some (.inr out2)

noncomputable def Qz (out : List Int) (out4 : List Int) (i : Int) : Option (((List Int) × Int) ⊕ ((List Int))) :=
  if (decide (i < ((Int.toNat (6 - 2) : Nat) : Int))) = true then
  (ck (decide ((0 : Int) ≤ i) && decide (i < ((Int.toNat (6 - 2) : Nat) : Int)))).bind fun u2 =>
  (idx out (2 + i)).bind fun x2 =>
  (apz 1 out4 ([(Zat .u8 255 x2)] : List Int)).bind fun l2 =>
  some (.inl (l2, (i64 (i + 1))))
  else
  some (.inr out4)

noncomputable def X1 (sequence : Int) : Option (List Int) :=
  ((loop (t2 (Qu sequence)) (([79, 66] : List Int), 24)) : Option (((List Int)))).bind (t1 fun (out : List Int) =>
  (((slp out 2 6).bind fun u =>
  loop (t2 (Qz out)) (out, 0)) : Option (((List Int)))).bind (t1 fun (out3 : List Int) =>
  some out3))

noncomputable def Z2 (s1 : List Int) (s2 : List Int) (i : Int) : Option ((Int) ⊕ (Bool) ⊕ (Unit)) :=
  if (decide (i < (s1.length : Int))) = true then
  (idx s1 i).bind fun x =>
  (idx s2 i).bind fun x2 =>
  if (!decide (x = x2)) = true then
  some (.inr (.inl false))
  else
  some (.inl (i64 (i + 1)))
  else
  some (.inr (.inr ()))

noncomputable def Z3 (s1 : List Int) (s2 : List Int) : Option Bool :=
  if (!decide ((s1.length : Int) = (s2.length : Int))) = true then
  some false
  else
  ((loop (t1 (Z2 s1 s2)) 0) : Option ((Bool) ⊕ (Unit))).bind (Sum.elim (fun q' => some q') (t0 (some true)))

noncomputable def Xt (s : List Int) : Option (Int × Bool × Bool) :=
  if (decide ((s.length : Int) < 16)) = true then
  some (0, false, false)
  else
  (slc s 0 16).bind fun l =>
  (tov 16 l).bind fun v =>
  (ZH v 2).bind fun x =>
  (shl .i64 (i64 x) 24).bind fun q =>
  (ZH v 3).bind fun x2 =>
  (shl .i64 (i64 x2) 16).bind fun q2 =>
  (ZH v 4).bind fun x3 =>
  (shl .i64 (i64 x3) 8).bind fun q3 =>
  (ZH v 5).bind fun x4 =>
  (ZT (bor .i64 (bor .i64 (bor .i64 q q2) q3) (i64 x4)) 1 1073741824).bind fun y =>
  (gd ((!y) == false) [] (slc v.toList 0 10)).bind fun l2 =>
  (gd ((!y) == false) [] (X1 (bor .i64 (bor .i64 (bor .i64 q q2) q3) (i64 x4)))).bind fun y2 =>
  (gd ((!y) == false) false (Z3 l2 y2)).bind fun y3 =>
  if ((!y) || (!y3)) = true then
  some (0, false, false)
  else
  (ZH v 10).bind fun x5 =>
  some ((bor .i64 (bor .i64 (bor .i64 q q2) q3) (i64 x4)), (!decide (x5 = 255)), true)

noncomputable def Zz (a : Int) (cmp : Int → Int → Option Int) (o3 : List Int) (j : Int) : Option (((List Int) × Int) ⊕ ((List Int))) :=
  (gd ((decide (a < j)) == true) 0 (idx o3 j)).bind fun x =>
  (gd ((decide (a < j)) == true) 0 (idx o3 (i64 (j - 1)))).bind fun x2 =>
  (gd ((decide (a < j)) == true) 0 (cmp x x2)).bind fun y =>
  if ((decide (a < j)) && (decide (y < 0))) = true then
  (idx o3 (i64 (j - 1))).bind fun x3 =>
  (idx o3 j).bind fun x4 =>
  (idx o3 j).bind fun x5 =>
  (idx (o3.set j.toNat x3) (i64 (j - 1))).bind fun x6 =>
  some (.inl (((o3.set j.toNat x3).set (i64 (j - 1)).toNat x4), (i64 (j - 1))))
  else
  some (.inr o3)

noncomputable def ZA (a : Int) (b : Int) (cmp : Int → Int → Option Int) (o : List Int) (i : Int) : Option (((List Int) × Int) ⊕ ((List Int))) :=
  if (decide (i < b)) = true then
  ((loop (t2 (Zz a cmp)) (o, i)) : Option (((List Int)))).bind (t1 fun (o2 : List Int) =>
  some (.inl (o2, (i64 (i + 1)))))
  else
  some (.inr o)

noncomputable def Zx (data : List Int) (a : Int) (b : Int) (cmp : Int → Int → Option Int) : Option (List Int) :=
  loop (t2 (ZA a b cmp)) (data, (i64 (a + 1)))

noncomputable def ZL (n : Int) (cmp : Int → Int → Option Int) (o2 : List Int) (a2 : Int) (b : Int) : Option (((List Int) × Int × Int) ⊕ ((List Int) × Int)) :=
  if (decide (b ≤ n)) = true then
  (Zx o2 a2 b cmp).bind fun y =>
  some (.inl (y, b, (i64 (b + 20))))
  else
  some (.inr (o2, a2))

noncomputable def Qt (n : Int) (blockSize : Int) : Option ((Unit) ⊕ (Unit)) :=
  if (decide ((i64 (2 * blockSize)) ≤ n)) = true then
  none
  else
  some (.inr ())

noncomputable def ZS (n : Int) (y2 : (List Int)) (blockSize : Int) : Option ((Int) ⊕ ((List Int))) :=
  if (decide (blockSize < n)) = true then
  ((loop (t0 (Qt n blockSize)) ()) : Option ((Unit))).bind (t0 (if (decide ((i64 (0 + blockSize)) < n)) = true then
  none
  else
  some (.inl (i64 (blockSize * 2)))))
  else
  some (.inr y2)

noncomputable def Qc (data : List Int) (n : Int) (cmp : Int → Int → Option Int) : Option (List Int) :=
  ((loop (t3 (ZL n cmp)) (data, 0, 20)) : Option (((List Int) × Int))).bind (t2 fun (o : List Int) (a : Int) =>
  (Zx o a n cmp).bind fun y2 =>
  loop (t1 (ZS n y2)) 20)

noncomputable def ZK (x : List Int) (cmp : Int → Int → Option Int) : Option (List Int) :=
  (Qc x (x.length : Int) cmp).bind fun y =>
  some y

noncomputable def XU (i : Int) (c0 : api_Memory) : Option Int :=
  (idx c0.Sectors i).bind fun x =>
  (Xt x).bind fun y =>
  some y.1

noncomputable def JG (a : Int) (b : Int) (k : api_Memory) : Option Int :=
  (XU a k).bind fun y =>
  (XU b k).bind fun y2 =>
  some (i64 (y - y2))

noncomputable def Zah (m : api_Memory) (out2 : List Int) (i : Int) : Option (((List Int) × Int) ⊕ ((List Int))) :=
  if (decide (i < (m.Sectors.length : Int))) = true then
  (idx m.Sectors i).bind fun x =>
  (Xt x).bind fun y =>
  (gd (y.2.2 == true) false (idx m.Bad i)).bind fun x2 =>
  if (y.2.2 && (!x2)) = true then
  (apz 8 out2 ([i] : List Int)).bind fun l =>
  some (.inl (l, (i64 (i + 1))))
  else
  some (.inl (out2, (i64 (i + 1))))
  else
  some (.inr out2)

noncomputable def JJ (m : api_Memory) : Option (List Int) :=
  ((loop (t2 (Zah m)) ([], 0)) : Option (((List Int)))).bind (t1 fun (out : List Int) =>
  (ZK out (fun z0 z1 => JG z0 z1 m)).bind fun y2 =>
  some y2)

noncomputable def Q8 (s : List Int) (i : Int) : Option (Vector Int 97) :=
  (slc s (i64 (16 + (i64 (i * 97)))) (i64 ((i64 (16 + (i64 (i * 97)))) + 97))).bind fun l =>
  (tov 97 l).bind fun v =>
  some v

noncomputable def ZI (s : List Int) (f : Int → Option Bool) (i : Int) : Option ((Int) ⊕ (Int) ⊕ (Unit)) :=
  if (decide (i < (s.length : Int))) = true then
  (idx s i).bind fun x =>
  (f x).bind fun y =>
  if y = true then
  some (.inr (.inl i))
  else
  some (.inl (i64 (i + 1)))
  else
  some (.inr (.inr ()))

noncomputable def ZV (s : List Int) (f : Int → Option Bool) : Option Int :=
  ((loop (t1 (ZI s f)) 0) : Option ((Int) ⊕ (Unit))).bind (Sum.elim (fun q' => some q') (t0 (some (-1))))

noncomputable def ZJ (s : List Int) (f : Int → Option Bool) : Option Bool :=
  (ZV s f).bind fun y =>
  some (decide (0 ≤ y))

noncomputable def QT (b : Int) : Option Bool :=
  some (!decide (b = 255))

noncomputable def Q5 (p : Vector Int 97) : Option Int :=
  (ZH p 96).bind fun x =>
  if (decide (x = 0)) = true then
  some 1
  else
  (slc p.toList 0 (97 : Int)).bind fun l =>
  (ZJ l (fun z0 => QT z0)).bind fun y =>
  if y = true then
  some 2
  else
  some 0

noncomputable def JV (m : api_Memory) (x : Int) (slot2 : Int) (i : Int) : Option ((Int × Int) ⊕ (Int)) :=
  if (decide (i < m.Slots)) = true then
  (idx m.Sectors x).bind fun x2 =>
  (Q8 x2 i).bind fun y2 =>
  (Q5 y2).bind fun y3 =>
  if (!decide (y3 = 0)) = true then
  some (.inl ((i64 (i + 1)), (i64 (i + 1))))
  else
  some (.inl (slot2, (i64 (i + 1))))
  else
  some (.inr slot2)

noncomputable def Zad (m : api_Memory) : Option ring_spot :=
  (JJ m).bind fun y =>
  if (decide ((y.length : Int) = 0)) = true then
  some (ring_spot.mk (-1) 0)
  else
  (idx y (i64 ((y.length : Int) - 1))).bind fun x =>
  ((loop (t2 (JV m x)) (0, 0)) : Option ((Int))).bind (t1 fun (slot : Int) =>
  some (ring_spot.mk x slot))

noncomputable def ZbJ (y3 : (List api_Memory)) (spots2 : List ring_spot) (frozen2 : Bool) (i : Int) : Option (((List ring_spot) × Bool × Int) ⊕ ((List ring_spot) × Bool)) :=
  if (decide (i < (y3.length : Int))) = true then
  (idx y3 i).bind fun x =>
  (Zad x).bind fun y4 =>
  (apz 16 spots2 ([y4] : List ring_spot)).bind fun l2 =>
  if (decide (0 ≤ y4.sector)) = true then
  (idx x.Sectors y4.sector).bind fun x2 =>
  (Xt x2).bind fun y5 =>
  some (.inl (l2, (frozen2 || y5.2.1), (i64 (i + 1))))
  else
  some (.inl (l2, frozen2, (i64 (i + 1))))
  else
  some (.inr (spots2, frozen2))

noncomputable def ZaA (l : List api_Memory) (copies : Int) : Option ((Int) ⊕ (ring_Recorder × Int)) :=
  (Jl l).bind fun y =>
  if (!decide (y = 0)) = true then
  some (Sum.inl y)
  else
  (ZT copies 1 (l.length : Int)).bind fun y2 =>
  if (!y2) = true then
  some (Sum.inl 9)
  else
  (XD l).bind fun y3 =>
  ((loop (t3 (ZbJ y3)) ([], false, 0)) : Option (((List ring_spot) × Bool))).bind (t2 fun (spots : List ring_spot) (frozen : Bool) =>
  some (Sum.inr ((ring_Recorder.mk (ring_bank.mk y3 spots) copies frozen false 0 false), 0)))

noncomputable def Xd (r_ : ring_Recorder) (power : Int) : Option Int :=
  if r_.stopped = true then
  some 15
  else
  if r_.frozen = true then
  some 11
  else
  (ZT power 0 1000000000).bind fun y =>
  if (!y) = true then
  some 9
  else
  some 0

noncomputable def XL (w : Int) : Option Int :=
  some (i64 (Q6 .u16 w 2047))

noncomputable def XW (f : Vector Int 64) : Option Int :=
  (ZH f 1).bind fun x =>
  (XL x).bind fun y =>
  (ZH f 2).bind fun x2 =>
  (XL x2).bind fun y2 =>
  (shl .i64 y2 11).bind fun q =>
  some (bor .i64 y q)

def gv_frame_syncs : Vector Int 4 := #v[583, 1464, 2631, 3512]

noncomputable def XR (x : Int) : Option Int :=
  (shr .u16 x 8).bind fun q =>
  (Zkm [0, 1, 1, 2, 1, 2, 2, 3, 1, 2, 2, 3, 2, 3, 3, 4, 1, 2, 2, 3, 2, 3, 3, 4, 2, 3, 3, 4, 3, 4, 4, 5, 1, 2, 2, 3, 2, 3, 3, 4, 2, 3, 3, 4, 3, 4, 4, 5, 2, 3, 3, 4, 3, 4, 4, 5, 3, 4, 4, 5, 4, 5, 5, 6, 1, 2, 2, 3, 2, 3, 3, 4, 2, 3, 3, 4, 3, 4, 4, 5, 2, 3, 3, 4, 3, 4, 4, 5, 3, 4, 4, 5, 4, 5, 5, 6, 2, 3, 3, 4, 3, 4, 4, 5, 3, 4, 4, 5, 4, 5, 5, 6, 3, 4, 4, 5, 4, 5, 5, 6, 4, 5, 5, 6, 5, 6, 6, 7, 1, 2, 2, 3, 2, 3, 3, 4, 2, 3, 3, 4, 3, 4, 4, 5, 2, 3, 3, 4, 3, 4, 4, 5, 3, 4, 4, 5, 4, 5, 5, 6, 2, 3, 3, 4, 3, 4, 4, 5, 3, 4, 4, 5, 4, 5, 5, 6, 3, 4, 4, 5, 4, 5, 5, 6, 4, 5, 5, 6, 5, 6, 6, 7, 2, 3, 3, 4, 3, 4, 4, 5, 3, 4, 4, 5, 4, 5, 5, 6, 3, 4, 4, 5, 4, 5, 5, 6, 4, 5, 5, 6, 5, 6, 6, 7, 3, 4, 4, 5, 4, 5, 5, 6, 4, 5, 5, 6, 5, 6, 6, 7, 4, 5, 5, 6, 5, 6, 6, 7, 5, 6, 6, 7, 6, 7, 7, 8] q).bind fun b =>
  (Zkm [0, 1, 1, 2, 1, 2, 2, 3, 1, 2, 2, 3, 2, 3, 3, 4, 1, 2, 2, 3, 2, 3, 3, 4, 2, 3, 3, 4, 3, 4, 4, 5, 1, 2, 2, 3, 2, 3, 3, 4, 2, 3, 3, 4, 3, 4, 4, 5, 2, 3, 3, 4, 3, 4, 4, 5, 3, 4, 4, 5, 4, 5, 5, 6, 1, 2, 2, 3, 2, 3, 3, 4, 2, 3, 3, 4, 3, 4, 4, 5, 2, 3, 3, 4, 3, 4, 4, 5, 3, 4, 4, 5, 4, 5, 5, 6, 2, 3, 3, 4, 3, 4, 4, 5, 3, 4, 4, 5, 4, 5, 5, 6, 3, 4, 4, 5, 4, 5, 5, 6, 4, 5, 5, 6, 5, 6, 6, 7, 1, 2, 2, 3, 2, 3, 3, 4, 2, 3, 3, 4, 3, 4, 4, 5, 2, 3, 3, 4, 3, 4, 4, 5, 3, 4, 4, 5, 4, 5, 5, 6, 2, 3, 3, 4, 3, 4, 4, 5, 3, 4, 4, 5, 4, 5, 5, 6, 3, 4, 4, 5, 4, 5, 5, 6, 4, 5, 5, 6, 5, 6, 6, 7, 2, 3, 3, 4, 3, 4, 4, 5, 3, 4, 4, 5, 4, 5, 5, 6, 3, 4, 4, 5, 4, 5, 5, 6, 4, 5, 5, 6, 5, 6, 6, 7, 3, 4, 4, 5, 4, 5, 5, 6, 4, 5, 5, 6, 5, 6, 6, 7, 4, 5, 5, 6, 5, 6, 6, 7, 5, 6, 6, 7, 6, 7, 7, 8] (Q6 .u16 x 255)).bind fun b2 =>
  some (i64 (u8 (b + b2)))

noncomputable def ZbE (w : Int) : Option Bool :=
  (gd ((decide (w ≤ 4095)) == true) 0 (XR w)).bind fun y =>
  (gd ((decide (w ≤ 4095)) == true) 0 (rem y 2)).bind fun q =>
  some ((decide (w ≤ 4095)) && (decide (q = 1)))

noncomputable def Zbk (f : Vector Int 64) (n2 : Int) (i : Int) : Option ((Int × Int) ⊕ (Int)) :=
  if (decide (i < 60)) = true then
  (ZH f (i64 (i + 1))).bind fun x =>
  (XL x).bind fun y =>
  some (.inl ((Zat .i64 n2 y), (i64 (i + 1))))
  else
  some (.inr n2)

noncomputable def ZbT (f : Vector Int 64) : Option Int :=
  ((loop (t2 (Zbk f)) (0, 0)) : Option ((Int))).bind (t1 fun (n : Int) =>
  some n)

noncomputable def JS (f : Vector Int 64) (i : Int) (n4 : Int) (k : Int) : Option ((Int × Int) ⊕ (Int)) :=
  if (decide (0 ≤ k)) = true then
  (shl .i64 n4 1).bind fun q =>
  (ZH f i).bind fun x =>
  (shr .u16 x k).bind fun q2 =>
  if (!((!decide ((Q6 .i64 n4 2097152) = 0)) == (decide ((Q6 .u16 q2 1) = 1)))) = true then
  some (.inl ((Zat .i64 (Q6 .i64 q 4194303) 2097167), (i64 (k - 1))))
  else
  some (.inl ((Q6 .i64 q 4194303), (i64 (k - 1))))
  else
  some (.inr n4)

noncomputable def JX (f : Vector Int 64) (n2 : Int) (i : Int) : Option ((Int × Int) ⊕ (Int)) :=
  if (decide (i < 62)) = true then
  ((loop (t2 (JS f i)) (n2, 11)) : Option ((Int))).bind (t1 fun (n3 : Int) =>
  some (.inl (n3, (i64 (i + 1)))))
  else
  some (.inr n2)

noncomputable def Zac (f : Vector Int 64) : Option Int :=
  ((loop (t2 (JX f)) (0, 0)) : Option ((Int))).bind (t1 fun (n : Int) =>
  some n)

noncomputable def ZaT (f : Vector Int 64) (out2 : List api_Flaw) (i : Int) : Option (((List api_Flaw) × Int) ⊕ ((List api_Flaw))) :=
  if (decide (i < 64)) = true then
  (ZH f i).bind fun x =>
  if (decide (4095 < x)) = true then
  (app out2 ([(api_Flaw.mk i 5)] : List api_Flaw)).bind fun l =>
  some (.inl (l, (i64 (i + 1))))
  else
  some (.inl (out2, (i64 (i + 1))))
  else
  some (.inr out2)

noncomputable def ZaP (f : Vector Int 64) (out5 : List api_Flaw) (i2 : Int) : Option (((List api_Flaw) × Int) ⊕ ((List api_Flaw))) :=
  if (decide (i2 < 64)) = true then
  (ZH f i2).bind fun x4 =>
  (ZbE x4).bind fun y2 =>
  if (!y2) = true then
  (app out5 ([(api_Flaw.mk i2 2)] : List api_Flaw)).bind fun l3 =>
  some (.inl (l3, (i64 (i2 + 1))))
  else
  some (.inl (out5, (i64 (i2 + 1))))
  else
  some (.inr out5)

noncomputable def ZaH (f : Vector Int 64) : Option (List api_Flaw) :=
  ((loop (t2 (ZaT f)) ([], 0)) : Option (((List api_Flaw)))).bind (t1 fun (out : List api_Flaw) =>
  if (decide (0 < (out.length : Int))) = true then
  some out
  else
  (((ZH f 0).bind fun x2 =>
  (XW f).bind fun y =>
  (rem y 4).bind fun q =>
  (ZH gv_frame_syncs q).bind fun x3 =>
  if (!decide (x2 = x3)) = true then
  (app out ([(api_Flaw.mk 0 1)] : List api_Flaw)).bind fun l2 =>
  some l2
  else
  some out) : Option (((List api_Flaw)))).bind (t1 fun (out3 : List api_Flaw) =>
  ((loop (t2 (ZaP f)) (out3, 1)) : Option (((List api_Flaw)))).bind (t1 fun (out4 : List api_Flaw) =>
  (((ZH f 61).bind fun x5 =>
  (XL x5).bind fun y3 =>
  (ZbT f).bind fun y4 =>
  if (!decide (y3 = y4)) = true then
  (app out4 ([(api_Flaw.mk 61 3)] : List api_Flaw)).bind fun l4 =>
  some l4
  else
  some out4) : Option (((List api_Flaw)))).bind (t1 fun (out6 : List api_Flaw) =>
  (ZH f 62).bind fun x6 =>
  (XL x6).bind fun y5 =>
  (shl .i64 y5 11).bind fun q2 =>
  (ZH f 63).bind fun x7 =>
  (XL x7).bind fun y6 =>
  (Zac f).bind fun y7 =>
  if (!decide ((bor .i64 q2 y6) = y7)) = true then
  (app out6 ([(api_Flaw.mk 62 4)] : List api_Flaw)).bind fun l5 =>
  some l5
  else
  some out6))))

noncomputable def JW (f : Vector Int 64) : Option (Int × Bool) :=
  (ZH f 1).bind fun x =>
  (ZbE x).bind fun y =>
  (gd ((!y) == false) 0 (ZH f 2)).bind fun x2 =>
  (gd ((!y) == false) false (ZbE x2)).bind fun y2 =>
  if ((!y) || (!y2)) = true then
  some (0, false)
  else
  (XW f).bind fun y3 =>
  some (y3, true)

noncomputable def Zai (number : Int) (memories : Int) (copies : Int) (out2 : List Int) (i : Int) : Option (((List Int) × Int) ⊕ ((List Int))) :=
  if (decide (i < copies)) = true then
  (rem (i64 (number + i)) memories).bind fun q =>
  (apz 8 out2 ([q] : List Int)).bind fun l =>
  some (.inl (l, (i64 (i + 1))))
  else
  some (.inr out2)

noncomputable def Za3 (number : Int) (memories : Int) (copies : Int) : Option (List Int) :=
  ((loop (t2 (Zai number memories copies)) ([], 0)) : Option (((List Int)))).bind (t1 fun (out : List Int) =>
  some out)

noncomputable def QJ (b : ring_bank) (k : Int) : Option Bool :=
  (idx b.spots k).bind fun x =>
  (gd ((decide (x.sector < 0)) == false) (ring_spot.mk 0 0) (idx b.spots k)).bind fun x2 =>
  (gd ((decide (x.sector < 0)) == false) (api_Memory.mk 0 0 [] [] []) (idx b.memories k)).bind fun x3 =>
  some ((decide (x.sector < 0)) || (decide (x2.slot = x3.Slots)))

noncomputable def Jr (b : ring_bank) (k : Int) (x : api_Memory) (i : Int) : Option ((Int) ⊕ (Int) ⊕ (Unit)) :=
  if (decide (i < (x.Sectors.length : Int))) = true then
  (idx b.spots k).bind fun x2 =>
  (rem (i64 ((i64 (x2.sector + 1)) + i)) (x.Sectors.length : Int)).bind fun q =>
  (idx x.Bad q).bind fun x3 =>
  (gd ((!x3) == true) 0 (idx x.Wear q)).bind fun x4 =>
  if ((!x3) && (decide (x4 < x.Limit))) = true then
  some (.inr (.inl q))
  else
  some (.inl (i64 (i + 1)))
  else
  some (.inr (.inr ()))

noncomputable def Xl (b : ring_bank) (k : Int) : Option Int :=
  (idx b.memories k).bind fun x =>
  ((loop (t1 (Jr b k x)) 0) : Option ((Int) ⊕ (Unit))).bind (Sum.elim (fun q' => some q') (t0 (some (-1))))

noncomputable def Xm (sector : Int) (x : api_Memory) (most2 : Int) (i : Int) : Option ((Int × Int) ⊕ (Int)) :=
  if (decide (i < (x.Sectors.length : Int))) = true then
  (idx x.Sectors i).bind fun x2 =>
  (Xt x2).bind fun y =>
  if (y.2.2 && (!decide (i = sector))) = true then
  some (.inl ((max most2 y.1), (i64 (i + 1))))
  else
  some (.inl (most2, (i64 (i + 1))))
  else
  some (.inr most2)

noncomputable def QK (b : ring_bank) (k : Int) (sector : Int) : Option Int :=
  (((idx b.memories k).bind fun x =>
  loop (t2 (Xm sector x)) (0, 0)) : Option ((Int))).bind (t1 fun (most : Int) =>
  some (i64 (most + 1)))

noncomputable def X5 (b : ring_bank) (l : List Int) (i : Int) : Option ((Int) ⊕ (Int) ⊕ (Unit)) :=
  if (decide (i < (l.length : Int))) = true then
  (idx l i).bind fun x =>
  (QJ b x).bind fun y =>
  (gd (y == true) 0 (Xl b x)).bind fun y2 =>
  if (y && (decide (y2 < 0))) = true then
  some (.inr (.inl 4))
  else
  some (.inl (i64 (i + 1)))
  else
  some (.inr (.inr ()))

noncomputable def X9 (b : ring_bank) (l : List Int) (i2 : Int) : Option ((Int) ⊕ (Int) ⊕ (Unit)) :=
  if (decide (i2 < (l.length : Int))) = true then
  (idx l i2).bind fun x2 =>
  (QJ b x2).bind fun y3 =>
  (gd (y3 == true) 0 (Xl b x2)).bind fun y4 =>
  (gd (y3 == true) 0 (QK b x2 y4)).bind fun y5 =>
  if (y3 && (decide (1073741824 < y5))) = true then
  some (.inr (.inl 3))
  else
  some (.inl (i64 (i2 + 1)))
  else
  some (.inr (.inr ()))

noncomputable def Jk (b : ring_bank) (l : List Int) : Option Int :=
  ((loop (t1 (X5 b l)) 0) : Option ((Int) ⊕ (Unit))).bind (Sum.elim (fun q' => some q') (t0 (((loop (t1 (X9 b l)) 0) : Option ((Int) ⊕ (Unit))).bind (Sum.elim (fun q' => some q') (t0 (some 0))))))

noncomputable def ZbK (f : Vector Int 64) (i : Int) : Option ((Int) ⊕ (Bool) ⊕ (Unit)) :=
  if (decide (i < 64)) = true then
  (ZH f i).bind fun x =>
  if (decide (4095 < x)) = true then
  some (.inr (.inl true))
  else
  some (.inl (i64 (i + 1)))
  else
  some (.inr (.inr ()))

noncomputable def ZcK (f : Vector Int 64) : Option Bool :=
  ((loop (t1 (ZbK f)) 0) : Option ((Bool) ⊕ (Unit))).bind (Sum.elim (fun q' => some q') (t0 (some false)))

noncomputable def Jd (p : Vector Int 96) (i : Int) (w : Int) : Option (Vector Int 96) :=
  (quo .i64 i 2).bind fun q =>
  (rem i 2).bind fun q2 =>
  if (decide (q2 = 0)) = true then
  (shr .u16 w 4).bind fun q3 =>
  (ZH p (i64 ((i64 (q * 3)) + 1))).bind fun x =>
  (ZH p (i64 (q * 3))).bind fun x2 =>
  (shl .u16 (Q6 .u16 w 15) 4).bind fun q4 =>
  (ZH (Q2 p (i64 (q * 3)) (u8 q3)) (i64 ((i64 (q * 3)) + 1))).bind fun x3 =>
  some (Q2 (Q2 p (i64 (q * 3)) (u8 q3)) (i64 ((i64 (q * 3)) + 1)) (bor .u8 (u8 q4) (Q6 .u8 x 15)))
  else
  (ZH p (i64 ((i64 (q * 3)) + 1))).bind fun x4 =>
  (shr .u16 w 8).bind fun q5 =>
  (ZH p (i64 ((i64 (q * 3)) + 1))).bind fun x5 =>
  (ZH (Q2 p (i64 ((i64 (q * 3)) + 1)) (bor .u8 (Q6 .u8 x4 240) (u8 q5))) (i64 ((i64 (q * 3)) + 2))).bind fun x6 =>
  some (Q2 (Q2 p (i64 ((i64 (q * 3)) + 1)) (bor .u8 (Q6 .u8 x4 240) (u8 q5))) (i64 ((i64 (q * 3)) + 2)) (u8 w))

noncomputable def ZbM (f : Vector Int 64) (o : Vector Int 96) (i : Int) : Option (((Vector Int 96) × Int) ⊕ ((Vector Int 96))) :=
  if (decide (i < 64)) = true then
  (ZH f i).bind fun x =>
  (Jd o i x).bind fun y =>
  some (.inl (y, (i64 (i + 1))))
  else
  some (.inr o)

noncomputable def ZcS (p : Vector Int 96) (f : Vector Int 64) : Option (Vector Int 96) :=
  loop (t2 (ZbM f)) (p, 0)

noncomputable def Zaf (f : Vector Int 64) : Option ((List Int) × Int) :=
  (ZcK f).bind fun y =>
  if y = true then
  some ([], 9)
  else
  (ZcS (Vector.replicate 96 0) f).bind fun y2 =>
  (slc y2.toList 0 (96 : Int)).bind fun l =>
  some (l, 0)

noncomputable def Qm (q : Int) (o2 : List Int) (i : Int) : Option (((List Int) × Int) ⊕ ((List Int))) :=
  if (decide (i < ((Int.toNat (q - 0) : Nat) : Int))) = true then
  (ck (decide ((0 : Int) ≤ i) && decide (i < ((Int.toNat (q - 0) : Nat) : Int)))).bind fun u2 =>
  (idx o2 (0 + i)).bind fun x2 =>
  some (.inl ((o2.set (0 + i).toNat 255), (i64 (i + 1))))
  else
  some (.inr o2)

noncomputable def Ql (s : List Int) (o4 : List Int) (i2 : Int) : Option (((List Int) × Int) ⊕ ((List Int))) :=
  if (decide (i2 < (s.length : Int))) = true then
  (idx o4 i2).bind fun x3 =>
  some (.inl ((o4.set i2.toNat 255), (i64 (i2 + 1))))
  else
  some (.inr o4)

noncomputable def QM (s : List Int) (power : Int) : Option (Int × Bool × (List Int)) :=
  if (decide (power = 0)) = true then
  (quo .i64 (s.length : Int) 2).bind fun q =>
  (slp s 0 q).bind fun u =>
  ((loop (t2 (Qm q)) (s, 0)) : Option (((List Int)))).bind (t1 fun (o : List Int) =>
  some ((max (i64 (power - 1)) 0), (decide (0 < power)), o))
  else
  ((loop (t2 (Ql s)) (s, 0)) : Option (((List Int)))).bind (t1 fun (o3 : List Int) =>
  some ((max (i64 (power - 1)) 0), (decide (0 < power)), o3))

noncomputable def QH (at_ : Int) (data : List Int) (o2 : List Int) (power3 : Int) (i : Int) : Option (((List Int) × Int × Int) ⊕ (Int × Bool × (List Int)) ⊕ ((List Int) × Int)) :=
  if (decide (i < (data.length : Int))) = true then
  (idx data i).bind fun x =>
  if (decide (power3 = 0)) = true then
  (idx o2 (i64 (at_ + i))).bind fun x2 =>
  (idx o2 (i64 (at_ + i))).bind fun x3 =>
  some (.inr (.inl (0, false, (o2.set (i64 (at_ + i)).toNat (Q6 .u8 x2 (bor .u8 x 15))))))
  else
  (idx o2 (i64 (at_ + i))).bind fun x4 =>
  (idx o2 (i64 (at_ + i))).bind fun x5 =>
  some (.inl ((o2.set (i64 (at_ + i)).toNat (Q6 .u8 x4 x)), (i64 (power3 - 1)), (i64 (i + 1))))
  else
  some (.inr (.inr (o2, power3)))

noncomputable def Q7 (s : List Int) (at_ : Int) (data : List Int) (power : Int) : Option (Int × Bool × (List Int)) :=
  ((loop (t3 (QH at_ data)) (s, power, 0)) : Option ((Int × Bool × (List Int)) ⊕ ((List Int) × Int))).bind (Sum.elim (fun q' => some q') (t2 fun (o : List Int) (power2 : Int) =>
  some (power2, true, o)))

noncomputable def Xy (b : ring_Recorder) (k : Int) (power : Int) : Option (Int × Bool × ring_Recorder) :=
  (idx b.bank.memories k).bind fun x =>
  (Xl b.bank k).bind fun y =>
  (QK b.bank k y).bind fun y2 =>
  (idx x.Wear y).bind fun x2 =>
  (idx x.Wear y).bind fun x3 =>
  (idx x.Sectors y).bind fun x8 =>
  (QM x8 power).bind fun y3 =>
  if (!y3.2.1) = true then
  some (y3.1, false, (ring_Recorder.mk (ring_bank.mk ((b.bank.memories.set k.toNat (api_Memory.mk x.Slots x.Limit x.Sectors (x.Wear.set y.toNat (i64 (x2 + 1))) x.Bad)).set k.toNat (api_Memory.mk x.Slots x.Limit (x.Sectors.set y.toNat y3.2.2) (x.Wear.set y.toNat (i64 (x2 + 1))) x.Bad)) b.bank.spots) b.copies b.frozen b.stopped b.last b.some_))
  else
  (((idx ((b.bank.memories.set k.toNat (api_Memory.mk x.Slots x.Limit x.Sectors (x.Wear.set y.toNat (i64 (x2 + 1))) x.Bad)).set k.toNat (api_Memory.mk x.Slots x.Limit (x.Sectors.set y.toNat y3.2.2) (x.Wear.set y.toNat (i64 (x2 + 1))) x.Bad)) k).bind fun x14 =>
  (idx x14.Sectors y).bind fun x15 =>
  (idx x14.Sectors y).bind fun x16 =>
  (X1 y2).bind fun y4 =>
  (Q7 x15 0 y4 y3.1).bind fun y5 =>
  if y5.2.1 = true then
  (idx b.bank.spots k).bind fun x22 =>
  some ((((b.bank.memories.set k.toNat (api_Memory.mk x.Slots x.Limit x.Sectors (x.Wear.set y.toNat (i64 (x2 + 1))) x.Bad)).set k.toNat (api_Memory.mk x.Slots x.Limit (x.Sectors.set y.toNat y3.2.2) (x.Wear.set y.toNat (i64 (x2 + 1))) x.Bad)).set k.toNat (api_Memory.mk x14.Slots x14.Limit (x14.Sectors.set y.toNat y5.2.2) x14.Wear x14.Bad)), (b.bank.spots.set k.toNat (ring_spot.mk y 0)), y5.1, y5.2.1)
  else
  some ((((b.bank.memories.set k.toNat (api_Memory.mk x.Slots x.Limit x.Sectors (x.Wear.set y.toNat (i64 (x2 + 1))) x.Bad)).set k.toNat (api_Memory.mk x.Slots x.Limit (x.Sectors.set y.toNat y3.2.2) (x.Wear.set y.toNat (i64 (x2 + 1))) x.Bad)).set k.toNat (api_Memory.mk x14.Slots x14.Limit (x14.Sectors.set y.toNat y5.2.2) x14.Wear x14.Bad)), b.bank.spots, y5.1, y5.2.1)) : Option (((List api_Memory) × (List ring_spot) × Int × Bool))).bind (t4 fun (memories : List api_Memory) (spots : List ring_spot) (power2 : Int) (all : Bool) =>
  some (power2, all, (ring_Recorder.mk (ring_bank.mk memories spots) b.copies b.frozen b.stopped b.last b.some_)))

noncomputable def Jh (b : ring_Recorder) (k : Int) (data : List Int) (power : Int) : Option (Int × Bool × ring_Recorder) :=
  (((QJ b.bank k).bind fun y =>
  if y = true then
  (Xy b k power).bind fun y2 =>
  if (!y2.2.1) = true then
  some (.inl (y2.1, false, y2.2.2))
  else
  some (.inr (y2.2.2.bank.memories, y2.2.2.bank.spots, y2.2.2.copies, y2.2.2.frozen, y2.2.2.stopped, y2.2.2.last, y2.2.2.some_, y2.1))
  else
  some (.inr (b.bank.memories, b.bank.spots, b.copies, b.frozen, b.stopped, b.last, b.some_, power))) : Option ((Int × Bool × ring_Recorder) ⊕ ((List api_Memory) × (List ring_spot) × Int × Bool × Bool × Int × Bool × Int))).bind (Sum.elim (fun q' => some q') (t8 fun (memories : List api_Memory) (spots : List ring_spot) (copies : Int) (frozen : Bool) (stopped : Bool) (last : Int) (some_ : Bool) (power2 : Int) =>
  (idx spots k).bind fun x =>
  (idx memories k).bind fun x2 =>
  (idx x2.Sectors x.sector).bind fun x3 =>
  (idx memories k).bind fun x4 =>
  (idx x2.Sectors x.sector).bind fun x5 =>
  (apz 1 data ([0] : List Int)).bind fun l =>
  (Q7 x3 (i64 (16 + (i64 (x.slot * 97)))) l power2).bind fun y3 =>
  some (y3.1, y3.2.1, (ring_Recorder.mk (ring_bank.mk (memories.set k.toNat (api_Memory.mk x2.Slots x2.Limit (x2.Sectors.set x.sector.toNat y3.2.2) x2.Wear x2.Bad)) (spots.set k.toNat (ring_spot.mk x.sector (i64 (x.slot + 1))))) copies frozen stopped last some_))))

noncomputable def QX (y4 : (List Int)) (y6 : (List Int) × Int) (memories2 : List api_Memory) (spots2 : List ring_spot) (copies2 : Int) (frozen2 : Bool) (stopped2 : Bool) (last2 : Int) (some_2 : Bool) (power3 : Int) (i : Int) : Option (((List api_Memory) × (List ring_spot) × Int × Bool × Bool × Int × Bool × Int × Int) ⊕ (Int × Bool × Int × ring_Recorder) ⊕ ((List api_Memory) × (List ring_spot) × Int × Bool × Bool × Int × Bool × Int)) :=
  if (decide (i < (y4.length : Int))) = true then
  (idx y4 i).bind fun x =>
  (slc y6.1 0 (y6.1.length : Int)).bind fun l =>
  (Jh (ring_Recorder.mk (ring_bank.mk memories2 spots2) copies2 frozen2 stopped2 last2 some_2) x l power3).bind fun y7 =>
  if (!y7.2.1) = true then
  some (.inr (.inl (y7.1, false, 0, (ring_Recorder.mk y7.2.2.bank y7.2.2.copies y7.2.2.frozen true y7.2.2.last y7.2.2.some_))))
  else
  some (.inl (y7.2.2.bank.memories, y7.2.2.bank.spots, y7.2.2.copies, y7.2.2.frozen, y7.2.2.stopped, y7.2.2.last, y7.2.2.some_, y7.1, (i64 (i + 1))))
  else
  some (.inr (.inr (memories2, spots2, copies2, frozen2, stopped2, last2, some_2, power3)))

noncomputable def QU (r_ : ring_Recorder) (f : Vector Int 64) (power : Int) : Option (Int × Bool × Int × ring_Recorder) :=
  (Xd r_ power).bind fun y =>
  if (!decide (y = 0)) = true then
  some (0, false, y, r_)
  else
  (ZaH f).bind fun y2 =>
  if (decide (0 < (y2.length : Int))) = true then
  some (0, false, 2, r_)
  else
  (JW f).bind fun y3 =>
  (Za3 y3.1 (r_.bank.memories.length : Int) r_.copies).bind fun y4 =>
  (Jk r_.bank y4).bind fun y5 =>
  if (!decide (y5 = 0)) = true then
  some (0, false, y5, r_)
  else
  (Zaf f).bind fun y6 =>
  ((loop (t9 (QX y4 y6)) (r_.bank.memories, r_.bank.spots, r_.copies, r_.frozen, r_.stopped, r_.last, r_.some_, power, 0)) : Option ((Int × Bool × Int × ring_Recorder) ⊕ ((List api_Memory) × (List ring_spot) × Int × Bool × Bool × Int × Bool × Int))).bind (Sum.elim (fun q' => some q') (t8 fun (memories : List api_Memory) (spots : List ring_spot) (copies : Int) (frozen : Bool) (stopped : Bool) (last : Int) (some_ : Bool) (power2 : Int) =>
  some (power2, true, 0, (ring_Recorder.mk (ring_bank.mk memories spots) copies frozen stopped y3.1 true))))

noncomputable def Qx (r_ : ring_Recorder) : Option (List api_Memory) :=
  (XD r_.bank.memories).bind fun y =>
  some y

noncomputable def X7 (p : Vector Int 96) (i : Int) : Option Int :=
  (quo .i64 i 2).bind fun q =>
  (rem i 2).bind fun q2 =>
  if (decide (q2 = 0)) = true then
  (ZH p (i64 (q * 3))).bind fun x =>
  (shl .u16 (u16 x) 4).bind fun q3 =>
  (ZH p (i64 ((i64 (q * 3)) + 1))).bind fun x2 =>
  (shr .u16 (u16 x2) 4).bind fun q4 =>
  some (bor .u16 q3 q4)
  else
  (ZH p (i64 ((i64 (q * 3)) + 1))).bind fun x3 =>
  (shl .u16 (Q6 .u16 (u16 x3) 15) 8).bind fun q5 =>
  (ZH p (i64 ((i64 (q * 3)) + 2))).bind fun x4 =>
  some (bor .u16 q5 (u16 x4))

noncomputable def XK (p : Vector Int 96) (f2 : Vector Int 64) (i : Int) : Option (((Vector Int 64) × Int) ⊕ ((Vector Int 64))) :=
  if (decide (i < 64)) = true then
  (X7 p i).bind fun y =>
  (ZH f2 i).bind fun x =>
  some (.inl ((Q2 f2 i y), (i64 (i + 1))))
  else
  some (.inr f2)

noncomputable def Zas (p : Vector Int 96) : Option (Vector Int 64) :=
  ((loop (t2 (XK p)) ((Vector.replicate 64 0), 0)) : Option (((Vector Int 64)))).bind (t1 fun (f : Vector Int 64) =>
  some f)

noncomputable def QA (b : List Int) : Option ((Vector Int 64) × Int) :=
  if (decide ((b.length : Int) < 96)) = true then
  some ((#v[0, 0, 0, 0, 0, 0, 0, 0, 0, 0, 0, 0, 0, 0, 0, 0, 0, 0, 0, 0, 0, 0, 0, 0, 0, 0, 0, 0, 0, 0, 0, 0, 0, 0, 0, 0, 0, 0, 0, 0, 0, 0, 0, 0, 0, 0, 0, 0, 0, 0, 0, 0, 0, 0, 0, 0, 0, 0, 0, 0, 0, 0, 0, 0] : Vector Int 64), 3)
  else
  (slc b 0 96).bind fun l =>
  (tov 96 l).bind fun v =>
  (Zas v).bind fun y =>
  some (y, 0)

noncomputable def Zal (i : Int) (x : api_Memory) (x2 : Int) (y3 : Int × Bool × Bool) (out6 : List api_Kept) (i3 : Int) : Option (((List api_Kept) × Int) ⊕ ((List api_Kept))) :=
  if (decide (i3 < x.Slots)) = true then
  (idx x.Sectors x2).bind fun x4 =>
  (Q8 x4 i3).bind fun y4 =>
  (Q5 y4).bind fun y5 =>
  if (decide (y5 = 1)) = true then
  (slc y4.toList 0 (97 : Int)).bind fun l2 =>
  (QA l2).bind fun y6 =>
  (apz 160 out6 ([(api_Kept.mk i x2 y3.1 i3 y6.1)] : List api_Kept)).bind fun l3 =>
  some (.inl (l3, (i64 (i3 + 1))))
  else
  some (.inl (out6, (i64 (i3 + 1))))
  else
  some (.inr out6)

noncomputable def Zak (i : Int) (x : api_Memory) (y2 : (List Int)) (out4 : List api_Kept) (i2 : Int) : Option (((List api_Kept) × Int) ⊕ ((List api_Kept))) :=
  if (decide (i2 < (y2.length : Int))) = true then
  (((idx y2 i2).bind fun x2 =>
  (idx x.Sectors x2).bind fun x3 =>
  (Xt x3).bind fun y3 =>
  loop (t2 (Zal i x x2 y3)) (out4, 0)) : Option (((List api_Kept)))).bind (t1 fun (out5 : List api_Kept) =>
  some (.inl (out5, (i64 (i2 + 1)))))
  else
  some (.inr out4)

noncomputable def Zan (l : List api_Memory) (out2 : List api_Kept) (i : Int) : Option (((List api_Kept) × Int) ⊕ ((List api_Kept))) :=
  if (decide (i < (l.length : Int))) = true then
  (((idx l i).bind fun x =>
  (JJ x).bind fun y2 =>
  loop (t2 (Zak i x y2)) (out2, 0)) : Option (((List api_Kept)))).bind (t1 fun (out3 : List api_Kept) =>
  some (.inl (out3, (i64 (i + 1)))))
  else
  some (.inr out2)

noncomputable def Zbc (l : List api_Memory) : Option ((List api_Kept) × Int) :=
  (Jl l).bind fun y =>
  if (!decide (y = 0)) = true then
  some ([], y)
  else
  ((loop (t2 (Zan l)) ([], 0)) : Option (((List api_Kept)))).bind (t1 fun (out : List api_Kept) =>
  some (out, 0))

noncomputable def ZaX (y : (List api_Kept) × Int) (best2 : List (Int × api_Kept)) (numbers2 : List Int) (i : Int) : Option (((List (Int × api_Kept)) × (List Int) × Int) ⊕ ((List (Int × api_Kept)) × (List Int))) :=
  if (decide (i < (y.1.length : Int))) = true then
  (idx y.1 i).bind fun x =>
  (ZaH x.Frame).bind fun y2 =>
  if (decide (0 < (y2.length : Int))) = true then
  some (.inl (best2, numbers2, (i64 (i + 1))))
  else
  (JW x.Frame).bind fun y3 =>
  (some (Zf4 kqI best2 y3.1)).bind fun o =>
  ((if (!o.isSome) = true then
  (apz 8 numbers2 ([y3.1] : List Int)).bind fun l2 =>
  some l2
  else
  some numbers2) : Option (((List Int)))).bind (t1 fun (numbers3 : List Int) =>
  if ((!o.isSome) || (decide (((o.getD (api_Kept.mk 0 0 0 0 (Vector.replicate 64 0))).Sequence) < x.Sequence))) = true then
  some (.inl ((Zi2 kqI best2 y3.1 x), numbers3, (i64 (i + 1))))
  else
  some (.inl (best2, numbers3, (i64 (i + 1)))))
  else
  some (.inr (best2, numbers2))

noncomputable def Zbb (best : List (Int × api_Kept)) (y4 : List Int) (out2 : List (Vector Int 64)) (i2 : Int) : Option (((List (Vector Int 64)) × Int) ⊕ ((List (Vector Int 64)))) :=
  if (decide (i2 < (y4.length : Int))) = true then
  (idx y4 i2).bind fun x2 =>
  (some ((Zf4 kqI best x2).getD (api_Kept.mk 0 0 0 0 (Vector.replicate 64 0)))).bind fun o2 =>
  (apz 128 out2 ([o2.Frame] : List (Vector Int 64))).bind fun l3 =>
  some (.inl (l3, (i64 (i2 + 1))))
  else
  some (.inr out2)

noncomputable def ZbP (l : List api_Memory) : Option ((List (Vector Int 64)) × Int) :=
  (Zbc l).bind fun y =>
  if (!decide (y.2 = 0)) = true then
  some ([], y.2)
  else
  ((loop (t3 (ZaX y)) (([] : List (Int × api_Kept)), [], 0)) : Option (((List (Int × api_Kept)) × (List Int)))).bind (t2 fun (best : List (Int × api_Kept)) (numbers : List Int) =>
  (ZgD numbers).bind fun y4 =>
  ((loop (t2 (Zbb best y4)) ([], 0)) : Option (((List (Vector Int 64))))).bind (t1 fun (out : List (Vector Int 64)) =>
  some (out, 0)))

noncomputable def Zcy  : Option Bool :=
  (mkz 8 58 0).bind fun l =>
  (Zex 4 l).bind fun y =>
  (JI 2 1 3).bind fun y2 =>
  if (!decide (y2.2 = 0)) = true then
  some false
  else
  (ZaA ([y2.1] : List api_Memory) 1).bind (Sum.elim (fun y3 =>
  if (!decide (y3 = 0)) = true then
  some false
  else
  none) (fun y3 =>
  if (!decide (y3.2 = 0)) = true then
  some false
  else
  (QU y3.1 y.1 109).bind fun y4 =>
  (Qx y4.2.2.2).bind fun y5 =>
  (ZbP y5).bind fun y6 =>
  (gd ((((((decide (y4.1 = 1)) && y4.2.1) && (decide (y4.2.2.1 = 0))) && (decide (y6.2 = 0))) && (decide ((y6.1.length : Int) = 1))) == true) (Vector.replicate 64 0) (idx y6.1 0)).bind fun x =>
  some ((((((decide (y4.1 = 1)) && y4.2.1) && (decide (y4.2.2.1 = 0))) && (decide (y6.2 = 0))) && (decide ((y6.1.length : Int) = 1))) && (decide (x = y.1)))))

noncomputable def Xh (x : Int) (out4 : List Int) (k : Int) : Option (((List Int) × Int) ⊕ ((List Int))) :=
  if (decide (0 ≤ k)) = true then
  (shr .u32 x k).bind fun q =>
  (apz 1 out4 ([(u8 q)] : List Int)).bind fun l =>
  some (.inl (l, (i64 (k - 8))))
  else
  some (.inr out4)

noncomputable def Xe (sequence : Int) (out2 : List Int) (i : Int) : Option (((List Int) × Int) ⊕ ((List Int))) :=
  if (decide (i < (([(u32 sequence), (Zat .u32 4294967295 (u32 sequence))] : List Int).length : Int))) = true then
  (((idx ([(u32 sequence), (Zat .u32 4294967295 (u32 sequence))] : List Int) i).bind fun x =>
  loop (t2 (Xh x)) (out2, 24)) : Option (((List Int)))).bind (t1 fun (out3 : List Int) =>
  some (.inl (out3, (i64 (i + 1)))))
  else
  some (.inr out2)

noncomputable def ZbZ (sequence : Int) : Option (List Int) :=
  ((loop (t2 (Xe sequence)) (([79, 66] : List Int), 0)) : Option (((List Int)))).bind (t1 fun (out : List Int) =>
  some out)

noncomputable def X4 (s : List Int) (sequence2 : Int) (k : Int) : Option ((Int × Int) ⊕ (Int)) :=
  if (decide (k < 6)) = true then
  (idx s k).bind fun x =>
  some (.inl ((i64 ((i64 (sequence2 * 256)) + (i64 x))), (i64 (k + 1))))
  else
  some (.inr sequence2)

noncomputable def Zdz (s : List Int) : Option (Int × Bool × Bool) :=
  if (decide ((s.length : Int) < 16)) = true then
  some (0, false, false)
  else
  ((loop (t2 (X4 s)) (0, 2)) : Option ((Int))).bind (t1 fun (sequence : Int) =>
  (JQ sequence 1 1073741824).bind fun y =>
  (gd (y == false) [] (ZbZ sequence)).bind fun y2 =>
  (gd (y == false) [] (slc s 0 10)).bind fun l =>
  if (y || (!decide ((Ju y2) = (Ju l)))) = true then
  some (0, false, false)
  else
  (idx s 10).bind fun x2 =>
  some (sequence, (!decide (x2 = 255)), true))

noncomputable def JP (s : List Int) : Option (Int × Bool) :=
  (quo .i64 (i64 ((s.length : Int) - 16)) 97).bind fun q =>
  (gd ((decide (97 ≤ (i64 ((s.length : Int) - 16)))) == true) 0 (rem (i64 ((s.length : Int) - 16)) 97)).bind fun q2 =>
  some (q, ((decide (97 ≤ (i64 ((s.length : Int) - 16)))) && (decide (q2 = 0))))

noncomputable def Jv (s : List Int) (y : Int × Bool) (out2 : List Int) (i : Int) : Option (((List Int) × Int) ⊕ ((List Int))) :=
  if (decide (i < y.1)) = true then
  (Q8 s i).bind fun y2 =>
  (Q5 y2).bind fun y3 =>
  (apz 8 out2 ([y3] : List Int)).bind fun l =>
  some (.inl (l, (i64 (i + 1))))
  else
  some (.inr out2)

noncomputable def ZbQ (s : List Int) : Option ((List Int) × Int) :=
  (JP s).bind fun y =>
  if (!y.2) = true then
  some ([], 3)
  else
  ((loop (t2 (Jv s y)) ([], 0)) : Option (((List Int)))).bind (t1 fun (out : List Int) =>
  some (out, 0))

noncomputable def Zbp (s : List Int) : Option Int :=
  (gd ((decide ((i64 ((s.length : Int) - 16)) ≤ 0)) == false) 0 (rem (i64 ((s.length : Int) - 16)) 97)).bind fun q =>
  if ((decide ((i64 ((s.length : Int) - 16)) ≤ 0)) || (!decide (q = 0))) = true then
  some (-1)
  else
  (quo .i64 (i64 ((s.length : Int) - 16)) 97).bind fun q2 =>
  some q2

noncomputable def Zcv (s : List Int) (i : Int) : Option (List Int) :=
  (slc s (i64 (16 + (i64 (i * 97)))) (i64 (16 + (i64 ((i64 (i + 1)) * 97))))).bind fun l =>
  some l

noncomputable def Zag (y : (List Int)) (i2 : Int) : Option ((Int) ⊕ (Int) ⊕ (Unit)) :=
  if (decide (i2 < (y.length : Int))) = true then
  (idx y i2).bind fun x2 =>
  if (!decide (x2 = 255)) = true then
  some (.inr (.inl 2))
  else
  some (.inl (i64 (i2 + 1)))
  else
  some (.inr (.inr ()))

noncomputable def ZcM (s : List Int) (i : Int) : Option Int :=
  (Zcv s i).bind fun y =>
  (idx y 96).bind fun x =>
  if (decide (x = 0)) = true then
  some 1
  else
  ((loop (t1 (Zag y)) 0) : Option ((Int) ⊕ (Unit))).bind (Sum.elim (fun q' => some q') (t0 (some 0)))

noncomputable def Jw (s : List Int) (y : Int) (out2 : List Int) (i : Int) : Option (((List Int) × Int) ⊕ ((List Int))) :=
  if (decide (i < y)) = true then
  (ZcM s i).bind fun y2 =>
  (apz 8 out2 ([y2] : List Int)).bind fun l =>
  some (.inl (l, (i64 (i + 1))))
  else
  some (.inr out2)

noncomputable def ZbS (s : List Int) : Option ((List Int) × Int) :=
  (Zbp s).bind fun y =>
  if (decide (y < 0)) = true then
  some ([], 3)
  else
  ((loop (t2 (Jw s y)) ([], 0)) : Option (((List Int)))).bind (t1 fun (out : List Int) =>
  some (out, 0))

noncomputable def Jz (s : List Int) (i : Int) : Option ((Vector Int 64) × Int) :=
  (JP s).bind fun y =>
  if (!y.2) = true then
  some ((#v[0, 0, 0, 0, 0, 0, 0, 0, 0, 0, 0, 0, 0, 0, 0, 0, 0, 0, 0, 0, 0, 0, 0, 0, 0, 0, 0, 0, 0, 0, 0, 0, 0, 0, 0, 0, 0, 0, 0, 0, 0, 0, 0, 0, 0, 0, 0, 0, 0, 0, 0, 0, 0, 0, 0, 0, 0, 0, 0, 0, 0, 0, 0, 0] : Vector Int 64), 3)
  else
  (ZT i 0 (i64 (y.1 - 1))).bind fun y2 =>
  if (!y2) = true then
  some ((#v[0, 0, 0, 0, 0, 0, 0, 0, 0, 0, 0, 0, 0, 0, 0, 0, 0, 0, 0, 0, 0, 0, 0, 0, 0, 0, 0, 0, 0, 0, 0, 0, 0, 0, 0, 0, 0, 0, 0, 0, 0, 0, 0, 0, 0, 0, 0, 0, 0, 0, 0, 0, 0, 0, 0, 0, 0, 0, 0, 0, 0, 0, 0, 0] : Vector Int 64), 9)
  else
  (Q8 s i).bind fun y3 =>
  (slc y3.toList 0 (97 : Int)).bind fun l =>
  (QA l).bind fun y4 =>
  some (y4.1, y4.2)

noncomputable def XH (b : List Int) (i : Int) (f4 : Vector Int 64) (i2 : Int) : Option (((Vector Int 64) × Int) ⊕ ((Vector Int 64))) :=
  if (decide (i2 < 3)) = true then
  (quo .i64 (i64 ((i64 (3 * i)) + i2)) 2).bind fun q =>
  (idx b q).bind fun x =>
  (quo .i64 (i64 x) 16).bind fun q2 =>
  (((rem (i64 ((i64 (3 * i)) + i2)) 2).bind fun q3 =>
  if (decide (q3 = 1)) = true then
  (quo .i64 (i64 ((i64 (3 * i)) + i2)) 2).bind fun q4 =>
  (idx b q4).bind fun x2 =>
  (rem (i64 x2) 16).bind fun q5 =>
  some q5
  else
  some q2) : Option ((Int))).bind (t1 fun (half : Int) =>
  (ZH f4 i).bind fun x3 =>
  (ZH f4 i).bind fun x4 =>
  some (.inl ((Q2 f4 i (u16 ((u16 (x3 * 16)) + (u16 half)))), (i64 (i2 + 1)))))
  else
  some (.inr f4)

noncomputable def J9 (b : List Int) (f2 : Vector Int 64) (i : Int) : Option (((Vector Int 64) × Int) ⊕ ((Vector Int 64))) :=
  if (decide (i < 64)) = true then
  ((loop (t2 (XH b i)) (f2, 0)) : Option (((Vector Int 64)))).bind (t1 fun (f3 : Vector Int 64) =>
  some (.inl (f3, (i64 (i + 1)))))
  else
  some (.inr f2)

noncomputable def ZcJ (b : List Int) : Option (Vector Int 64) :=
  ((loop (t2 (J9 b)) ((#v[0, 0, 0, 0, 0, 0, 0, 0, 0, 0, 0, 0, 0, 0, 0, 0, 0, 0, 0, 0, 0, 0, 0, 0, 0, 0, 0, 0, 0, 0, 0, 0, 0, 0, 0, 0, 0, 0, 0, 0, 0, 0, 0, 0, 0, 0, 0, 0, 0, 0, 0, 0, 0, 0, 0, 0, 0, 0, 0, 0, 0, 0, 0, 0] : Vector Int 64), 0)) : Option (((Vector Int 64)))).bind (t1 fun (f : Vector Int 64) =>
  some f)

noncomputable def JE (b : List Int) : Option ((Vector Int 64) × Int) :=
  if (decide ((b.length : Int) < 96)) = true then
  some ((#v[0, 0, 0, 0, 0, 0, 0, 0, 0, 0, 0, 0, 0, 0, 0, 0, 0, 0, 0, 0, 0, 0, 0, 0, 0, 0, 0, 0, 0, 0, 0, 0, 0, 0, 0, 0, 0, 0, 0, 0, 0, 0, 0, 0, 0, 0, 0, 0, 0, 0, 0, 0, 0, 0, 0, 0, 0, 0, 0, 0, 0, 0, 0, 0] : Vector Int 64), 3)
  else
  (ZcJ b).bind fun y =>
  some (y, 0)

noncomputable def Jy (s : List Int) (i : Int) : Option ((Vector Int 64) × Int) :=
  (Zbp s).bind fun y =>
  if (decide (y < 0)) = true then
  some ((#v[0, 0, 0, 0, 0, 0, 0, 0, 0, 0, 0, 0, 0, 0, 0, 0, 0, 0, 0, 0, 0, 0, 0, 0, 0, 0, 0, 0, 0, 0, 0, 0, 0, 0, 0, 0, 0, 0, 0, 0, 0, 0, 0, 0, 0, 0, 0, 0, 0, 0, 0, 0, 0, 0, 0, 0, 0, 0, 0, 0, 0, 0, 0, 0] : Vector Int 64), 3)
  else
  (JQ i 0 (i64 (y - 1))).bind fun y2 =>
  if y2 = true then
  some ((#v[0, 0, 0, 0, 0, 0, 0, 0, 0, 0, 0, 0, 0, 0, 0, 0, 0, 0, 0, 0, 0, 0, 0, 0, 0, 0, 0, 0, 0, 0, 0, 0, 0, 0, 0, 0, 0, 0, 0, 0, 0, 0, 0, 0, 0, 0, 0, 0, 0, 0, 0, 0, 0, 0, 0, 0, 0, 0, 0, 0, 0, 0, 0, 0] : Vector Int 64), 9)
  else
  (Zcv s i).bind fun y3 =>
  (JE y3).bind fun y4 =>
  some (y4.1, y4.2)

noncomputable def Qw (s : List Int) (i : Int) : Option Bool :=
  (Xt s).bind fun y =>
  (Zdz s).bind fun y2 =>
  if (((!decide (y.1 = y2.1)) || (!(y.2.1 == y2.2.1))) || (!(y.2.2 == y2.2.2))) = true then
  some false
  else
  (ZbQ s).bind fun y3 =>
  (ZbS s).bind fun y4 =>
  (gd ((!decide (y3.2 = y4.2)) == false) false (QP y3.1 y4.1)).bind fun y5 =>
  if ((!decide (y3.2 = y4.2)) || (!y5)) = true then
  some false
  else
  (Jz s i).bind fun y6 =>
  (Jy s i).bind fun y7 =>
  (gd (((decide (y6.1 = y7.1)) && (decide (y6.2 = y7.2))) == true) false Zcy).bind fun y8 =>
  some (((decide (y6.1 = y7.1)) && (decide (y6.2 = y7.2))) && y8)

end Go.Vx
