/- A text of the proof: a verified executor of the program form, or the contracts of the functions that the law reaches. -/
import Derived.Test.YteljlmpmdplgmaaGreatDoorShLib
set_option linter.all false
namespace Go.Vx
open Go Go.RowKit
set_option linter.unusedVariables false
structure api_Piece where
  Bytes : List Int
  Half : Bool
structure api_Rest where
  Number : Int
  Frame : Vector Int 64
  States : Vector Int 64
  Sound : Bool
  Copies : Int
  Conflict : Bool
structure api_Found where
  At : Int
  Frame : Vector Int 64
structure salvage_finder where
  h_ : List Int
  certain : List api_Found
  numbers : List Int
  at_ : Unit
structure api_Flaw where
  Word : Int
  Kind : Int

noncomputable def Q4 (p : api_Piece) : Option Int :=
  if (decide (200000 < (p.Bytes.length : Int))) = true then
  some 3
  else
  (gd ((p.Half == true) && ((decide ((p.Bytes.length : Int) = 0)) == false)) 0 (idx p.Bytes 0)).bind fun x =>
  (gd ((p.Half == true) && ((decide ((p.Bytes.length : Int) = 0)) == false)) 0 (shr .u8 x 4)).bind fun q =>
  if (p.Half && ((decide ((p.Bytes.length : Int) = 0)) || (!decide (q = 0)))) = true then
  some 2
  else
  some 0

noncomputable def Xu (p : api_Piece) : Option Int :=
  if p.Half = true then
  some 1
  else
  some 0

noncomputable def X6 (p : api_Piece) : Option Int :=
  (Xu p).bind fun y =>
  some (i64 ((i64 (2 * (p.Bytes.length : Int))) - y))

noncomputable def JV (b : List Int) (i : Int) : Option Int :=
  (quo .i64 i 2).bind fun q =>
  (idx b q).bind fun x =>
  (rem i 2).bind fun q2 =>
  (shr .u8 x (i64 (4 - (i64 (4 * q2))))).bind fun q3 =>
  some (Xe .u8 q3 15)

noncomputable def XP (p : api_Piece) (l : List Int) (out2 : List Int) (i : Int) : Option (((List Int) × Int) ⊕ ((List Int))) :=
  if (decide (i < (l.length : Int))) = true then
  (Xu p).bind fun y2 =>
  (JV p.Bytes (i64 (i + y2))).bind fun y3 =>
  (idx out2 i).bind fun x =>
  some (.inl ((out2.set i.toNat y3), (i64 (i + 1))))
  else
  some (.inr out2)

noncomputable def Jc (p : api_Piece) : Option (List Int) :=
  (X6 p).bind fun y =>
  (mks y 0).bind fun l =>
  ((loop (t2 (XP p l)) (l, 0)) : Option (((List Int)))).bind (t1 fun (out : List Int) =>
  some out)

noncomputable def Xh (h_ : List Int) : Option Int :=
  (idx h_ 0).bind fun x =>
  (shl .u16 (u16 x) 8).bind fun q =>
  (idx h_ 1).bind fun x2 =>
  (shl .u16 (u16 x2) 4).bind fun q2 =>
  (idx h_ 2).bind fun x3 =>
  some (bor .u16 (bor .u16 q q2) (u16 x3))

def gv_frame_syncs : Vector Int 4 := #v[583, 1464, 2631, 3512]

noncomputable def JR (number : Int) : Option (Int × Int) :=
  if ((decide (number < 0)) || (decide (4194304 ≤ number))) = true then
  some (0, 9)
  else
  (rem number 4).bind fun q =>
  (ZA gv_frame_syncs q).bind fun x =>
  some ((i64 x), 0)

noncomputable def XW (w : Int) (i : Int) : Option ((Int) ⊕ (Bool) ⊕ (Unit)) :=
  if (decide (i < 4)) = true then
  (JR i).bind fun y =>
  if (decide ((u16 y.1) = w)) = true then
  some (.inr (.inl true))
  else
  some (.inl (i64 (i + 1)))
  else
  some (.inr (.inr ()))

noncomputable def JU (w : Int) : Option Bool :=
  ((loop (t1 (XW w)) 0) : Option ((Bool) ⊕ (Unit))).bind (Sum.elim (fun q' => some q') (t0 (some false)))

noncomputable def XC (w : Vector Int 192) (f2 : Vector Int 64) (i : Int) : Option (((Vector Int 64) × Int) ⊕ ((Vector Int 64))) :=
  if (decide (i < 64)) = true then
  (slc w.toList (i64 (3 * i)) (i64 ((i64 (3 * i)) + 3))).bind fun l =>
  (Xh l).bind fun y =>
  (ZA f2 i).bind fun x =>
  some (.inl ((Qb f2 i y), (i64 (i + 1))))
  else
  some (.inr f2)

noncomputable def Jr (w : Vector Int 192) : Option (Vector Int 64) :=
  ((loop (t2 (XC w)) ((Vector.replicate 64 0), 0)) : Option (((Vector Int 64)))).bind (t1 fun (f : Vector Int 64) =>
  some f)

noncomputable def Zal (f : Vector Int 64) (i : Int) : Option ((Int) ⊕ (Bool) ⊕ (Unit)) :=
  if (decide (i < 64)) = true then
  (ZA f i).bind fun x =>
  if (decide (4095 < x)) = true then
  some (.inr (.inl true))
  else
  some (.inl (i64 (i + 1)))
  else
  some (.inr (.inr ()))

noncomputable def Zbp (f : Vector Int 64) : Option Bool :=
  ((loop (t1 (Zal f)) 0) : Option ((Bool) ⊕ (Unit))).bind (Sum.elim (fun q' => some q') (t0 (some false)))

noncomputable def QJ (w : Int) : Option Int :=
  some (i64 (Xe .u16 w 2047))

noncomputable def QF (f : Vector Int 64) : Option Int :=
  (ZA f 1).bind fun x =>
  (QJ x).bind fun y =>
  (ZA f 2).bind fun x2 =>
  (QJ x2).bind fun y2 =>
  (shl .i64 y2 11).bind fun q =>
  some (bor .i64 y q)

noncomputable def XK (f : Vector Int 64) (n2 : Int) (i : Int) : Option ((Int × Int) ⊕ (Int)) :=
  if (decide (i < 60)) = true then
  (ZA f (i64 (i + 1))).bind fun x =>
  (QJ x).bind fun y =>
  some (.inl ((ZbP .i64 n2 y), (i64 (i + 1))))
  else
  some (.inr n2)

noncomputable def Xv (f : Vector Int 64) : Option Int :=
  ((loop (t2 (XK f)) (0, 0)) : Option ((Int))).bind (t1 fun (n : Int) =>
  some n)

noncomputable def X8 (x : Int) : Option Int :=
  (shr .u16 x 8).bind fun q =>
  (ZkA [0, 1, 1, 2, 1, 2, 2, 3, 1, 2, 2, 3, 2, 3, 3, 4, 1, 2, 2, 3, 2, 3, 3, 4, 2, 3, 3, 4, 3, 4, 4, 5, 1, 2, 2, 3, 2, 3, 3, 4, 2, 3, 3, 4, 3, 4, 4, 5, 2, 3, 3, 4, 3, 4, 4, 5, 3, 4, 4, 5, 4, 5, 5, 6, 1, 2, 2, 3, 2, 3, 3, 4, 2, 3, 3, 4, 3, 4, 4, 5, 2, 3, 3, 4, 3, 4, 4, 5, 3, 4, 4, 5, 4, 5, 5, 6, 2, 3, 3, 4, 3, 4, 4, 5, 3, 4, 4, 5, 4, 5, 5, 6, 3, 4, 4, 5, 4, 5, 5, 6, 4, 5, 5, 6, 5, 6, 6, 7, 1, 2, 2, 3, 2, 3, 3, 4, 2, 3, 3, 4, 3, 4, 4, 5, 2, 3, 3, 4, 3, 4, 4, 5, 3, 4, 4, 5, 4, 5, 5, 6, 2, 3, 3, 4, 3, 4, 4, 5, 3, 4, 4, 5, 4, 5, 5, 6, 3, 4, 4, 5, 4, 5, 5, 6, 4, 5, 5, 6, 5, 6, 6, 7, 2, 3, 3, 4, 3, 4, 4, 5, 3, 4, 4, 5, 4, 5, 5, 6, 3, 4, 4, 5, 4, 5, 5, 6, 4, 5, 5, 6, 5, 6, 6, 7, 3, 4, 4, 5, 4, 5, 5, 6, 4, 5, 5, 6, 5, 6, 6, 7, 4, 5, 5, 6, 5, 6, 6, 7, 5, 6, 6, 7, 6, 7, 7, 8] q).bind fun b =>
  (ZkA [0, 1, 1, 2, 1, 2, 2, 3, 1, 2, 2, 3, 2, 3, 3, 4, 1, 2, 2, 3, 2, 3, 3, 4, 2, 3, 3, 4, 3, 4, 4, 5, 1, 2, 2, 3, 2, 3, 3, 4, 2, 3, 3, 4, 3, 4, 4, 5, 2, 3, 3, 4, 3, 4, 4, 5, 3, 4, 4, 5, 4, 5, 5, 6, 1, 2, 2, 3, 2, 3, 3, 4, 2, 3, 3, 4, 3, 4, 4, 5, 2, 3, 3, 4, 3, 4, 4, 5, 3, 4, 4, 5, 4, 5, 5, 6, 2, 3, 3, 4, 3, 4, 4, 5, 3, 4, 4, 5, 4, 5, 5, 6, 3, 4, 4, 5, 4, 5, 5, 6, 4, 5, 5, 6, 5, 6, 6, 7, 1, 2, 2, 3, 2, 3, 3, 4, 2, 3, 3, 4, 3, 4, 4, 5, 2, 3, 3, 4, 3, 4, 4, 5, 3, 4, 4, 5, 4, 5, 5, 6, 2, 3, 3, 4, 3, 4, 4, 5, 3, 4, 4, 5, 4, 5, 5, 6, 3, 4, 4, 5, 4, 5, 5, 6, 4, 5, 5, 6, 5, 6, 6, 7, 2, 3, 3, 4, 3, 4, 4, 5, 3, 4, 4, 5, 4, 5, 5, 6, 3, 4, 4, 5, 4, 5, 5, 6, 4, 5, 5, 6, 5, 6, 6, 7, 3, 4, 4, 5, 4, 5, 5, 6, 4, 5, 5, 6, 5, 6, 6, 7, 4, 5, 5, 6, 5, 6, 6, 7, 5, 6, 6, 7, 6, 7, 7, 8] (Xe .u16 x 255)).bind fun b2 =>
  some (i64 (u8 (b + b2)))

noncomputable def Jb (w : Int) : Option Bool :=
  (gd ((decide (w ≤ 4095)) == true) 0 (X8 w)).bind fun y =>
  (gd ((decide (w ≤ 4095)) == true) 0 (rem y 2)).bind fun q =>
  some ((decide (w ≤ 4095)) && (decide (q = 1)))

noncomputable def QN (f : Vector Int 64) (i : Int) (n4 : Int) (k : Int) : Option ((Int × Int) ⊕ (Int)) :=
  if (decide (0 ≤ k)) = true then
  (shl .i64 n4 1).bind fun q =>
  (ZA f i).bind fun x =>
  (shr .u16 x k).bind fun q2 =>
  if (!((!decide ((Xe .i64 n4 2097152) = 0)) == (decide ((Xe .u16 q2 1) = 1)))) = true then
  some (.inl ((ZbP .i64 (Xe .i64 q 4194303) 2097167), (i64 (k - 1))))
  else
  some (.inl ((Xe .i64 q 4194303), (i64 (k - 1))))
  else
  some (.inr n4)

noncomputable def Q6 (f : Vector Int 64) (n2 : Int) (i : Int) : Option ((Int × Int) ⊕ (Int)) :=
  if (decide (i < 62)) = true then
  ((loop (t2 (QN f i)) (n2, 11)) : Option ((Int))).bind (t1 fun (n3 : Int) =>
  some (.inl (n3, (i64 (i + 1)))))
  else
  some (.inr n2)

noncomputable def QU (f : Vector Int 64) : Option Int :=
  ((loop (t2 (Q6 f)) (0, 0)) : Option ((Int))).bind (t1 fun (n : Int) =>
  some n)

noncomputable def JK (f : Vector Int 64) (i : Int) : Option ((Int) ⊕ (Bool) ⊕ (Unit)) :=
  if (decide (i < 64)) = true then
  (ZA f i).bind fun x4 =>
  (Jb x4).bind fun y5 =>
  if (!y5) = true then
  some (.inr (.inl false))
  else
  some (.inl (i64 (i + 1)))
  else
  some (.inr (.inr ()))

noncomputable def ZaM (f : Vector Int 64) : Option Bool :=
  (Zbp f).bind fun y =>
  (gd (y == false) 0 (ZA f 0)).bind fun x =>
  (gd (y == false) 0 (QF f)).bind fun y2 =>
  (gd (y == false) 0 (rem y2 4)).bind fun q =>
  (gd (y == false) 0 (ZA gv_frame_syncs q)).bind fun x2 =>
  (gd ((y || (!decide (x = x2))) == false) 0 (ZA f 61)).bind fun x3 =>
  (gd ((y || (!decide (x = x2))) == false) 0 (QJ x3)).bind fun y3 =>
  (gd ((y || (!decide (x = x2))) == false) 0 (Xv f)).bind fun y4 =>
  if ((y || (!decide (x = x2))) || (!decide (y3 = y4))) = true then
  some false
  else
  ((loop (t1 (JK f)) 1) : Option ((Bool) ⊕ (Unit))).bind (Sum.elim (fun q' => some q') (t0 ((ZA f 62).bind fun x5 =>
  (QJ x5).bind fun y6 =>
  (shl .i64 y6 11).bind fun q2 =>
  (ZA f 63).bind fun x6 =>
  (QJ x6).bind fun y7 =>
  (QU f).bind fun y8 =>
  some (decide ((bor .i64 q2 y7) = y8)))))

noncomputable def ZaO (f : Vector Int 64) : Option Bool :=
  (ZaM f).bind fun y =>
  some y

noncomputable def XE (h_ : List Int) (o : List api_Found) (at_ : Int) : Option (((List api_Found) × Int) ⊕ (List api_Found)) :=
  if (decide ((i64 (at_ + 192)) ≤ (h_.length : Int))) = true then
  (((slc h_ at_ (i64 (at_ + 3))).bind fun l =>
  (Xh l).bind fun y =>
  (JU y).bind fun y2 =>
  if (!y2) = true then
  some (.inr o)
  else
  (slc h_ at_ (i64 (at_ + 192))).bind fun l2 =>
  (tov 192 l2).bind fun v =>
  (Jr v).bind fun y3 =>
  (ZaO y3).bind fun y4 =>
  if (y4 == true) = true then
  (app o [(api_Found.mk at_ y3)]).bind fun out2 =>
  if (!true) = true then
  some (.inl out2)
  else
  some (.inr out2)
  else
  if false = true then
  none
  else
  some (.inr o)) : Option ((List api_Found) ⊕ ((List api_Found)))).bind (Sum.elim (fun q' => some (.inr q')) (t1 fun (o2 : List api_Found) =>
  some (.inl (o2, (i64 (at_ + 1))))))
  else
  some (.inr o)

noncomputable def Zap (h_ : List Int) (out : List api_Found) : Option (List api_Found) :=
  loop (t2 (XE h_)) (out, 0)

noncomputable def ZaZ (h_ : List Int) : Option (List api_Found) :=
  Zap h_ []

noncomputable def Q3 (y : List api_Found) (out2 : List api_Found) (i : Int) : Option (((List api_Found) × Int) ⊕ ((List api_Found))) :=
  if (decide (i < (y.length : Int))) = true then
  (idx y i).bind fun x =>
  (gd ((decide (i = 0)) == false) (api_Found.mk 0 (Vector.replicate 64 0)) (idx y (i64 (i - 1)))).bind fun x2 =>
  (gd ((((decide (i = 0)) || (decide (192 ≤ (i64 (x.At - x2.At))))) == true) && ((decide (i = (i64 ((y.length : Int) - 1)))) == false)) (api_Found.mk 0 (Vector.replicate 64 0)) (idx y (i64 (i + 1)))).bind fun x3 =>
  if (((decide (i = 0)) || (decide (192 ≤ (i64 (x.At - x2.At))))) && ((decide (i = (i64 ((y.length : Int) - 1)))) || (decide (192 ≤ (i64 (x3.At - x.At)))))) = true then
  (app out2 ([x] : List api_Found)).bind fun l =>
  some (.inl (l, (i64 (i + 1))))
  else
  some (.inl (out2, (i64 (i + 1))))
  else
  some (.inr out2)

noncomputable def Jw (h_ : List Int) : Option (List api_Found) :=
  (ZaZ h_).bind fun y =>
  ((loop (t2 (Q3 y)) ([], 0)) : Option (((List api_Found)))).bind (t1 fun (out : List api_Found) =>
  some out)

noncomputable def Jj (f : Vector Int 64) : Option (Int × Bool) :=
  (ZA f 1).bind fun x =>
  (Jb x).bind fun y =>
  (gd ((!y) == false) 0 (ZA f 2)).bind fun x2 =>
  (gd ((!y) == false) false (Jb x2)).bind fun y2 =>
  if ((!y) || (!y2)) = true then
  some (0, false)
  else
  (QF f).bind fun y3 =>
  some (y3, true)

noncomputable def Xg (y : (List api_Found)) (numbers2 : List Int) (at__2 : List (Int × Int)) (i : Int) : Option (((List Int) × (List (Int × Int)) × Int) ⊕ ((List Int) × (List (Int × Int)))) :=
  if (decide (i < (y.length : Int))) = true then
  (((idx y i).bind fun x =>
  (Jj x.Frame).bind fun y2 =>
  (app numbers2 ([y2.1] : List Int)).bind fun l =>
  some (l, (ZV kqI at__2 x.At i))) : Option (((List Int) × (List (Int × Int))))).bind (t2 fun (numbers3 : List Int) (at__3 : List (Int × Int)) =>
  some (.inl (numbers3, at__3, (i64 (i + 1)))))
  else
  some (.inr (numbers2, at__2))

noncomputable def XT (h_ : List Int) : Option salvage_finder :=
  (Jw h_).bind fun y =>
  ((loop (t3 (Xg y)) ([], ([] : List (Int × Int)), 0)) : Option (((List Int) × (List (Int × Int))))).bind (t2 fun (numbers : List Int) (at__ : List (Int × Int)) =>
  some (salvage_finder.mk h_ y numbers ()))

noncomputable def XX (state : Int) (out2 : Vector Int 64) (i : Int) : Option (((Vector Int 64) × Int) ⊕ ((Vector Int 64))) :=
  if (decide (i < 64)) = true then
  (ZA out2 i).bind fun x =>
  some (.inl ((Qb out2 i state), (i64 (i + 1))))
  else
  some (.inr out2)

noncomputable def XI (state : Int) : Option (Vector Int 64) :=
  ((loop (t2 (XX state)) ((Vector.replicate 64 0), 0)) : Option (((Vector Int 64)))).bind (t1 fun (out : Vector Int 64) =>
  some out)

noncomputable def ZJ (x : List api_Found) (target : Int) (cmp : api_Found → Int → Option Int) (i2 : Int) (j : Int) : Option ((Int × Int) ⊕ (Int)) :=
  if (decide (i2 < j)) = true then
  (shr .u64 (u64 (i64 (i2 + j))) 1).bind fun q =>
  (idx x (i64 q)).bind fun x2 =>
  (cmp x2 target).bind fun y =>
  if (decide (y < 0)) = true then
  some (.inl ((i64 ((i64 q) + 1)), j))
  else
  some (.inl (i2, (i64 q)))
  else
  some (.inr i2)

noncomputable def ZN (x : List api_Found) (target : Int) (cmp : api_Found → Int → Option Int) : Option (Int × Bool) :=
  ((loop (t2 (ZJ x target cmp)) (0, (x.length : Int))) : Option ((Int))).bind (t1 fun (i : Int) =>
  (gd ((decide (i < (x.length : Int))) == true) (api_Found.mk 0 (Vector.replicate 64 0)) (idx x i)).bind fun x3 =>
  (gd ((decide (i < (x.length : Int))) == true) 0 (cmp x3 target)).bind fun y2 =>
  some (i, ((decide (i < (x.length : Int))) && (decide (y2 = 0)))))

noncomputable def Qc (c_ : api_Found) (at_ : Int) : Option Int :=
  some (i64 (c_.At - at_))

noncomputable def Qv (x : salvage_finder) (place : Int) : Option Int :=
  (ZN x.certain place (fun z0 z1 => Qc z0 z1)).bind fun y =>
  (gd (((decide (y.1 = (x.certain.length : Int))) == false) && ((decide (0 < y.1)) == true)) (api_Found.mk 0 (Vector.replicate 64 0)) (idx x.certain (i64 (y.1 - 1)))).bind fun x2 =>
  (gd (((decide (y.1 = (x.certain.length : Int))) == false) && ((decide (0 < y.1)) == true)) (api_Found.mk 0 (Vector.replicate 64 0)) (idx x.certain y.1)).bind fun x3 =>
  if ((decide (y.1 = (x.certain.length : Int))) || ((decide (0 < y.1)) && (decide ((i64 (place - x2.At)) ≤ (i64 (x3.At - place)))))) = true then
  some (i64 (y.1 - 1))
  else
  some y.1

noncomputable def J3 (n : Int) : Option Int :=
  some (max n (i64 (-n)))

noncomputable def QD (x : salvage_finder) (i : Int) (x3 : Int) (out4 : List Int) (p : Int) : Option (((List Int) × Int) ⊕ ((List Int))) :=
  if ((decide ((-192) < p)) && (decide (p < (x.h_.length : Int)))) = true then
  (((Qv x p).bind fun y =>
  if (!decide (y = i)) = true then
  some (.inl out4)
  else
  (idx x.certain y).bind fun x4 =>
  (J3 (i64 (x4.At - p))).bind fun y2 =>
  if (decide (192 ≤ y2)) = true then
  (app out4 ([p] : List Int)).bind fun l =>
  some (.inr l)
  else
  some (.inr out4)) : Option (((List Int)) ⊕ ((List Int)))).bind (Sum.elim (fun q' => some (.inr q')) (t1 fun (out5 : List Int) =>
  some (.inl (out5, (i64 (p + x3))))))
  else
  some (.inr out4)

noncomputable def QB (x : salvage_finder) (i : Int) (x2 : api_Found) (out2 : List Int) (i2 : Int) : Option (((List Int) × Int) ⊕ ((List Int))) :=
  if (decide (i2 < (([(-194), 194] : List Int).length : Int))) = true then
  (((idx ([(-194), 194] : List Int) i2).bind fun x3 =>
  loop (t2 (QD x i x3)) (out2, (i64 (x2.At + x3)))) : Option (((List Int)))).bind (t1 fun (out3 : List Int) =>
  some (.inl (out3, (i64 (i2 + 1)))))
  else
  some (.inr out2)

noncomputable def QA (x : salvage_finder) (i : Int) : Option (List Int) :=
  (idx x.certain i).bind fun x2 =>
  ((loop (t2 (QB x i x2)) ([], 0)) : Option (((List Int)))).bind (t1 fun (out : List Int) =>
  some out)

noncomputable def ZZ (h_ : List Int) (at_ : Int) (f2 : Vector Int 64) (whole2 : Vector Bool 64) (i : Int) : Option (((Vector Int 64) × (Vector Bool 64) × Int) ⊕ ((Vector Int 64) × (Vector Bool 64))) :=
  if (decide (i < 64)) = true then
  if ((decide (0 ≤ (i64 (at_ + (i64 (3 * i)))))) && (decide ((i64 ((i64 (at_ + (i64 (3 * i)))) + 3)) ≤ (h_.length : Int)))) = true then
  (slc h_ (i64 (at_ + (i64 (3 * i)))) (i64 ((i64 (at_ + (i64 (3 * i)))) + 3))).bind fun l =>
  (Xh l).bind fun y =>
  (ZA f2 i).bind fun x =>
  (ZA whole2 i).bind fun x2 =>
  some (.inl ((Qb f2 i y), (Qb whole2 i true), (i64 (i + 1))))
  else
  some (.inl (f2, whole2, (i64 (i + 1))))
  else
  some (.inr (f2, whole2))

noncomputable def Xi (h_ : List Int) (at_ : Int) : Option ((Vector Int 64) × (Vector Bool 64)) :=
  ((loop (t3 (ZZ h_ at_)) ((Vector.replicate 64 0), (Vector.replicate 64 false), 0)) : Option (((Vector Int 64) × (Vector Bool 64)))).bind (t2 fun (f : Vector Int 64) (whole : Vector Bool 64) =>
  some (f, whole))

noncomputable def ZbH (f : Vector Int 64) (whole : Vector Bool 64) : Option (Int × Bool) :=
  (ZA whole 0).bind fun x =>
  (gd ((!x) == false) false (ZA whole 1)).bind fun x2 =>
  (gd (((!x) || (!x2)) == false) false (ZA whole 2)).bind fun x3 =>
  if (((!x) || (!x2)) || (!x3)) = true then
  some (0, false)
  else
  (Jj f).bind fun y =>
  (JR y.1).bind fun y2 =>
  (gd (y.2 == true) 0 (ZA f 0)).bind fun x4 =>
  some (y.1, (y.2 && (decide (x4 = (u16 y2.1)))))

noncomputable def QM (x : salvage_finder) (i : Int) (place : Int) (best2 : Int) (least : Int) (i2 : Int) : Option ((Int × Int × Int) ⊕ (Int)) :=
  if (decide (i2 < (x.certain.length : Int))) = true then
  (idx x.certain i2).bind fun x2 =>
  (gd ((decide (i2 = i)) == false) (api_Found.mk 0 (Vector.replicate 64 0)) (idx x.certain i)).bind fun x3 =>
  (gd ((decide (i2 = i)) == false) 0 (rem (i64 (x2.At - x3.At)) 194)).bind fun q =>
  if ((decide (i2 = i)) || (!decide (q = 0))) = true then
  some (.inl (best2, least, (i64 (i2 + 1))))
  else
  (J3 (i64 (x2.At - place))).bind fun y =>
  if ((decide (best2 < 0)) || (decide (y < least))) = true then
  some (.inl (i2, y, (i64 (i2 + 1))))
  else
  some (.inl (best2, least, (i64 (i2 + 1))))
  else
  some (.inr best2)

noncomputable def QP (x : salvage_finder) (i : Int) (place : Int) : Option Int :=
  ((loop (t3 (QM x i place)) ((-1), 0, 0)) : Option ((Int))).bind (t1 fun (best : Int) =>
  some best)

noncomputable def Za4 (n : Int) (low : Int) (high : Int) : Option Bool :=
  some ((decide (low ≤ n)) && (decide (n ≤ high)))

noncomputable def Q2 (x : salvage_finder) (i : Int) (place : Int) (f : Vector Int 64) (whole : Vector Bool 64) : Option (Int × Bool) :=
  (ZbH f whole).bind fun y =>
  if y.2 = true then
  some (y.1, true)
  else
  (QP x i place).bind fun y2 =>
  if (decide (y2 < 0)) = true then
  some (0, false)
  else
  (idx x.certain i).bind fun x2 =>
  (quo .i64 (i64 (place - x2.At)) 194).bind fun q =>
  (idx x.certain y2).bind fun x3 =>
  (idx x.certain i).bind fun x4 =>
  (quo .i64 (i64 (x3.At - x4.At)) 194).bind fun q2 =>
  (idx x.numbers y2).bind fun x5 =>
  (idx x.numbers i).bind fun x6 =>
  (rem (i64 (x5 - x6)) q2).bind fun q3 =>
  (gd ((!decide (q3 = 0)) == false) 0 (quo .i64 (i64 (x5 - x6)) q2)).bind fun q4 =>
  if ((!decide (q3 = 0)) || (decide (q4 ≤ 0))) = true then
  some (0, false)
  else
  (idx x.numbers i).bind fun x7 =>
  (quo .i64 (i64 (x5 - x6)) q2).bind fun q5 =>
  (Za4 (i64 (x7 + (i64 (q * q5)))) 0 4194303).bind fun y3 =>
  some ((i64 (x7 + (i64 (q * q5)))), y3)

noncomputable def Zb1 (w : Int) : Option Bool :=
  (Jb w).bind fun y =>
  some y

noncomputable def XF (w : Int) (i : Int) (number : Int) : Option Bool :=
  if (decide (i = 0)) = true then
  (JR number).bind fun y =>
  some (decide (w = (u16 y.1)))
  else
  if (decide (i = 1)) = true then
  (Zb1 w).bind fun y2 =>
  some (y2 && (decide ((i64 (Xe .u16 w 2047)) = (Xe .i64 number 2047))))
  else
  if (decide (i = 2)) = true then
  (Zb1 w).bind fun y3 =>
  (gd (y3 == true) 0 (shr .i64 number 11)).bind fun q =>
  some (y3 && (decide ((i64 (Xe .u16 w 2047)) = q)))
  else
  (Zb1 w).bind fun y4 =>
  some y4

noncomputable def Qe (s : List Int) (f : Int → Option Bool) (i : Int) : Option ((Int) ⊕ (Int) ⊕ (Unit)) :=
  if (decide (i < (s.length : Int))) = true then
  (idx s i).bind fun x =>
  (f x).bind fun y =>
  if y = true then
  some (.inr (.inl i))
  else
  some (.inl (i64 (i + 1)))
  else
  some (.inr (.inr ()))

noncomputable def Xd (s : List Int) (f : Int → Option Bool) : Option Int :=
  ((loop (t1 (Qe s f)) 0) : Option ((Int) ⊕ (Unit))).bind (Sum.elim (fun q' => some q') (t0 (some (-1))))

noncomputable def Qd (s : List Int) (f : Int → Option Bool) : Option Bool :=
  (Xd s f).bind fun y =>
  some (decide (0 ≤ y))

noncomputable def Zbw (s : Int) (c0 : Int) : Option Bool :=
  some (!decide (s = c0))

noncomputable def Jh (r_ : api_Rest) (state : Int) : Option Bool :=
  (slc r_.States.toList 0 (64 : Int)).bind fun l =>
  (Qd l (fun z0 => Zbw z0 state)).bind fun y =>
  some (!y)

noncomputable def Qm (y : (Vector Int 64) × (Vector Bool 64)) (y2 : Int × Bool) (r_2 : api_Rest) (i2 : Int) : Option ((api_Rest × Int) ⊕ (api_Rest)) :=
  if (decide (i2 < 64)) = true then
  (ZA y.1 i2).bind fun x2 =>
  (ZA y.2 i2).bind fun x3 =>
  (gd (x3 == true) false (XF x2 i2 y2.1)).bind fun y3 =>
  if (x3 && y3) = true then
  (ZA r_2.Frame i2).bind fun x4 =>
  (ZA r_2.States i2).bind fun x5 =>
  some (.inl ((api_Rest.mk r_2.Number (Qb r_2.Frame i2 x2) (Qb r_2.States i2 1) r_2.Sound r_2.Copies r_2.Conflict), (i64 (i2 + 1))))
  else
  some (.inl (r_2, (i64 (i2 + 1))))
  else
  some (.inr r_2)

noncomputable def Qp (x : salvage_finder) (i : Int) (place : Int) : Option (api_Rest × Bool) :=
  (Xi x.h_ place).bind fun y =>
  (Q2 x i place y.1 y.2).bind fun y2 =>
  if (!y2.2) = true then
  some ((api_Rest.mk 0 (Vector.replicate 64 0) (Vector.replicate 64 0) false 0 false), false)
  else
  ((loop (t2 (Qm y y2)) ((api_Rest.mk y2.1 (Vector.replicate 64 0) (Vector.replicate 64 0) false 0 false), 0)) : Option ((api_Rest))).bind (t1 fun (r_ : api_Rest) =>
  (Jh r_ 0).bind fun y4 =>
  some (r_, (!y4)))

noncomputable def ZU (s : List api_Rest) (f : api_Rest → Option Bool) (i : Int) : Option ((Int) ⊕ (Int) ⊕ (Unit)) :=
  if (decide (i < (s.length : Int))) = true then
  (idx s i).bind fun x =>
  (f x).bind fun y =>
  if y = true then
  some (.inr (.inl i))
  else
  some (.inl (i64 (i + 1)))
  else
  some (.inr (.inr ()))

noncomputable def Qk (s : List api_Rest) (f : api_Rest → Option Bool) : Option Int :=
  ((loop (t1 (ZU s f)) 0) : Option ((Int) ⊕ (Unit))).bind (Sum.elim (fun q' => some q') (t0 (some (-1))))

noncomputable def Z1 (s : List api_Rest) (f : api_Rest → Option Bool) : Option Bool :=
  (Qk s f).bind fun y =>
  some (decide (0 ≤ y))

noncomputable def Zar (r_ : api_Rest) : Option Bool :=
  some r_.Conflict

noncomputable def Qt (o2 : api_Rest) (x : api_Rest) (States : Vector Int 64) (i2 : Int) : Option (((Vector Int 64) × Int) ⊕ (api_Rest)) :=
  if (decide (i2 < 64)) = true then
  (ZA x.States i2).bind fun x2 =>
  (ZA States i2).bind fun x3 =>
  (ZA States i2).bind fun x4 =>
  some (.inl ((Qb States i2 (max x3 x2)), (i64 (i2 + 1))))
  else
  some (.inr (api_Rest.mk o2.Number x.Frame States true o2.Copies o2.Conflict))

noncomputable def XH (l : List api_Rest) (o2 : api_Rest) (i : Int) : Option ((api_Rest × Int) ⊕ (Bool × api_Rest) ⊕ (api_Rest)) :=
  if (decide (i < (l.length : Int))) = true then
  (((idx l i).bind fun x =>
  if (!x.Sound) = true then
  some (.inr o2)
  else
  if (o2.Sound && (!(decide (o2.Frame = x.Frame)))) = true then
  some (.inl (false, o2))
  else
  (loop (t2 (Qt o2 x)) (o2.States, 0)).bind (fun q' => some (.inr q'))) : Option ((Bool × api_Rest) ⊕ (api_Rest))).bind (Sum.elim (fun q' => some (.inr (.inl q'))) (t1 fun (o3 : api_Rest) =>
  some (.inl (o3, (i64 (i + 1))))))
  else
  some (.inr (.inr o2))

noncomputable def Jv (out : api_Rest) (l : List api_Rest) : Option (Bool × api_Rest) :=
  ((loop (t2 (XH l)) (out, 0)) : Option ((Bool × api_Rest) ⊕ (api_Rest))).bind (Sum.elim (fun q' => some q') (t1 fun (o : api_Rest) =>
  some (true, o)))

noncomputable def Q8 (l : List api_Rest) (i : Int) (o4 : api_Rest) (differ2 : Bool) (i2 : Int) : Option ((api_Rest × Bool × Int) ⊕ (api_Rest × Bool)) :=
  if (decide (i2 < (l.length : Int))) = true then
  (idx l i2).bind fun x =>
  (ZA x.States i).bind fun x2 =>
  if (decide (x2 = 0)) = true then
  some (.inl (o4, differ2, (i64 (i2 + 1))))
  else
  (gd (differ2 == false) 0 (ZA o4.States i)).bind fun x3 =>
  (gd ((differ2 == false) && ((!decide (x3 = 0)) == true)) 0 (ZA o4.Frame i)).bind fun x4 =>
  (gd ((differ2 == false) && ((!decide (x3 = 0)) == true)) 0 (ZA x.Frame i)).bind fun x5 =>
  (ZA o4.States i).bind fun x6 =>
  (ZA x.Frame i).bind fun x7 =>
  (ZA o4.Frame i).bind fun x8 =>
  some (.inl ((api_Rest.mk o4.Number (Qb o4.Frame i x7) (Qb o4.States i 1) o4.Sound o4.Copies o4.Conflict), (differ2 || ((!decide (x3 = 0)) && (!decide (x4 = x5)))), (i64 (i2 + 1))))
  else
  some (.inr (o4, differ2))

noncomputable def XD (l : List api_Rest) (o : api_Rest) (i : Int) : Option ((api_Rest × Int) ⊕ (api_Rest)) :=
  if (decide (i < 64)) = true then
  ((((loop (t3 (Q8 l i)) (o, false, 0)) : Option ((api_Rest × Bool))).bind (t2 fun (o3 : api_Rest) (differ : Bool) =>
  if differ = true then
  (ZA o3.States i).bind fun x9 =>
  (ZA o3.Frame i).bind fun x10 =>
  some (api_Rest.mk o3.Number (Qb o3.Frame i 0) (Qb o3.States i 0) o3.Sound o3.Copies o3.Conflict)
  else
  some o3)) : Option ((api_Rest))).bind (t1 fun (o2 : api_Rest) =>
  some (.inl (o2, (i64 (i + 1)))))
  else
  some (.inr o)

noncomputable def Zas (out : api_Rest) (l : List api_Rest) : Option api_Rest :=
  loop (t2 (XD l)) (out, 0)

noncomputable def Za1 (s : Int) (c0 : Int) (c1 : Int) : Option Bool :=
  some ((decide (s = c0)) || (decide (s = c1)))

noncomputable def Zbd (r_ : api_Rest) (a : Int) (b : Int) : Option Bool :=
  (slc r_.States.toList 0 (64 : Int)).bind fun l =>
  (Qd l (fun z0 => Za1 z0 a b)).bind fun y =>
  some y

noncomputable def Xn (f : Vector Int 64) (number : Int) : Option Bool :=
  (Jj f).bind fun y =>
  (ZaO f).bind fun y2 =>
  some (y2 && (decide (y.1 = number)))

noncomputable def Xy (l : List api_Rest) (Copies2 : Int) (i : Int) : Option ((Int × Int) ⊕ (Int)) :=
  if (decide (i < (l.length : Int))) = true then
  (idx l i).bind fun x2 =>
  some (.inl ((i64 (Copies2 + x2.Copies)), (i64 (i + 1))))
  else
  some (.inr Copies2)

noncomputable def X2 (l : List api_Rest) : Option api_Rest :=
  (idx l 0).bind fun x =>
  ((loop (t2 (Xy l)) (0, 0)) : Option ((Int))).bind (t1 fun (Copies : Int) =>
  (Z1 l (fun z0 => Zar z0)).bind fun y =>
  (Jv (api_Rest.mk x.Number (Vector.replicate 64 0) (Vector.replicate 64 0) false Copies false) l).bind fun y2 =>
  if (y || (!y2.1)) = true then
  some (api_Rest.mk y2.2.Number (Vector.replicate 64 0) (Vector.replicate 64 0) false y2.2.Copies true)
  else
  ((if (!y2.2.Sound) = true then
  (Zas y2.2 l).bind fun y3 =>
  (Zbd y3 0 0).bind fun y4 =>
  (gd ((!y4) == true) false (Xn y3.Frame y3.Number)).bind fun y5 =>
  if ((!y4) && y5) = true then
  (XI 3).bind fun y6 =>
  some (api_Rest.mk y3.Number y3.Frame y6 true 1 y3.Conflict)
  else
  some y3
  else
  some y2.2) : Option ((api_Rest))).bind (t1 fun (out : api_Rest) =>
  (gd (out.Sound == true) false (Jh out 3)).bind fun y7 =>
  if (out.Sound && y7) = true then
  some (api_Rest.mk out.Number out.Frame out.States out.Sound (max out.Copies 1) out.Conflict)
  else
  some out))

noncomputable def Q7 (l : List api_Rest) (groups2 : List (Int × (List api_Rest))) (numbers2 : List Int) (i : Int) : Option (((List (Int × (List api_Rest))) × (List Int) × Int) ⊕ ((List (Int × (List api_Rest))) × (List Int))) :=
  if (decide (i < (l.length : Int))) = true then
  (((idx l i).bind fun x =>
  (((some (Zht (ZaP kqI groups2 x.Number))).bind (Sum.elim (fun z =>
  if true = true then
  (app numbers2 ([x.Number] : List Int)).bind fun l2 =>
  some l2
  else
  none) (fun z =>
  (ck (decide (0 < z.length))).bind fun u =>
  if false = true then
  none
  else
  some numbers2))) : Option (((List Int)))).bind (t1 fun (numbers4 : List Int) =>
  (some (Zht (ZaP kqI groups2 x.Number))).bind (Sum.elim (fun z2 =>
  (app [] ([x] : List api_Rest)).bind fun l3 =>
  some ((ZV kqI groups2 x.Number l3), numbers4)) (fun z2 =>
  (app z2 ([x] : List api_Rest)).bind fun l4 =>
  some ((ZV kqI groups2 x.Number l4), numbers4))))) : Option (((List (Int × (List api_Rest))) × (List Int)))).bind (t2 fun (groups3 : List (Int × (List api_Rest))) (numbers3 : List Int) =>
  some (.inl (groups3, numbers3, (i64 (i + 1)))))
  else
  some (.inr (groups2, numbers2))

noncomputable def Q5 (groups : List (Int × (List api_Rest))) (y : List Int) (out2 : List api_Rest) (i2 : Int) : Option (((List api_Rest) × Int) ⊕ ((List api_Rest))) :=
  if (decide (i2 < (y.length : Int))) = true then
  (idx y i2).bind fun x2 =>
  (some (Zht (ZaP kqI groups x2))).bind (Sum.elim (fun z3 =>
  (X2 []).bind fun y2 =>
  (app out2 ([y2] : List api_Rest)).bind fun l5 =>
  some (.inl (l5, (i64 (i2 + 1))))) (fun z3 =>
  (X2 z3).bind fun y3 =>
  (app out2 ([y3] : List api_Rest)).bind fun l6 =>
  some (.inl (l6, (i64 (i2 + 1))))))
  else
  some (.inr out2)

noncomputable def QH (l : List api_Rest) : Option (List api_Rest) :=
  ((loop (t3 (Q7 l)) (([] : List (Int × (List api_Rest))), [], 0)) : Option (((List (Int × (List api_Rest))) × (List Int)))).bind (t2 fun (groups : List (Int × (List api_Rest))) (numbers : List Int) =>
  (Zf1 numbers).bind fun y =>
  ((loop (t2 (Q5 groups y)) ([], 0)) : Option (((List api_Rest)))).bind (t1 fun (out : List api_Rest) =>
  some out))

noncomputable def XA (y : salvage_finder) (i : Int) (y3 : (List Int)) (l5 : List api_Rest) (i2 : Int) : Option (((List api_Rest) × Int) ⊕ ((List api_Rest))) :=
  if (decide (i2 < (y3.length : Int))) = true then
  (idx y3 i2).bind fun x3 =>
  (Qp y i x3).bind fun y4 =>
  if y4.2 = true then
  (app l5 ([y4.1] : List api_Rest)).bind fun l6 =>
  some (.inl (l6, (i64 (i2 + 1))))
  else
  some (.inl (l5, (i64 (i2 + 1))))
  else
  some (.inr l5)

noncomputable def Xx (y : salvage_finder) (l2 : List api_Rest) (i : Int) : Option (((List api_Rest) × Int) ⊕ ((List api_Rest))) :=
  if (decide (i < (y.certain.length : Int))) = true then
  (((idx y.certain i).bind fun x =>
  (idx y.numbers i).bind fun x2 =>
  (XI 3).bind fun y2 =>
  (app l2 ([(api_Rest.mk x2 x.Frame y2 true 1 false)] : List api_Rest)).bind fun l4 =>
  (QA y i).bind fun y3 =>
  loop (t2 (XA y i y3)) (l4, 0)) : Option (((List api_Rest)))).bind (t1 fun (l3 : List api_Rest) =>
  some (.inl (l3, (i64 (i + 1)))))
  else
  some (.inr l2)

noncomputable def X1 (h_ : List Int) : Option (List api_Rest) :=
  (XT h_).bind fun y =>
  ((loop (t2 (Xx y)) ([], 0)) : Option (((List api_Rest)))).bind (t1 fun (l : List api_Rest) =>
  (QH l).bind fun y5 =>
  some y5)

noncomputable def Xp (p : api_Piece) : Option Int :=
  if (decide (200000 < (p.Bytes.length : Int))) = true then
  some 3
  else
  (gd ((p.Half == true) && ((decide ((p.Bytes.length : Int) = 0)) == false)) 0 (idx p.Bytes 0)).bind fun x =>
  if (p.Half && ((decide ((p.Bytes.length : Int) = 0)) || (decide (15 < x)))) = true then
  some 2
  else
  some 0

noncomputable def JT (p : api_Piece) (out2 : List Int) (i : Int) : Option (((List Int) × Int) ⊕ ((List Int))) :=
  if (decide (i < (p.Bytes.length : Int))) = true then
  (idx p.Bytes i).bind fun x =>
  ((if ((decide (0 < i)) || (!p.Half)) = true then
  (quo .u8 x 16).bind fun q =>
  (app out2 ([q] : List Int)).bind fun l =>
  some l
  else
  some out2) : Option (((List Int)))).bind (t1 fun (out3 : List Int) =>
  (rem x 16).bind fun q2 =>
  (app out3 ([q2] : List Int)).bind fun l2 =>
  some (.inl (l2, (i64 (i + 1)))))
  else
  some (.inr out2)

noncomputable def XQ (p : api_Piece) : Option (List Int) :=
  ((loop (t2 (JT p)) ([], 0)) : Option (((List Int)))).bind (t1 fun (out : List Int) =>
  some out)

noncomputable def QY (h_ : List Int) (at_ : Int) (f2 : Vector Int 64) (whole2 : Vector Bool 64) (i : Int) : Option (((Vector Int 64) × (Vector Bool 64) × Int) ⊕ ((Vector Int 64) × (Vector Bool 64))) :=
  if (decide (i < 64)) = true then
  if ((decide ((i64 (at_ + (i64 (3 * i)))) < 0)) || (decide ((h_.length : Int) < (i64 ((i64 (at_ + (i64 (3 * i)))) + 3))))) = true then
  some (.inl (f2, whole2, (i64 (i + 1))))
  else
  (ZA whole2 i).bind fun x =>
  (idx h_ (i64 (at_ + (i64 (3 * i))))).bind fun x2 =>
  (idx h_ (i64 ((i64 (at_ + (i64 (3 * i)))) + 1))).bind fun x3 =>
  (idx h_ (i64 ((i64 (at_ + (i64 (3 * i)))) + 2))).bind fun x4 =>
  (ZA f2 i).bind fun x5 =>
  some (.inl ((Qb f2 i (u16 ((u16 ((u16 ((u16 x2) * 256)) + (u16 ((u16 x3) * 16)))) + (u16 x4)))), (Qb whole2 i true), (i64 (i + 1))))
  else
  some (.inr (f2, whole2))

noncomputable def Jm (h_ : List Int) (at_ : Int) : Option ((Vector Int 64) × (Vector Bool 64)) :=
  ((loop (t3 (QY h_ at_)) ((#v[0, 0, 0, 0, 0, 0, 0, 0, 0, 0, 0, 0, 0, 0, 0, 0, 0, 0, 0, 0, 0, 0, 0, 0, 0, 0, 0, 0, 0, 0, 0, 0, 0, 0, 0, 0, 0, 0, 0, 0, 0, 0, 0, 0, 0, 0, 0, 0, 0, 0, 0, 0, 0, 0, 0, 0, 0, 0, 0, 0, 0, 0, 0, 0] : Vector Int 64), (#v[false, false, false, false, false, false, false, false, false, false, false, false, false, false, false, false, false, false, false, false, false, false, false, false, false, false, false, false, false, false, false, false, false, false, false, false, false, false, false, false, false, false, false, false, false, false, false, false, false, false, false, false, false, false, false, false, false, false, false, false, false, false, false, false] : Vector Bool 64), 0)) : Option (((Vector Int 64) × (Vector Bool 64)))).bind (t2 fun (f : Vector Int 64) (whole : Vector Bool 64) =>
  some (f, whole))

noncomputable def X4 (f : Vector Int 64) : Option Int :=
  (ZA f 1).bind fun x =>
  (rem (i64 x) 2048).bind fun q =>
  (ZA f 2).bind fun x2 =>
  (rem (i64 x2) 2048).bind fun q2 =>
  some (i64 (q + (i64 (q2 * 2048))))

noncomputable def JX (number : Int) : Option Int :=
  (rem number 4).bind fun q =>
  (ZA (#v[583, 1464, 2631, 3512] : Vector Int 4) q).bind fun x =>
  some x

noncomputable def ZcJ (n2 : Int) (ones2 : Int) : Option ((Int × Int) ⊕ (Int)) :=
  if (decide (0 < n2)) = true then
  (rem n2 2).bind fun q =>
  (quo .i64 n2 2).bind fun q2 =>
  some (.inl (q2, (i64 (ones2 + q))))
  else
  some (.inr ones2)

noncomputable def Zbb (n : Int) : Option Bool :=
  ((loop (t2 (ZcJ)) (n, 0)) : Option ((Int))).bind (t1 fun (ones : Int) =>
  (rem ones 2).bind fun q3 =>
  some (decide (q3 = 1)))

noncomputable def ZbD (f : Vector Int 64) (x2 : Int) (i : Int) : Option ((Int × Int) ⊕ (Int)) :=
  if (decide (i ≤ 60)) = true then
  (ZA f i).bind fun x3 =>
  (rem (i64 x3) 2048).bind fun q =>
  some (.inl ((ZbP .i64 x2 q), (i64 (i + 1))))
  else
  some (.inr x2)

noncomputable def Zcs (f : Vector Int 64) : Option Int :=
  ((loop (t2 (ZbD f)) (0, 1)) : Option ((Int))).bind (t1 fun (x : Int) =>
  some x)

noncomputable def Zaf (f : Vector Int 64) (rest2 : Int) (i : Int) : Option ((Int × Int) ⊕ (Int)) :=
  if (decide (i < 766)) = true then
  ((if (decide (i < 744)) = true then
  (quo .i64 i 12).bind fun q =>
  (ZA f q).bind fun x =>
  (rem i 12).bind fun q2 =>
  (shr .i64 (i64 x) (i64 (11 - q2))).bind fun q3 =>
  some (Xe .i64 q3 1)
  else
  some 0) : Option ((Int))).bind (t1 fun (bit : Int) =>
  if (decide (4194304 ≤ (i64 ((i64 (rest2 * 2)) + bit)))) = true then
  some (.inl ((ZbP .i64 (i64 ((i64 (rest2 * 2)) + bit)) 6291471), (i64 (i + 1))))
  else
  some (.inl ((i64 ((i64 (rest2 * 2)) + bit)), (i64 (i + 1)))))
  else
  some (.inr rest2)

noncomputable def ZaC (f : Vector Int 64) : Option Int :=
  ((loop (t2 (Zaf f)) (0, 0)) : Option ((Int))).bind (t1 fun (rest : Int) =>
  some rest)

noncomputable def Zaj (f : Vector Int 64) (out2 : List api_Flaw) (i : Int) : Option (((List api_Flaw) × Int) ⊕ ((List api_Flaw))) :=
  if (decide (i < 64)) = true then
  (ZA f i).bind fun x =>
  if (decide (4095 < x)) = true then
  (app out2 ([(api_Flaw.mk i 5)] : List api_Flaw)).bind fun l =>
  some (.inl (l, (i64 (i + 1))))
  else
  some (.inl (out2, (i64 (i + 1))))
  else
  some (.inr out2)

noncomputable def Zan (f : Vector Int 64) (out5 : List api_Flaw) (i2 : Int) : Option (((List api_Flaw) × Int) ⊕ ((List api_Flaw))) :=
  if (decide (i2 < 64)) = true then
  (ZA f i2).bind fun x3 =>
  (Zbb (i64 x3)).bind fun y3 =>
  if (!y3) = true then
  (app out5 ([(api_Flaw.mk i2 2)] : List api_Flaw)).bind fun l3 =>
  some (.inl (l3, (i64 (i2 + 1))))
  else
  some (.inl (out5, (i64 (i2 + 1))))
  else
  some (.inr out5)

noncomputable def Zcn (f : Vector Int 64) : Option (List api_Flaw) :=
  ((loop (t2 (Zaj f)) ([], 0)) : Option (((List api_Flaw)))).bind (t1 fun (out : List api_Flaw) =>
  if (decide (0 < (out.length : Int))) = true then
  some out
  else
  (((ZA f 0).bind fun x2 =>
  (X4 f).bind fun y =>
  (JX y).bind fun y2 =>
  if (!decide ((i64 x2) = y2)) = true then
  (app out ([(api_Flaw.mk 0 1)] : List api_Flaw)).bind fun l2 =>
  some l2
  else
  some out) : Option (((List api_Flaw)))).bind (t1 fun (out3 : List api_Flaw) =>
  ((loop (t2 (Zan f)) (out3, 1)) : Option (((List api_Flaw)))).bind (t1 fun (out4 : List api_Flaw) =>
  (((ZA f 61).bind fun x4 =>
  (rem (i64 x4) 2048).bind fun q =>
  (Zcs f).bind fun y4 =>
  if (!decide (q = y4)) = true then
  (app out4 ([(api_Flaw.mk 61 3)] : List api_Flaw)).bind fun l4 =>
  some l4
  else
  some out4) : Option (((List api_Flaw)))).bind (t1 fun (out6 : List api_Flaw) =>
  (ZA f 62).bind fun x5 =>
  (rem (i64 x5) 2048).bind fun q2 =>
  (ZA f 63).bind fun x6 =>
  (rem (i64 x6) 2048).bind fun q3 =>
  (ZaC f).bind fun y5 =>
  if (!decide ((i64 ((i64 (q2 * 2048)) + q3)) = y5)) = true then
  (app out6 ([(api_Flaw.mk 62 4)] : List api_Flaw)).bind fun l5 =>
  some l5
  else
  some out6))))

noncomputable def JL (f : Vector Int 64) : Option Bool :=
  (Zcn f).bind fun y =>
  some (decide ((y.length : Int) = 0))

noncomputable def Zbh (h_ : List Int) (out2 : List api_Found) (at_ : Int) : Option (((List api_Found) × Int) ⊕ ((List api_Found))) :=
  if (decide ((i64 (at_ + 192)) ≤ (h_.length : Int))) = true then
  (((idx h_ at_).bind fun x =>
  (idx h_ (i64 (at_ + 1))).bind fun x2 =>
  (idx h_ (i64 (at_ + 2))).bind fun x3 =>
  if ((((!decide ((i64 ((i64 ((i64 ((i64 x) * 256)) + (i64 ((i64 x2) * 16)))) + (i64 x3))) = 583)) && (!decide ((i64 ((i64 ((i64 ((i64 x) * 256)) + (i64 ((i64 x2) * 16)))) + (i64 x3))) = 1464))) && (!decide ((i64 ((i64 ((i64 ((i64 x) * 256)) + (i64 ((i64 x2) * 16)))) + (i64 x3))) = 2631))) && (!decide ((i64 ((i64 ((i64 ((i64 x) * 256)) + (i64 ((i64 x2) * 16)))) + (i64 x3))) = 3512))) = true then
  some out2
  else
  (Jm h_ at_).bind fun y =>
  (JL y.1).bind fun y2 =>
  if y2 = true then
  (app out2 ([(api_Found.mk at_ y.1)] : List api_Found)).bind fun l =>
  some l
  else
  some out2) : Option (((List api_Found)))).bind (t1 fun (out3 : List api_Found) =>
  some (.inl (out3, (i64 (at_ + 1)))))
  else
  some (.inr out2)

noncomputable def Zb6 (h_ : List Int) : Option (List api_Found) :=
  ((loop (t2 (Zbh h_)) ([], 0)) : Option (((List api_Found)))).bind (t1 fun (out : List api_Found) =>
  some out)

noncomputable def Qu (a : Int) (b : Int) : Option Int :=
  if (decide (a < b)) = true then
  some (i64 (b - a))
  else
  some (i64 (a - b))

noncomputable def XO (l : List api_Found) (out2 : List api_Found) (i : Int) : Option (((List api_Found) × Int) ⊕ ((List api_Found))) :=
  if (decide (i < (l.length : Int))) = true then
  (idx l i).bind fun x =>
  (gd ((decide (i = 0)) == false) (api_Found.mk 0 (Vector.replicate 64 0)) (idx l (i64 (i - 1)))).bind fun x2 =>
  (gd ((decide (i = 0)) == false) 0 (Qu x2.At x.At)).bind fun y =>
  (gd ((((decide (i = 0)) || (decide (192 ≤ y))) == true) && ((decide ((i64 (i + 1)) = (l.length : Int))) == false)) (api_Found.mk 0 (Vector.replicate 64 0)) (idx l (i64 (i + 1)))).bind fun x3 =>
  (gd ((((decide (i = 0)) || (decide (192 ≤ y))) == true) && ((decide ((i64 (i + 1)) = (l.length : Int))) == false)) 0 (Qu x3.At x.At)).bind fun y2 =>
  if (((decide (i = 0)) || (decide (192 ≤ y))) && ((decide ((i64 (i + 1)) = (l.length : Int))) || (decide (192 ≤ y2)))) = true then
  (app out2 ([x] : List api_Found)).bind fun l2 =>
  some (.inl (l2, (i64 (i + 1))))
  else
  some (.inl (out2, (i64 (i + 1))))
  else
  some (.inr out2)

noncomputable def J9 (l : List api_Found) : Option (List api_Found) :=
  ((loop (t2 (XO l)) ([], 0)) : Option (((List api_Found)))).bind (t1 fun (out : List api_Found) =>
  some out)

noncomputable def JN (w : Int) : Option Bool :=
  (gd ((decide (w ≤ 4095)) == true) false (Zbb (i64 w))).bind fun y =>
  some ((decide (w ≤ 4095)) && y)

noncomputable def ZcG (f : Vector Int 64) : Option (Int × Bool) :=
  (ZA f 1).bind fun x =>
  (JN x).bind fun y =>
  (gd ((!y) == false) 0 (ZA f 2)).bind fun x2 =>
  (gd ((!y) == false) false (JN x2)).bind fun y2 =>
  if ((!y) || (!y2)) = true then
  some (0, false)
  else
  (X4 f).bind fun y3 =>
  some (y3, true)

noncomputable def XR (f : Vector Int 64) : Option Int :=
  (ZcG f).bind fun y =>
  some y.1

noncomputable def Zat (l : List api_Found) (at_ : Int) (best2 : Int) (i : Int) : Option ((Int × Int) ⊕ (Int)) :=
  if (decide (i < (l.length : Int))) = true then
  (idx l i).bind fun x =>
  (gd ((decide (best2 < 0)) == false) 0 (Qu x.At at_)).bind fun y =>
  (gd ((decide (best2 < 0)) == false) (api_Found.mk 0 (Vector.replicate 64 0)) (idx l best2)).bind fun x2 =>
  (gd ((decide (best2 < 0)) == false) 0 (Qu x2.At at_)).bind fun y2 =>
  if ((decide (best2 < 0)) || (decide (y < y2))) = true then
  some (.inl (i, (i64 (i + 1))))
  else
  some (.inl (best2, (i64 (i + 1))))
  else
  some (.inr best2)

noncomputable def ZbY (l : List api_Found) (at_ : Int) : Option Int :=
  ((loop (t2 (Zat l at_)) ((-1), 0)) : Option ((Int))).bind (t1 fun (best : Int) =>
  some best)

noncomputable def Zb4 (number : Int) : Option (Int × Int) :=
  if ((decide (number < 0)) || (decide (4194304 ≤ number))) = true then
  some (0, 9)
  else
  (JX number).bind fun y =>
  some (y, 0)

noncomputable def Zba (f : Vector Int 64) (whole : Vector Bool 64) : Option (Int × Bool) :=
  (ZA whole 0).bind fun x =>
  (gd ((!x) == false) false (ZA whole 1)).bind fun x2 =>
  (gd (((!x) || (!x2)) == false) false (ZA whole 2)).bind fun x3 =>
  if (((!x) || (!x2)) || (!x3)) = true then
  some (0, false)
  else
  (ZcG f).bind fun y =>
  if (!y.2) = true then
  some (0, false)
  else
  (Zb4 y.1).bind fun y2 =>
  (ZA f 0).bind fun x4 =>
  some (y.1, (decide ((i64 x4) = y2.1)))

noncomputable def Xs (l : List api_Found) (c_ : Int) (at_ : Int) (best2 : Int) (i : Int) : Option ((Int × Int) ⊕ (Int)) :=
  if (decide (i < (l.length : Int))) = true then
  (idx l i).bind fun x =>
  (gd ((decide (i = c_)) == false) (api_Found.mk 0 (Vector.replicate 64 0)) (idx l c_)).bind fun x2 =>
  (gd ((decide (i = c_)) == false) 0 (rem (i64 (x.At - x2.At)) 194)).bind fun q =>
  if ((decide (i = c_)) || (!decide (q = 0))) = true then
  some (.inl (best2, (i64 (i + 1))))
  else
  (gd ((decide (best2 < 0)) == false) 0 (Qu x.At at_)).bind fun y =>
  (gd ((decide (best2 < 0)) == false) (api_Found.mk 0 (Vector.replicate 64 0)) (idx l best2)).bind fun x3 =>
  (gd ((decide (best2 < 0)) == false) 0 (Qu x3.At at_)).bind fun y2 =>
  if ((decide (best2 < 0)) || (decide (y < y2))) = true then
  some (.inl (i, (i64 (i + 1))))
  else
  some (.inl (best2, (i64 (i + 1))))
  else
  some (.inr best2)

noncomputable def J6 (l : List api_Found) (c_ : Int) (at_ : Int) : Option (Int × Bool) :=
  ((loop (t2 (Xs l c_ at_)) ((-1), 0)) : Option ((Int))).bind (t1 fun (best : Int) =>
  if (decide (best < 0)) = true then
  some (0, false)
  else
  (idx l c_).bind fun x4 =>
  (quo .i64 (i64 (at_ - x4.At)) 194).bind fun q2 =>
  (idx l best).bind fun x5 =>
  (idx l c_).bind fun x6 =>
  (quo .i64 (i64 (x5.At - x6.At)) 194).bind fun q3 =>
  (idx l c_).bind fun x7 =>
  (XR x7.Frame).bind fun y3 =>
  (idx l best).bind fun x8 =>
  (XR x8.Frame).bind fun y4 =>
  (idx l c_).bind fun x9 =>
  (XR x9.Frame).bind fun y5 =>
  (gd (((decide ((i64 (y4 - y5)) = 0)) || (!((decide (0 < (i64 (y4 - y5)))) == (decide (0 < q3))))) == false) 0 (rem (i64 (y4 - y5)) q3)).bind fun q4 =>
  if (((decide ((i64 (y4 - y5)) = 0)) || (!((decide (0 < (i64 (y4 - y5)))) == (decide (0 < q3))))) || (!decide (q4 = 0))) = true then
  some (0, false)
  else
  (quo .i64 (i64 (y4 - y5)) q3).bind fun q5 =>
  some ((i64 (y3 + (i64 (q2 * q5)))), ((decide (0 ≤ (i64 (y3 + (i64 (q2 * q5)))))) && (decide ((i64 (y3 + (i64 (q2 * q5)))) < 4194304)))))

noncomputable def ZaQ (f : Vector Int 64) (whole : Vector Bool 64) (n : Int) (y : Int × Int) (r_2 : api_Rest) (i : Int) : Option ((api_Rest × Int) ⊕ (api_Rest)) :=
  if (decide (i < 64)) = true then
  (ZA whole i).bind fun x =>
  (gd (x == true) 0 (ZA f i)).bind fun x2 =>
  (gd (x == true) false (JN x2)).bind fun y2 =>
  ((if (decide (i = 0)) = true then
  (ZA whole i).bind fun x3 =>
  (gd (x3 == true) 0 (ZA f i)).bind fun x4 =>
  some (x3 && (decide ((i64 x4) = y.1)))
  else
  if (decide (i = 1)) = true then
  (gd ((x && y2) == true) 0 (ZA f i)).bind fun x5 =>
  (gd ((x && y2) == true) 0 (rem (i64 x5) 2048)).bind fun q =>
  (gd ((x && y2) == true) 0 (rem n 2048)).bind fun q2 =>
  some ((x && y2) && (decide (q = q2)))
  else
  if (decide (i = 2)) = true then
  (gd ((x && y2) == true) 0 (ZA f i)).bind fun x6 =>
  (gd ((x && y2) == true) 0 (rem (i64 x6) 2048)).bind fun q3 =>
  (gd ((x && y2) == true) 0 (quo .i64 n 2048)).bind fun q4 =>
  some ((x && y2) && (decide (q3 = q4)))
  else
  some (x && y2)) : Option ((Bool))).bind (t1 fun (right : Bool) =>
  if right = true then
  (ZA f i).bind fun x7 =>
  (ZA r_2.Frame i).bind fun x8 =>
  (ZA r_2.States i).bind fun x9 =>
  some (.inl ((api_Rest.mk r_2.Number (Qb r_2.Frame i x7) (Qb r_2.States i 1) r_2.Sound r_2.Copies r_2.Conflict), (i64 (i + 1))))
  else
  some (.inl (r_2, (i64 (i + 1)))))
  else
  some (.inr r_2)

noncomputable def ZaH (f : Vector Int 64) (whole : Vector Bool 64) (n : Int) : Option api_Rest :=
  (Zb4 n).bind fun y =>
  ((loop (t2 (ZaQ f whole n y)) ((api_Rest.mk n (Vector.replicate 64 0) (Vector.replicate 64 0) false 0 false), 0)) : Option ((api_Rest))).bind (t1 fun (r_ : api_Rest) =>
  some r_)

noncomputable def JO (r_ : api_Rest) : Option Bool :=
  some (decide (r_.States = (#v[0, 0, 0, 0, 0, 0, 0, 0, 0, 0, 0, 0, 0, 0, 0, 0, 0, 0, 0, 0, 0, 0, 0, 0, 0, 0, 0, 0, 0, 0, 0, 0, 0, 0, 0, 0, 0, 0, 0, 0, 0, 0, 0, 0, 0, 0, 0, 0, 0, 0, 0, 0, 0, 0, 0, 0, 0, 0, 0, 0, 0, 0, 0, 0] : Vector Int 64)))

noncomputable def Zae (States2 : Vector Int 64) (i2 : Int) : Option (((Vector Int 64) × Int) ⊕ ((Vector Int 64))) :=
  if (decide (i2 < 64)) = true then
  (ZA States2 i2).bind fun x2 =>
  some (.inl ((Qb States2 i2 3), (i64 (i2 + 1))))
  else
  some (.inr States2)

noncomputable def Zbv (y2 : (List api_Found)) (out2 : List api_Rest) (i : Int) : Option (((List api_Rest) × Int) ⊕ ((List api_Rest))) :=
  if (decide (i < (y2.length : Int))) = true then
  (idx y2 i).bind fun x =>
  (XR x.Frame).bind fun y3 =>
  ((loop (t2 (Zae)) ((Vector.replicate 64 0), 0)) : Option (((Vector Int 64)))).bind (t1 fun (States : Vector Int 64) =>
  (app out2 ([(api_Rest.mk y3 x.Frame States true 1 false)] : List api_Rest)).bind fun l =>
  some (.inl (l, (i64 (i + 1)))))
  else
  some (.inr out2)

noncomputable def Zbu (h_ : List Int) (y2 : (List api_Found)) (i3 : Int) (out6 : List api_Rest) (at_ : Int) : Option (((List api_Rest) × Int) ⊕ ((List api_Rest))) :=
  if (decide (at_ < (h_.length : Int))) = true then
  (((gd ((decide (at_ < (-191))) == false) 0 (ZbY y2 at_)).bind fun y4 =>
  (gd (((decide (at_ < (-191))) || (!decide (y4 = i3))) == false) 0 (ZbY y2 at_)).bind fun y5 =>
  (gd (((decide (at_ < (-191))) || (!decide (y4 = i3))) == false) (api_Found.mk 0 (Vector.replicate 64 0)) (idx y2 y5)).bind fun x4 =>
  (gd (((decide (at_ < (-191))) || (!decide (y4 = i3))) == false) 0 (Qu x4.At at_)).bind fun y6 =>
  if (((decide (at_ < (-191))) || (!decide (y4 = i3))) || (decide (y6 < 192))) = true then
  some out6
  else
  (Jm h_ at_).bind fun y7 =>
  (Zba y7.1 y7.2).bind fun y8 =>
  ((if (!y8.2) = true then
  (J6 y2 i3 at_).bind fun y9 =>
  some (y9.1, y9.2)
  else
  some (y8.1, y8.2)) : Option ((Int × Bool))).bind (t2 fun (n : Int) (ok : Bool) =>
  (ZaH y7.1 y7.2 n).bind fun y10 =>
  (gd (ok == true) false (JO y10)).bind fun y11 =>
  if (ok && (!y11)) = true then
  (app out6 ([y10] : List api_Rest)).bind fun l2 =>
  some l2
  else
  some out6)) : Option (((List api_Rest)))).bind (t1 fun (out7 : List api_Rest) =>
  some (.inl (out7, (i64 (at_ + 194)))))
  else
  some (.inr out6)

noncomputable def Zbx (h_ : List Int) (y2 : (List api_Found)) (out4 : List api_Rest) (i3 : Int) : Option (((List api_Rest) × Int) ⊕ ((List api_Rest))) :=
  if (decide (i3 < (y2.length : Int))) = true then
  (((idx y2 i3).bind fun x3 =>
  (quo .i64 x3.At 194).bind fun q =>
  loop (t2 (Zbu h_ y2 i3)) (out4, (i64 ((i64 (x3.At - (i64 (q * 194)))) - 194)))) : Option (((List api_Rest)))).bind (t1 fun (out5 : List api_Rest) =>
  some (.inl (out5, (i64 (i3 + 1)))))
  else
  some (.inr out4)

noncomputable def Zco (h_ : List Int) : Option (List api_Rest) :=
  (Zb6 h_).bind fun y =>
  (J9 y).bind fun y2 =>
  ((loop (t2 (Zbv y2)) ([], 0)) : Option (((List api_Rest)))).bind (t1 fun (out : List api_Rest) =>
  ((loop (t2 (Zbx h_ y2)) (out, 0)) : Option (((List api_Rest)))).bind (t1 fun (out3 : List api_Rest) =>
  some out3))

noncomputable def Jt (r_ : api_Rest) (i : Int) : Option ((Int) ⊕ (Bool) ⊕ (Unit)) :=
  if (decide (i < 64)) = true then
  (ZA r_.States i).bind fun x =>
  if (!decide (x = 3)) = true then
  some (.inr (.inl false))
  else
  some (.inl (i64 (i + 1)))
  else
  some (.inr (.inr ()))

noncomputable def Zdb (r_ : api_Rest) : Option Bool :=
  ((loop (t1 (Jt r_)) 0) : Option ((Bool) ⊕ (Unit))).bind (Sum.elim (fun q' => some q') (t0 (some true)))

noncomputable def ZaW (l : List api_Rest) (i : Int) (w2 : Int) (some_2 : Bool) (i2 : Int) : Option ((Int × Bool × Int) ⊕ (Int × Bool) ⊕ (Int × Bool)) :=
  if (decide (i2 < (l.length : Int))) = true then
  (idx l i2).bind fun x =>
  (ZA x.States i).bind fun x2 =>
  if (decide (x2 = 0)) = true then
  some (.inl (w2, some_2, (i64 (i2 + 1))))
  else
  (gd (some_2 == true) 0 (ZA x.Frame i)).bind fun x3 =>
  if (some_2 && (!decide (w2 = x3))) = true then
  some (.inr (.inl (0, false)))
  else
  (ZA x.Frame i).bind fun x4 =>
  some (.inl (x4, true, (i64 (i2 + 1))))
  else
  some (.inr (.inr (w2, some_2)))

noncomputable def ZdD (l : List api_Rest) (i : Int) : Option (Int × Bool) :=
  ((loop (t3 (ZaW l i)) (0, false, 0)) : Option ((Int × Bool) ⊕ (Int × Bool))).bind (Sum.elim (fun q' => some q') (t2 fun (w : Int) (some_ : Bool) =>
  some (w, some_)))

noncomputable def Jy (out2 : api_Rest) (x2 : api_Rest) (Conflict : Bool) (States : Vector Int 64) (i2 : Int) : Option (((Vector Int 64) × Int) ⊕ (api_Rest)) :=
  if (decide (i2 < 64)) = true then
  (ZA x2.States i2).bind fun x3 =>
  (ZA States i2).bind fun x4 =>
  (ZA States i2).bind fun x5 =>
  some (.inl ((Qb States i2 (max x4 x3)), (i64 (i2 + 1))))
  else
  some (.inr (api_Rest.mk out2.Number x2.Frame States true (i64 (out2.Copies + x2.Copies)) Conflict))

noncomputable def Zah (l : List api_Rest) (out2 : api_Rest) (i : Int) : Option ((api_Rest × Int) ⊕ (api_Rest)) :=
  if (decide (i < (l.length : Int))) = true then
  (((idx l i).bind fun x2 =>
  if (!x2.Sound) = true then
  some (api_Rest.mk out2.Number out2.Frame out2.States out2.Sound (i64 (out2.Copies + x2.Copies)) (out2.Conflict || x2.Conflict))
  else
  ((if (out2.Sound && (!(decide (out2.Frame = x2.Frame)))) = true then
  some true
  else
  some (out2.Conflict || x2.Conflict)) : Option ((Bool))).bind (t1 fun (Conflict : Bool) =>
  loop (t2 (Jy out2 x2 Conflict)) (out2.States, 0))) : Option ((api_Rest))).bind (t1 fun (out3 : api_Rest) =>
  some (.inl (out3, (i64 (i + 1)))))
  else
  some (.inr out2)

noncomputable def Zad (l : List api_Rest) (out5 : api_Rest) (whole2 : Bool) (i3 : Int) : Option ((api_Rest × Bool × Int) ⊕ (api_Rest × Bool)) :=
  if (decide (i3 < 64)) = true then
  (ZdD l i3).bind fun y2 =>
  if y2.2 = true then
  (ZA out5.Frame i3).bind fun x6 =>
  (ZA out5.States i3).bind fun x7 =>
  some (.inl ((api_Rest.mk out5.Number (Qb out5.Frame i3 y2.1) (Qb out5.States i3 1) out5.Sound out5.Copies out5.Conflict), (whole2 && y2.2), (i64 (i3 + 1))))
  else
  some (.inl (out5, (whole2 && y2.2), (i64 (i3 + 1))))
  else
  some (.inr (out5, whole2))

noncomputable def Zbs (States3 : Vector Int 64) (i4 : Int) : Option (((Vector Int 64) × Int) ⊕ ((Vector Int 64))) :=
  if (decide (i4 < 64)) = true then
  (ZA States3 i4).bind fun x8 =>
  some (.inl ((Qb States3 i4 3), (i64 (i4 + 1))))
  else
  some (.inr States3)

noncomputable def Zcg (l : List api_Rest) : Option api_Rest :=
  (idx l 0).bind fun x =>
  ((loop (t2 (Zah l)) ((api_Rest.mk x.Number (Vector.replicate 64 0) (Vector.replicate 64 0) false 0 false), 0)) : Option ((api_Rest))).bind (t1 fun (out : api_Rest) =>
  if out.Conflict = true then
  some (api_Rest.mk out.Number (Vector.replicate 64 0) (Vector.replicate 64 0) false out.Copies true)
  else
  if out.Sound = true then
  (gd ((decide (out.Copies = 0)) == true) false (Zdb out)).bind fun y =>
  if ((decide (out.Copies = 0)) && y) = true then
  some (api_Rest.mk out.Number out.Frame out.States out.Sound 1 out.Conflict)
  else
  some out
  else
  ((loop (t3 (Zad l)) (out, true, 0)) : Option ((api_Rest × Bool))).bind (t2 fun (out4 : api_Rest) (whole : Bool) =>
  (gd (whole == true) false (JL out4.Frame)).bind fun y3 =>
  (gd ((whole && y3) == true) 0 (XR out4.Frame)).bind fun y4 =>
  if ((whole && y3) && (decide (y4 = out4.Number))) = true then
  ((loop (t2 (Zbs)) (out4.States, 0)) : Option (((Vector Int 64)))).bind (t1 fun (States2 : Vector Int 64) =>
  some (api_Rest.mk out4.Number out4.Frame States2 true 1 out4.Conflict))
  else
  some out4))

noncomputable def ZbO (order2 : List Int) (x : api_Rest) (at_2 : Int) : Option ((Int) ⊕ (Int)) :=
  (gd ((decide (0 < at_2)) == true) 0 (idx order2 (i64 (at_2 - 1)))).bind fun x2 =>
  if ((decide (0 < at_2)) && (decide (x.Number < x2))) = true then
  some (.inl (i64 (at_2 - 1)))
  else
  some (.inr at_2)

noncomputable def Zgp (order2 : List Int) (x : api_Rest) (at_4 : Int) : Option ((Int) ⊕ (Int)) :=
  (gd ((decide (0 < at_4)) == true) 0 (idx order2 (i64 (at_4 - 1)))).bind fun x4 =>
  if ((decide (0 < at_4)) && (decide (x.Number < x4))) = true then
  some (.inl (i64 (at_4 - 1)))
  else
  some (.inr at_4)

noncomputable def Zau (l : List api_Rest) (order2 : List Int) (by_2 : List (Int × (List api_Rest))) (i : Int) : Option (((List Int) × (List (Int × (List api_Rest))) × Int) ⊕ ((List Int) × (List (Int × (List api_Rest))))) :=
  if (decide (i < (l.length : Int))) = true then
  (((idx l i).bind fun x =>
  (((some (Zht (ZaP kqI by_2 x.Number))).bind (Sum.elim (fun z =>
  if (decide (0 = 0)) = true then
  ((loop (t1 (ZbO order2 x)) (order2.length : Int)) : Option ((Int))).bind (t1 fun (at_ : Int) =>
  (app order2 ([0] : List Int)).bind fun l2 =>
  (slq l2 (i64 (at_ + 1)) (l2.length : Int)).bind fun u =>
  (slq l2 at_ (l2.length : Int)).bind fun u2 =>
  (idx (cpy l2 (i64 (at_ + 1)).toNat (Int.toNat ((l2.length : Int) - (i64 (at_ + 1)))) at_.toNat (Int.toNat ((l2.length : Int) - at_))) at_).bind fun x3 =>
  some ((cpy l2 (i64 (at_ + 1)).toNat (Int.toNat ((l2.length : Int) - (i64 (at_ + 1)))) at_.toNat (Int.toNat ((l2.length : Int) - at_))).set at_.toNat x.Number))
  else
  some order2) (fun z =>
  if (decide ((z.length : Int) = 0)) = true then
  ((loop (t1 (Zgp order2 x)) (order2.length : Int)) : Option ((Int))).bind (t1 fun (at_3 : Int) =>
  (app order2 ([0] : List Int)).bind fun l3 =>
  (slq l3 (i64 (at_3 + 1)) (l3.length : Int)).bind fun u3 =>
  (slq l3 at_3 (l3.length : Int)).bind fun u4 =>
  (idx (cpy l3 (i64 (at_3 + 1)).toNat (Int.toNat ((l3.length : Int) - (i64 (at_3 + 1)))) at_3.toNat (Int.toNat ((l3.length : Int) - at_3))) at_3).bind fun x5 =>
  some ((cpy l3 (i64 (at_3 + 1)).toNat (Int.toNat ((l3.length : Int) - (i64 (at_3 + 1)))) at_3.toNat (Int.toNat ((l3.length : Int) - at_3))).set at_3.toNat x.Number))
  else
  some order2))) : Option (((List Int)))).bind (t1 fun (order4 : List Int) =>
  (some (Zht (ZaP kqI by_2 x.Number))).bind (Sum.elim (fun z2 =>
  (app [] ([x] : List api_Rest)).bind fun l4 =>
  some (order4, (ZV kqI by_2 x.Number l4))) (fun z2 =>
  (app z2 ([x] : List api_Rest)).bind fun l5 =>
  some (order4, (ZV kqI by_2 x.Number l5)))))) : Option (((List Int) × (List (Int × (List api_Rest)))))).bind (t2 fun (order3 : List Int) (by_3 : List (Int × (List api_Rest))) =>
  some (.inl (order3, by_3, (i64 (i + 1)))))
  else
  some (.inr (order2, by_2))

noncomputable def Zao (order : List Int) (by_ : List (Int × (List api_Rest))) (out2 : List api_Rest) (i2 : Int) : Option (((List api_Rest) × Int) ⊕ ((List api_Rest))) :=
  if (decide (i2 < (order.length : Int))) = true then
  (idx order i2).bind fun x6 =>
  (some (Zht (ZaP kqI by_ x6))).bind (Sum.elim (fun z3 =>
  (Zcg []).bind fun y =>
  (app out2 ([y] : List api_Rest)).bind fun l6 =>
  some (.inl (l6, (i64 (i2 + 1))))) (fun z3 =>
  (Zcg z3).bind fun y2 =>
  (app out2 ([y2] : List api_Rest)).bind fun l7 =>
  some (.inl (l7, (i64 (i2 + 1))))))
  else
  some (.inr out2)

noncomputable def J2 (l : List api_Rest) : Option (List api_Rest) :=
  ((loop (t3 (Zau l)) ([], ([] : List (Int × (List api_Rest))), 0)) : Option (((List Int) × (List (Int × (List api_Rest)))))).bind (t2 fun (order : List Int) (by_ : List (Int × (List api_Rest))) =>
  ((loop (t2 (Zao order by_)) ([], 0)) : Option (((List api_Rest)))).bind (t1 fun (out : List api_Rest) =>
  some out))

noncomputable def Zb2 (data : Int) : Option Int :=
  (Zbb data).bind fun y =>
  if y = true then
  some data
  else
  some (i64 (data + 2048))

noncomputable def ZaT (f : Vector Int 64) (i : Int) : Option ((Int) ⊕ (Bool) ⊕ (Unit)) :=
  if (decide (i < 64)) = true then
  (ZA f i).bind fun x =>
  if (decide (4095 < x)) = true then
  some (.inr (.inl true))
  else
  some (.inl (i64 (i + 1)))
  else
  some (.inr (.inr ()))

noncomputable def ZcZ (f : Vector Int 64) : Option Bool :=
  ((loop (t1 (ZaT f)) 0) : Option ((Bool) ⊕ (Unit))).bind (Sum.elim (fun q' => some q') (t0 (some false)))

noncomputable def Zb7 (f : Vector Int 64) (n : Int) : Option Int :=
  (quo .i64 n 3).bind fun q =>
  (ZA f q).bind fun x =>
  (rem n 3).bind fun q2 =>
  (shr .i64 (i64 x) (i64 (8 - (i64 (q2 * 4))))).bind fun q3 =>
  some (Xe .i64 q3 15)

noncomputable def Zag (f : Vector Int 64) (l : List Int) (out2 : List Int) (i : Int) : Option (((List Int) × Int) ⊕ ((List Int))) :=
  if (decide (i < (l.length : Int))) = true then
  (Zb7 f (i64 (2 * i))).bind fun y =>
  (Zb7 f (i64 ((i64 (2 * i)) + 1))).bind fun y2 =>
  (idx out2 i).bind fun x =>
  some (.inl ((out2.set i.toNat (u8 (i64 ((i64 (16 * y)) + y2)))), (i64 (i + 1))))
  else
  some (.inr out2)

noncomputable def Zca (f : Vector Int 64) : Option (List Int) :=
  (mks 96 0).bind fun l =>
  ((loop (t2 (Zag f l)) (l, 0)) : Option (((List Int)))).bind (t1 fun (out : List Int) =>
  some out)

noncomputable def Zbe (f : Vector Int 64) : Option ((List Int) × Int) :=
  (ZcZ f).bind fun y =>
  if y = true then
  some ([], 9)
  else
  (Zca f).bind fun y2 =>
  some (y2, 0)

noncomputable def Qz (data : Int) : Option Int :=
  (Jb (u16 data)).bind fun y =>
  if (!y) = true then
  some (bor .u16 (u16 data) 2048)
  else
  some (u16 data)

noncomputable def QW (f : Vector Int 64) (i : Int) : Option (Vector Int 64) :=
  ((if (decide (i = 0)) = true then
  (QF f).bind fun y =>
  (rem y 4).bind fun q =>
  (ZA gv_frame_syncs q).bind fun x =>
  (ZA f 0).bind fun x2 =>
  some (Qb f 0 x)
  else
  if (decide (i = 61)) = true then
  (Xv f).bind fun y2 =>
  (Qz y2).bind fun y3 =>
  (ZA f i).bind fun x3 =>
  some (Qb f i y3)
  else
  if (decide (i = 62)) = true then
  (QU f).bind fun y4 =>
  (shr .i64 y4 11).bind fun q2 =>
  (Qz q2).bind fun y5 =>
  (ZA f i).bind fun x4 =>
  some (Qb f i y5)
  else
  if (decide (i = 63)) = true then
  (QU f).bind fun y6 =>
  (Qz (Xe .i64 y6 2047)).bind fun y7 =>
  (ZA f i).bind fun x5 =>
  some (Qb f i y7)
  else
  (Xv f).bind fun y8 =>
  (ZA f i).bind fun x6 =>
  (QJ x6).bind fun y9 =>
  (ZA f 61).bind fun x7 =>
  (QJ x7).bind fun y10 =>
  (Qz (ZbP .i64 (ZbP .i64 y8 y9) y10)).bind fun y11 =>
  (ZA f i).bind fun x8 =>
  some (Qb f i y11)) : Option (((Vector Int 64)))).bind (t1 fun (f2 : Vector Int 64) =>
  some f2)

noncomputable def JI (f : Vector Int 64) (i : Int) : Option ((Vector Int 64) × Bool) :=
  if ((decide (i < 0)) || (decide (64 ≤ i))) = true then
  some ((#v[0, 0, 0, 0, 0, 0, 0, 0, 0, 0, 0, 0, 0, 0, 0, 0, 0, 0, 0, 0, 0, 0, 0, 0, 0, 0, 0, 0, 0, 0, 0, 0, 0, 0, 0, 0, 0, 0, 0, 0, 0, 0, 0, 0, 0, 0, 0, 0, 0, 0, 0, 0, 0, 0, 0, 0, 0, 0, 0, 0, 0, 0, 0, 0] : Vector Int 64), false)
  else
  (ZA f i).bind fun x =>
  (Zbp (Qb f i 0)).bind fun y =>
  if y = true then
  some ((#v[0, 0, 0, 0, 0, 0, 0, 0, 0, 0, 0, 0, 0, 0, 0, 0, 0, 0, 0, 0, 0, 0, 0, 0, 0, 0, 0, 0, 0, 0, 0, 0, 0, 0, 0, 0, 0, 0, 0, 0, 0, 0, 0, 0, 0, 0, 0, 0, 0, 0, 0, 0, 0, 0, 0, 0, 0, 0, 0, 0, 0, 0, 0, 0] : Vector Int 64), false)
  else
  (QW (Qb f i 0) i).bind fun y2 =>
  (ZaM y2).bind fun y3 =>
  if (!y3) = true then
  some ((#v[0, 0, 0, 0, 0, 0, 0, 0, 0, 0, 0, 0, 0, 0, 0, 0, 0, 0, 0, 0, 0, 0, 0, 0, 0, 0, 0, 0, 0, 0, 0, 0, 0, 0, 0, 0, 0, 0, 0, 0, 0, 0, 0, 0, 0, 0, 0, 0, 0, 0, 0, 0, 0, 0, 0, 0, 0, 0, 0, 0, 0, 0, 0, 0] : Vector Int 64), false)
  else
  some (y2, true)

noncomputable def Xm (r_ : api_Rest) (lost2 : Int) (place2 : Int) (i : Int) : Option ((Int × Int × Int) ⊕ (Int × Int)) :=
  if (decide (i < 64)) = true then
  (ZA r_.States i).bind fun x =>
  if (decide (x = 0)) = true then
  some (.inl ((i64 (lost2 + 1)), i, (i64 (i + 1))))
  else
  some (.inl (lost2, place2, (i64 (i + 1))))
  else
  some (.inr (lost2, place2))

noncomputable def XB (r_ : api_Rest) : Option api_Rest :=
  if (r_.Sound || r_.Conflict) = true then
  some r_
  else
  ((loop (t3 (Xm r_)) (0, 0, 0)) : Option ((Int × Int))).bind (t2 fun (lost : Int) (place : Int) =>
  if (!decide (lost = 1)) = true then
  some r_
  else
  (JI r_.Frame place).bind fun y =>
  (gd ((!y.2) == false) false (Xn y.1 r_.Number)).bind fun y2 =>
  if ((!y.2) || (!y2)) = true then
  some r_
  else
  (XI 3).bind fun y3 =>
  (ZA y3 place).bind fun x2 =>
  some (api_Rest.mk r_.Number y.1 (Qb y3 place 2) true 0 r_.Conflict))

noncomputable def Xc (l : List api_Piece) (i : Int) : Option ((Int) ⊕ ((List api_Rest) × Int) ⊕ (Unit)) :=
  if (decide (i < (l.length : Int))) = true then
  (idx l i).bind fun x =>
  (Q4 x).bind fun y =>
  if (!decide (y = 0)) = true then
  some (.inr (.inl ([], y)))
  else
  some (.inl (i64 (i + 1)))
  else
  some (.inr (.inr ()))

noncomputable def Xb (l : List api_Piece) (parts2 : List api_Rest) (i2 : Int) : Option (((List api_Rest) × Int) ⊕ ((List api_Rest))) :=
  if (decide (i2 < (l.length : Int))) = true then
  (idx l i2).bind fun x2 =>
  (Jc x2).bind fun y2 =>
  (X1 y2).bind fun y3 =>
  (app parts2 y3).bind fun l2 =>
  some (.inl (l2, (i64 (i2 + 1))))
  else
  some (.inr parts2)

noncomputable def Q9 (y4 : (List api_Rest)) (out2 : List api_Rest) (i3 : Int) : Option (((List api_Rest) × Int) ⊕ ((List api_Rest))) :=
  if (decide (i3 < (y4.length : Int))) = true then
  (idx out2 i3).bind fun x5 =>
  (XB x5).bind fun y5 =>
  (idx out2 i3).bind fun x6 =>
  some (.inl ((out2.set i3.toNat y5), (i64 (i3 + 1))))
  else
  some (.inr out2)

noncomputable def Js (l : List api_Piece) : Option ((List api_Rest) × Int) :=
  if (decide (200 < (l.length : Int))) = true then
  some ([], 3)
  else
  ((loop (t1 (Xc l)) 0) : Option (((List api_Rest) × Int) ⊕ (Unit))).bind (Sum.elim (fun q' => some q') (t0 (((loop (t2 (Xb l)) ([], 0)) : Option (((List api_Rest)))).bind (t1 fun (parts : List api_Rest) =>
  (QH parts).bind fun y4 =>
  (gd ((decide (0 < (y4.length : Int))) == true) (api_Rest.mk 0 (Vector.replicate 64 0) (Vector.replicate 64 0) false 0 false) (idx y4 (i64 ((y4.length : Int) - 1)))).bind fun x3 =>
  (gd ((decide (0 < (y4.length : Int))) == true) (api_Rest.mk 0 (Vector.replicate 64 0) (Vector.replicate 64 0) false 0 false) (idx y4 0)).bind fun x4 =>
  if ((decide (0 < (y4.length : Int))) && (decide (100000 < (i64 (x3.Number - x4.Number))))) = true then
  some ([], 3)
  else
  ((loop (t2 (Q9 y4)) (y4, 0)) : Option (((List api_Rest)))).bind (t1 fun (out : List api_Rest) =>
  some (out, 0))))))

noncomputable def Xr (l : List api_Piece) (i : Int) : Option ((Int) ⊕ (Int) ⊕ (Unit)) :=
  if (decide (i < (l.length : Int))) = true then
  (idx l i).bind fun x =>
  (Xp x).bind fun y =>
  if (!decide (y = 0)) = true then
  some (.inr (.inl y))
  else
  some (.inl (i64 (i + 1)))
  else
  some (.inr (.inr ()))

noncomputable def Zc9 (l : List api_Piece) : Option Int :=
  if (decide (200 < (l.length : Int))) = true then
  some 3
  else
  ((loop (t1 (Xr l)) 0) : Option ((Int) ⊕ (Unit))).bind (Sum.elim (fun q' => some q') (t0 (some 0)))

noncomputable def Jk (f : Vector Int 64) (i : Int) : Option (Vector Int 64) :=
  ((if (decide (i = 0)) = true then
  (X4 f).bind fun y =>
  (JX y).bind fun y2 =>
  (ZA f 0).bind fun x =>
  some (Qb f 0 (u16 y2))
  else
  if (decide (i ≤ 60)) = true then
  (ZA f i).bind fun x2 =>
  (rem (i64 x2) 2048).bind fun q =>
  (Zcs f).bind fun y3 =>
  (ZA f 61).bind fun x3 =>
  (rem (i64 x3) 2048).bind fun q2 =>
  (Zb2 (ZbP .i64 (ZbP .i64 q y3) q2)).bind fun y4 =>
  (ZA f i).bind fun x4 =>
  some (Qb f i (u16 y4))
  else
  if (decide (i = 61)) = true then
  (Zcs f).bind fun y5 =>
  (Zb2 y5).bind fun y6 =>
  (ZA f 61).bind fun x5 =>
  some (Qb f 61 (u16 y6))
  else
  if (decide (i = 62)) = true then
  (ZaC f).bind fun y7 =>
  (quo .i64 y7 2048).bind fun q3 =>
  (Zb2 q3).bind fun y8 =>
  (ZA f 62).bind fun x6 =>
  some (Qb f 62 (u16 y8))
  else
  (ZaC f).bind fun y9 =>
  (rem y9 2048).bind fun q4 =>
  (Zb2 q4).bind fun y10 =>
  (ZA f 63).bind fun x7 =>
  some (Qb f 63 (u16 y10))) : Option (((Vector Int 64)))).bind (t1 fun (f2 : Vector Int 64) =>
  some f2)

noncomputable def JJ (r_ : api_Rest) (at_2 : Int) (i : Int) : Option ((Int × Int) ⊕ (api_Rest) ⊕ (Int)) :=
  if (decide (i < 64)) = true then
  (ZA r_.States i).bind fun x =>
  if (!decide (x = 0)) = true then
  some (.inl (at_2, (i64 (i + 1))))
  else
  if (decide (0 ≤ at_2)) = true then
  some (.inr (.inl r_))
  else
  some (.inl (i, (i64 (i + 1))))
  else
  some (.inr (.inr at_2))

noncomputable def JW (States2 : Vector Int 64) (i2 : Int) : Option (((Vector Int 64) × Int) ⊕ ((Vector Int 64))) :=
  if (decide (i2 < 64)) = true then
  (ZA States2 i2).bind fun x2 =>
  some (.inl ((Qb States2 i2 3), (i64 (i2 + 1))))
  else
  some (.inr States2)

noncomputable def ZcB (r_ : api_Rest) : Option api_Rest :=
  ((loop (t2 (JJ r_)) ((-1), 0)) : Option ((api_Rest) ⊕ (Int))).bind (Sum.elim (fun q' => some q') (t1 fun (at_ : Int) =>
  if ((r_.Sound || r_.Conflict) || (decide (at_ < 0))) = true then
  some r_
  else
  (Jk r_.Frame at_).bind fun y =>
  (JL y).bind fun y2 =>
  (gd ((!y2) == false) 0 (XR y)).bind fun y3 =>
  if ((!y2) || (!decide (y3 = r_.Number))) = true then
  some r_
  else
  ((loop (t2 (JW)) ((Vector.replicate 64 0), 0)) : Option (((Vector Int 64)))).bind (t1 fun (States : Vector Int 64) =>
  (ZA States at_).bind fun x3 =>
  some (api_Rest.mk r_.Number y (Qb States at_ 2) true 0 false))))

noncomputable def Ju (l : List api_Piece) (all2 : List api_Rest) (i : Int) : Option (((List api_Rest) × Int) ⊕ ((List api_Rest))) :=
  if (decide (i < (l.length : Int))) = true then
  (idx l i).bind fun x =>
  (XQ x).bind fun y2 =>
  (Zco y2).bind fun y3 =>
  (J2 y3).bind fun y4 =>
  (app all2 y4).bind fun l2 =>
  some (.inl (l2, (i64 (i + 1))))
  else
  some (.inr all2)

noncomputable def Jx (y5 : (List api_Rest)) (out2 : List api_Rest) (i2 : Int) : Option (((List api_Rest) × Int) ⊕ ((List api_Rest))) :=
  if (decide (i2 < (y5.length : Int))) = true then
  (idx out2 i2).bind fun x4 =>
  (ZcB x4).bind fun y6 =>
  (idx out2 i2).bind fun x5 =>
  some (.inl ((out2.set i2.toNat y6), (i64 (i2 + 1))))
  else
  some (.inr out2)

noncomputable def ZeN (l : List api_Piece) : Option ((List api_Rest) × Int) :=
  (Zc9 l).bind fun y =>
  if (!decide (y = 0)) = true then
  some ([], y)
  else
  ((loop (t2 (Ju l)) ([], 0)) : Option (((List api_Rest)))).bind (t1 fun (all : List api_Rest) =>
  (J2 all).bind fun y5 =>
  (gd ((decide (0 < (y5.length : Int))) == true) (api_Rest.mk 0 (Vector.replicate 64 0) (Vector.replicate 64 0) false 0 false) (idx y5 (i64 ((y5.length : Int) - 1)))).bind fun x2 =>
  (gd ((decide (0 < (y5.length : Int))) == true) (api_Rest.mk 0 (Vector.replicate 64 0) (Vector.replicate 64 0) false 0 false) (idx y5 0)).bind fun x3 =>
  if ((decide (0 < (y5.length : Int))) && (decide (100000 < (i64 (x2.Number - x3.Number))))) = true then
  some ([], 3)
  else
  ((loop (t2 (Jx y5)) (y5, 0)) : Option (((List api_Rest)))).bind (t1 fun (out : List api_Rest) =>
  some (out, 0)))

noncomputable def ZaV (f : Vector Int 64) : Option (Vector Int 64) :=
  (QF f).bind fun y =>
  (rem y 4).bind fun q =>
  (ZA gv_frame_syncs q).bind fun x =>
  (ZA f 0).bind fun x2 =>
  (Xv (Qb f 0 x)).bind fun y2 =>
  (Qz y2).bind fun y3 =>
  (ZA (Qb f 0 x) 61).bind fun x3 =>
  (QU (Qb (Qb f 0 x) 61 y3)).bind fun y4 =>
  (shr .i64 y4 11).bind fun q2 =>
  (Qz q2).bind fun y5 =>
  (Qz (Xe .i64 y4 2047)).bind fun y6 =>
  (ZA (Qb (Qb f 0 x) 61 y3) 62).bind fun x4 =>
  (ZA (Qb (Qb (Qb f 0 x) 61 y3) 62 y5) 63).bind fun x5 =>
  some (Qb (Qb (Qb (Qb f 0 x) 61 y3) 62 y5) 63 y6)

noncomputable def ZbU (data : List Int) (f2 : Vector Int 64) (i : Int) : Option (((Vector Int 64) × Int) ⊕ ((Vector Int 64) × Int) ⊕ ((Vector Int 64))) :=
  if (decide (i < (data.length : Int))) = true then
  (idx data i).bind fun x3 =>
  if ((decide (x3 < 0)) || (decide (2047 < x3))) = true then
  some (.inr (.inl ((#v[0, 0, 0, 0, 0, 0, 0, 0, 0, 0, 0, 0, 0, 0, 0, 0, 0, 0, 0, 0, 0, 0, 0, 0, 0, 0, 0, 0, 0, 0, 0, 0, 0, 0, 0, 0, 0, 0, 0, 0, 0, 0, 0, 0, 0, 0, 0, 0, 0, 0, 0, 0, 0, 0, 0, 0, 0, 0, 0, 0, 0, 0, 0, 0] : Vector Int 64), 9)))
  else
  (Qz x3).bind fun y3 =>
  (ZA f2 (i64 (3 + i))).bind fun x4 =>
  some (.inl ((Qb f2 (i64 (3 + i)) y3), (i64 (i + 1))))
  else
  some (.inr (.inr f2))

noncomputable def Zc5 (number : Int) (data : List Int) : Option ((Vector Int 64) × Int) :=
  if ((decide (number < 0)) || (decide (4194304 ≤ number))) = true then
  some ((#v[0, 0, 0, 0, 0, 0, 0, 0, 0, 0, 0, 0, 0, 0, 0, 0, 0, 0, 0, 0, 0, 0, 0, 0, 0, 0, 0, 0, 0, 0, 0, 0, 0, 0, 0, 0, 0, 0, 0, 0, 0, 0, 0, 0, 0, 0, 0, 0, 0, 0, 0, 0, 0, 0, 0, 0, 0, 0, 0, 0, 0, 0, 0, 0] : Vector Int 64), 9)
  else
  if (!decide ((data.length : Int) = 58)) = true then
  some ((#v[0, 0, 0, 0, 0, 0, 0, 0, 0, 0, 0, 0, 0, 0, 0, 0, 0, 0, 0, 0, 0, 0, 0, 0, 0, 0, 0, 0, 0, 0, 0, 0, 0, 0, 0, 0, 0, 0, 0, 0, 0, 0, 0, 0, 0, 0, 0, 0, 0, 0, 0, 0, 0, 0, 0, 0, 0, 0, 0, 0, 0, 0, 0, 0] : Vector Int 64), 3)
  else
  (Qz (Xe .i64 number 2047)).bind fun y =>
  (shr .i64 number 11).bind fun q =>
  (Qz q).bind fun y2 =>
  (ZA (Vector.replicate 64 (0 : Int)) 1).bind fun x =>
  (ZA (Qb (Vector.replicate 64 0) 1 y) 2).bind fun x2 =>
  ((loop (t2 (ZbU data)) ((Qb (Qb (Vector.replicate 64 0) 1 y) 2 y2), 0)) : Option (((Vector Int 64) × Int) ⊕ ((Vector Int 64)))).bind (Sum.elim (fun q' => some q') (t1 fun (f : Vector Int 64) =>
  (ZaV f).bind fun y4 =>
  some (y4, 0)))

noncomputable def Zb0  : Option Bool :=
  (mks 58 0).bind fun l =>
  (idx l 0).bind fun x =>
  (Zc5 2050 (l.set (Int.toNat 0) 5)).bind fun y =>
  (gd ((decide (y.2 = 0)) == true) 0 (ZA y.1 0)).bind fun x2 =>
  (gd (((decide (y.2 = 0)) && (decide (x2 = 2631))) == true) 0 (ZA y.1 1)).bind fun x3 =>
  (gd ((((decide (y.2 = 0)) && (decide (x2 = 2631))) && (decide (x3 = 2))) == true) 0 (ZA y.1 2)).bind fun x4 =>
  (gd (((((decide (y.2 = 0)) && (decide (x2 = 2631))) && (decide (x3 = 2))) && (decide (x4 = 1))) == true) 0 (ZA y.1 3)).bind fun x5 =>
  some (((((decide (y.2 = 0)) && (decide (x2 = 2631))) && (decide (x3 = 2))) && (decide (x4 = 1))) && (decide (x5 = 2053)))

noncomputable def Zbr (p : api_Piece) : Option ((List api_Found) × Int) :=
  (Xp p).bind fun y =>
  if (!decide (y = 0)) = true then
  some ([], y)
  else
  (XQ p).bind fun y2 =>
  (Zb6 y2).bind fun y3 =>
  some (y3, 0)

noncomputable def ZaF (b : List Int) : Option Bool :=
  (Zbr (api_Piece.mk b false)).bind fun y =>
  some ((decide (y.2 = 0)) && (decide ((y.1.length : Int) = 0)))

noncomputable def ZbF (p : api_Piece) : Option (Int × Int) :=
  (Xp p).bind fun y =>
  if (!decide (y = 0)) = true then
  some (0, y)
  else
  (XQ p).bind fun y2 =>
  some ((y2.length : Int), 0)

noncomputable def JP (b : List Int) (from_ : Int) (to : Int) : Option api_Piece :=
  if (decide (from_ = to)) = true then
  some (api_Piece.mk [] false)
  else
  (quo .i64 from_ 2).bind fun q =>
  (quo .i64 (i64 (to + 1)) 2).bind fun q2 =>
  (slc b q q2).bind fun l =>
  (app [] l).bind fun l2 =>
  (rem from_ 2).bind fun q3 =>
  ((if (decide (q3 = 1)) = true then
  (idx l2 0).bind fun x =>
  (idx l2 0).bind fun x2 =>
  some (l2.set (Int.toNat 0) (Xe .u8 x 15))
  else
  some l2) : Option (((List Int)))).bind (t1 fun (Bytes : List Int) =>
  (rem to 2).bind fun q4 =>
  if (decide (q4 = 1)) = true then
  (idx Bytes (i64 ((Bytes.length : Int) - 1))).bind fun x3 =>
  (idx Bytes (i64 ((Bytes.length : Int) - 1))).bind fun x4 =>
  some (api_Piece.mk (Bytes.set (i64 ((Bytes.length : Int) - 1)).toNat (Xe .u8 x3 240)) (decide (q3 = 1)))
  else
  some (api_Piece.mk Bytes (decide (q3 = 1))))

noncomputable def ZaN (p : api_Piece) (from_ : Int) (to : Int) : Option (api_Piece × Int) :=
  (Q4 p).bind fun y =>
  if (!decide (y = 0)) = true then
  some ((api_Piece.mk [] false), y)
  else
  (gd (((decide (from_ < 0)) || (decide (to < from_))) == false) 0 (X6 p)).bind fun y2 =>
  if (((decide (from_ < 0)) || (decide (to < from_))) || (decide (y2 < to))) = true then
  some ((api_Piece.mk [] false), 9)
  else
  (Xu p).bind fun y3 =>
  (Xu p).bind fun y4 =>
  (JP p.Bytes (i64 (from_ + y3)) (i64 (to + y4))).bind fun y5 =>
  some (y5, 0)

noncomputable def Za8 (p : api_Piece) : Option ((List api_Found) × Int) :=
  (Zbr p).bind fun y =>
  (J9 y.1).bind fun y2 =>
  some (y2, y.2)

noncomputable def Qg (s : List (Vector Int 64)) (v : Vector Int 64) (i : Int) : Option ((Int) ⊕ (Int) ⊕ (Unit)) :=
  if (decide (i < (s.length : Int))) = true then
  (idx s i).bind fun x =>
  if (decide (v = x)) = true then
  some (.inr (.inl i))
  else
  some (.inl (i64 (i + 1)))
  else
  some (.inr (.inr ()))

noncomputable def Qr (s : List (Vector Int 64)) (v : Vector Int 64) : Option Int :=
  ((loop (t1 (Qg s v)) 0) : Option ((Int) ⊕ (Unit))).bind (Sum.elim (fun q' => some q') (t0 (some (-1))))

noncomputable def Z3 (s : List (Vector Int 64)) (v : Vector Int 64) : Option Bool :=
  (Qr s v).bind fun y =>
  some (decide (0 ≤ y))

noncomputable def Qi (l : List (Vector Int 64)) (noise : List (List Int)) (all2 : List Int) (i : Int) : Option (((List Int) × Int) ⊕ (Bool) ⊕ ((List Int))) :=
  if (decide (i < (l.length : Int))) = true then
  (idx l i).bind fun x =>
  (JL x).bind fun y2 =>
  (gd (((!y2) || (decide ((noise.length : Int) ≤ i))) == false) [] (idx noise i)).bind fun x2 =>
  (gd ((((!y2) || (decide ((noise.length : Int) ≤ i))) || (decide (2000 < (x2.length : Int)))) == false) [] (idx noise i)).bind fun x3 =>
  (gd ((((!y2) || (decide ((noise.length : Int) ≤ i))) || (decide (2000 < (x2.length : Int)))) == false) false (ZaF x3)).bind fun y3 =>
  if ((((!y2) || (decide ((noise.length : Int) ≤ i))) || (decide (2000 < (x2.length : Int)))) || (!y3)) = true then
  some (.inr (.inl true))
  else
  (Zbe x).bind fun y4 =>
  (idx noise i).bind fun x4 =>
  (app all2 x4).bind fun l2 =>
  (app l2 y4.1).bind fun l3 =>
  some (.inl (l3, (i64 (i + 1))))
  else
  some (.inr (.inr all2))

noncomputable def Qh (x5 : api_Rest) (y10 : (List api_Found) × Int) (fromPlace4 : Bool) (i4 : Int) : Option ((Bool × Int) ⊕ (Bool)) :=
  if (decide (i4 < (y10.1.length : Int))) = true then
  (idx y10.1 i4).bind fun x7 =>
  some (.inl ((fromPlace4 || (decide (x7.Frame = x5.Frame))), (i64 (i4 + 1))))
  else
  some (.inr fromPlace4)

noncomputable def Qj (y7 : api_Piece × Int) (y8 : api_Piece × Int) (x5 : api_Rest) (fromPlace2 : Bool) (i3 : Int) : Option ((Bool × Int) ⊕ (Bool) ⊕ (Bool)) :=
  if (decide (i3 < (([y7.1, y8.1] : List api_Piece).length : Int))) = true then
  (((idx ([y7.1, y8.1] : List api_Piece) i3).bind fun x6 =>
  (Za8 x6).bind fun y10 =>
  if (!decide (y10.2 = 0)) = true then
  some (.inl false)
  else
  (loop (t2 (Qh x5 y10)) (fromPlace2, 0)).bind (fun q' => some (.inr q'))) : Option ((Bool) ⊕ (Bool))).bind (Sum.elim (fun q' => some (.inr (.inl q'))) (t1 fun (fromPlace3 : Bool) =>
  some (.inl (fromPlace3, (i64 (i3 + 1))))))
  else
  some (.inr (.inr fromPlace2))

noncomputable def Qy (l : List (Vector Int 64)) (y7 : api_Piece × Int) (y8 : api_Piece × Int) (y9 : (List api_Rest) × Int) (i2 : Int) : Option ((Int) ⊕ (Bool) ⊕ (Unit)) :=
  if (decide (i2 < (y9.1.length : Int))) = true then
  (idx y9.1 i2).bind fun x5 =>
  if ((!x5.Sound) || (decide (x5.Copies = 0))) = true then
  some (.inl (i64 (i2 + 1)))
  else
  ((loop (t2 (Qj y7 y8 x5)) (false, 0)) : Option ((Bool) ⊕ (Bool))).bind (Sum.elim (fun q' => some (.inr (.inl q'))) (t1 fun (fromPlace : Bool) =>
  (gd (fromPlace == true) false (Z3 l x5.Frame)).bind fun y11 =>
  if (fromPlace && (!y11)) = true then
  some (.inr (.inl false))
  else
  some (.inl (i64 (i2 + 1)))))
  else
  some (.inr (.inr ()))

noncomputable def Xt (l : List (Vector Int 64)) (noise : List (List Int)) (cut : Int) : Option Bool :=
  (Zb0).bind fun y =>
  if (!y) = true then
  some false
  else
  ((loop (t2 (Qi l noise)) ([], 0)) : Option ((Bool) ⊕ ((List Int)))).bind (Sum.elim (fun q' => some q') (t1 fun (all : List Int) =>
  (Zbr (api_Piece.mk all false)).bind fun y5 =>
  if ((!decide (y5.2 = 0)) || (!decide ((y5.1.length : Int) = (l.length : Int)))) = true then
  some true
  else
  (ZbF (api_Piece.mk all false)).bind fun y6 =>
  if ((decide (cut < 0)) || (decide (y6.1 < cut))) = true then
  some true
  else
  (rem cut 2).bind fun q =>
  (ZaN (api_Piece.mk all false) 0 (i64 (cut - q))).bind fun y7 =>
  (ZaN (api_Piece.mk all false) (i64 (cut - q)) y6.1).bind fun y8 =>
  if ((!decide (y7.2 = 0)) || (!decide (y8.2 = 0))) = true then
  some false
  else
  (Js ([y7.1, y8.1] : List api_Piece)).bind fun y9 =>
  if (!decide (y9.2 = 0)) = true then
  some (decide (y9.2 = 3))
  else
  ((loop (t1 (Qy l y7 y8 y9)) 0) : Option ((Bool) ⊕ (Unit))).bind (Sum.elim (fun q' => some q') (t0 (some true)))))
end Go.Vx
