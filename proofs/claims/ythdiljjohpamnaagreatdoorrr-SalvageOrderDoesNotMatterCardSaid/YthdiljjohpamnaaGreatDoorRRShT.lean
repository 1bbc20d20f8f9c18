/- A text of the proof: a verified executor of the program form, or the contracts of the functions that the law reaches. -/
import Derived.Test.YthdiljjohpamnaaGreatDoorRRShLib
set_option linter.all false
namespace Go.Vx
open Go Go.RowKit
set_option linter.unusedVariables false
structure api_Piece where
  Bytes : List Int
  Half : Bool
structure api_Rest where
  Number : Int
  Frame : Vector Int 64
  States : Vector Int 64
  Sound : Bool
  Copies : Int
  Conflict : Bool
structure api_Found where
  At : Int
  Frame : Vector Int 64
structure salvage_finder where
  h_ : List Int
  certain : List api_Found
  numbers : List Int
  at_ : Unit
structure api_Flaw where
  Word : Int
  Kind : Int

noncomputable def Xl (p : api_Piece) : Option Int :=
  if (decide (200000 < (p.Bytes.length : Int))) = true then
  some 3
  else
  (gd ((p.Half == true) && ((decide ((p.Bytes.length : Int) = 0)) == false)) 0 (idx p.Bytes 0)).bind fun x =>
  (gd ((p.Half == true) && ((decide ((p.Bytes.length : Int) = 0)) == false)) 0 (shr .u8 x 4)).bind fun q =>
  if (p.Half && ((decide ((p.Bytes.length : Int) = 0)) || (!decide (q = 0)))) = true then
  some 2
  else
  some 0

noncomputable def Jo (p : api_Piece) : Option Int :=
  if p.Half = true then
  some 1
  else
  some 0

noncomputable def JE (p : api_Piece) : Option Int :=
  (Jo p).bind fun y =>
  some (i64 ((i64 (2 * (p.Bytes.length : Int))) - y))

noncomputable def JG (b : List Int) (i : Int) : Option Int :=
  (quo .i64 i 2).bind fun q =>
  (idx b q).bind fun x =>
  (rem i 2).bind fun q2 =>
  (shr .u8 x (i64 (4 - (i64 (4 * q2))))).bind fun q3 =>
  some (Jq .u8 q3 15)

noncomputable def XG (p : api_Piece) (l : List Int) (out2 : List Int) (i : Int) : Option (((List Int) × Int) ⊕ ((List Int))) :=
  if (decide (i < (l.length : Int))) = true then
  (Jo p).bind fun y2 =>
  (JG p.Bytes (i64 (i + y2))).bind fun y3 =>
  (idx out2 i).bind fun x =>
  some (.inl ((out2.set i.toNat y3), (i64 (i + 1))))
  else
  some (.inr out2)

noncomputable def X0 (p : api_Piece) : Option (List Int) :=
  (JE p).bind fun y =>
  (mks y 0).bind fun l =>
  ((loop (t2 (XG p l)) (l, 0)) : Option (((List Int)))).bind (t1 fun (out : List Int) =>
  some out)

noncomputable def Xi (h_ : List Int) : Option Int :=
  (idx h_ 0).bind fun x =>
  (shl .u16 (u16 x) 8).bind fun q =>
  (idx h_ 1).bind fun x2 =>
  (shl .u16 (u16 x2) 4).bind fun q2 =>
  (idx h_ 2).bind fun x3 =>
  some (bor .u16 (bor .u16 q q2) (u16 x3))

def gv_frame_syncs : Vector Int 4 := #v[583, 1464, 2631, 3512]

noncomputable def Zah (number : Int) : Option (Int × Int) :=
  if ((decide (number < 0)) || (decide (4194304 ≤ number))) = true then
  some (0, 9)
  else
  (rem number 4).bind fun q =>
  (ZA gv_frame_syncs q).bind fun x =>
  some ((i64 x), 0)

noncomputable def XJ (w : Int) (i : Int) : Option ((Int) ⊕ (Bool) ⊕ (Unit)) :=
  if (decide (i < 4)) = true then
  (Zah i).bind fun y =>
  if (decide ((u16 y.1) = w)) = true then
  some (.inr (.inl true))
  else
  some (.inl (i64 (i + 1)))
  else
  some (.inr (.inr ()))

noncomputable def Jt (w : Int) : Option Bool :=
  ((loop (t1 (XJ w)) 0) : Option ((Bool) ⊕ (Unit))).bind (Sum.elim (fun q' => some q') (t0 (some false)))

noncomputable def Xq (w : Vector Int 192) (f2 : Vector Int 64) (i : Int) : Option (((Vector Int 64) × Int) ⊕ ((Vector Int 64))) :=
  if (decide (i < 64)) = true then
  (slc w.toList (i64 (3 * i)) (i64 ((i64 (3 * i)) + 3))).bind fun l =>
  (Xi l).bind fun y =>
  (ZA f2 i).bind fun x =>
  some (.inl ((Qp f2 i y), (i64 (i + 1))))
  else
  some (.inr f2)

noncomputable def Jb (w : Vector Int 192) : Option (Vector Int 64) :=
  ((loop (t2 (Xq w)) ((Vector.replicate 64 0), 0)) : Option (((Vector Int 64)))).bind (t1 fun (f : Vector Int 64) =>
  some f)

noncomputable def J5 (f : Vector Int 64) (i : Int) : Option ((Int) ⊕ (Bool) ⊕ (Unit)) :=
  if (decide (i < 64)) = true then
  (ZA f i).bind fun x =>
  if (decide (4095 < x)) = true then
  some (.inr (.inl true))
  else
  some (.inl (i64 (i + 1)))
  else
  some (.inr (.inr ()))

noncomputable def Zbd (f : Vector Int 64) : Option Bool :=
  ((loop (t1 (J5 f)) 0) : Option ((Bool) ⊕ (Unit))).bind (Sum.elim (fun q' => some q') (t0 (some false)))

noncomputable def Xn (w : Int) : Option Int :=
  some (i64 (Jq .u16 w 2047))

noncomputable def XF (f : Vector Int 64) : Option Int :=
  (ZA f 1).bind fun x =>
  (Xn x).bind fun y =>
  (ZA f 2).bind fun x2 =>
  (Xn x2).bind fun y2 =>
  (shl .i64 y2 11).bind fun q =>
  some (bor .i64 y q)

noncomputable def JF (f : Vector Int 64) (n2 : Int) (i : Int) : Option ((Int × Int) ⊕ (Int)) :=
  if (decide (i < 60)) = true then
  (ZA f (i64 (i + 1))).bind fun x =>
  (Xn x).bind fun y =>
  some (.inl ((ZcI .i64 n2 y), (i64 (i + 1))))
  else
  some (.inr n2)

noncomputable def JX (f : Vector Int 64) : Option Int :=
  ((loop (t2 (JF f)) (0, 0)) : Option ((Int))).bind (t1 fun (n : Int) =>
  some n)

noncomputable def Zaz (x : Int) : Option Int :=
  (shr .u16 x 8).bind fun q =>
  (ZnE [0, 1, 1, 2, 1, 2, 2, 3, 1, 2, 2, 3, 2, 3, 3, 4, 1, 2, 2, 3, 2, 3, 3, 4, 2, 3, 3, 4, 3, 4, 4, 5, 1, 2, 2, 3, 2, 3, 3, 4, 2, 3, 3, 4, 3, 4, 4, 5, 2, 3, 3, 4, 3, 4, 4, 5, 3, 4, 4, 5, 4, 5, 5, 6, 1, 2, 2, 3, 2, 3, 3, 4, 2, 3, 3, 4, 3, 4, 4, 5, 2, 3, 3, 4, 3, 4, 4, 5, 3, 4, 4, 5, 4, 5, 5, 6, 2, 3, 3, 4, 3, 4, 4, 5, 3, 4, 4, 5, 4, 5, 5, 6, 3, 4, 4, 5, 4, 5, 5, 6, 4, 5, 5, 6, 5, 6, 6, 7, 1, 2, 2, 3, 2, 3, 3, 4, 2, 3, 3, 4, 3, 4, 4, 5, 2, 3, 3, 4, 3, 4, 4, 5, 3, 4, 4, 5, 4, 5, 5, 6, 2, 3, 3, 4, 3, 4, 4, 5, 3, 4, 4, 5, 4, 5, 5, 6, 3, 4, 4, 5, 4, 5, 5, 6, 4, 5, 5, 6, 5, 6, 6, 7, 2, 3, 3, 4, 3, 4, 4, 5, 3, 4, 4, 5, 4, 5, 5, 6, 3, 4, 4, 5, 4, 5, 5, 6, 4, 5, 5, 6, 5, 6, 6, 7, 3, 4, 4, 5, 4, 5, 5, 6, 4, 5, 5, 6, 5, 6, 6, 7, 4, 5, 5, 6, 5, 6, 6, 7, 5, 6, 6, 7, 6, 7, 7, 8] q).bind fun b =>
  (ZnE [0, 1, 1, 2, 1, 2, 2, 3, 1, 2, 2, 3, 2, 3, 3, 4, 1, 2, 2, 3, 2, 3, 3, 4, 2, 3, 3, 4, 3, 4, 4, 5, 1, 2, 2, 3, 2, 3, 3, 4, 2, 3, 3, 4, 3, 4, 4, 5, 2, 3, 3, 4, 3, 4, 4, 5, 3, 4, 4, 5, 4, 5, 5, 6, 1, 2, 2, 3, 2, 3, 3, 4, 2, 3, 3, 4, 3, 4, 4, 5, 2, 3, 3, 4, 3, 4, 4, 5, 3, 4, 4, 5, 4, 5, 5, 6, 2, 3, 3, 4, 3, 4, 4, 5, 3, 4, 4, 5, 4, 5, 5, 6, 3, 4, 4, 5, 4, 5, 5, 6, 4, 5, 5, 6, 5, 6, 6, 7, 1, 2, 2, 3, 2, 3, 3, 4, 2, 3, 3, 4, 3, 4, 4, 5, 2, 3, 3, 4, 3, 4, 4, 5, 3, 4, 4, 5, 4, 5, 5, 6, 2, 3, 3, 4, 3, 4, 4, 5, 3, 4, 4, 5, 4, 5, 5, 6, 3, 4, 4, 5, 4, 5, 5, 6, 4, 5, 5, 6, 5, 6, 6, 7, 2, 3, 3, 4, 3, 4, 4, 5, 3, 4, 4, 5, 4, 5, 5, 6, 3, 4, 4, 5, 4, 5, 5, 6, 4, 5, 5, 6, 5, 6, 6, 7, 3, 4, 4, 5, 4, 5, 5, 6, 4, 5, 5, 6, 5, 6, 6, 7, 4, 5, 5, 6, 5, 6, 6, 7, 5, 6, 6, 7, 6, 7, 7, 8] (Jq .u16 x 255)).bind fun b2 =>
  some (i64 (u8 (b + b2)))

noncomputable def Zat (w : Int) : Option Bool :=
  (gd ((decide (w ≤ 4095)) == true) 0 (Zaz w)).bind fun y =>
  (gd ((decide (w ≤ 4095)) == true) 0 (rem y 2)).bind fun q =>
  some ((decide (w ≤ 4095)) && (decide (q = 1)))

noncomputable def Xt (f : Vector Int 64) (i : Int) (n4 : Int) (k : Int) : Option ((Int × Int) ⊕ (Int)) :=
  if (decide (0 ≤ k)) = true then
  (shl .i64 n4 1).bind fun q =>
  (ZA f i).bind fun x =>
  (shr .u16 x k).bind fun q2 =>
  if (!((!decide ((Jq .i64 n4 2097152) = 0)) == (decide ((Jq .u16 q2 1) = 1)))) = true then
  some (.inl ((ZcI .i64 (Jq .i64 q 4194303) 2097167), (i64 (k - 1))))
  else
  some (.inl ((Jq .i64 q 4194303), (i64 (k - 1))))
  else
  some (.inr n4)

noncomputable def XR (f : Vector Int 64) (n2 : Int) (i : Int) : Option ((Int × Int) ⊕ (Int)) :=
  if (decide (i < 62)) = true then
  ((loop (t2 (Xt f i)) (n2, 11)) : Option ((Int))).bind (t1 fun (n3 : Int) =>
  some (.inl (n3, (i64 (i + 1)))))
  else
  some (.inr n2)

noncomputable def XU (f : Vector Int 64) : Option Int :=
  ((loop (t2 (XR f)) (0, 0)) : Option ((Int))).bind (t1 fun (n : Int) =>
  some n)

noncomputable def Jv (f : Vector Int 64) (i : Int) : Option ((Int) ⊕ (Bool) ⊕ (Unit)) :=
  if (decide (i < 64)) = true then
  (ZA f i).bind fun x4 =>
  (Zat x4).bind fun y5 =>
  if (!y5) = true then
  some (.inr (.inl false))
  else
  some (.inl (i64 (i + 1)))
  else
  some (.inr (.inr ()))

noncomputable def ZaE (f : Vector Int 64) : Option Bool :=
  (Zbd f).bind fun y =>
  (gd (y == false) 0 (ZA f 0)).bind fun x =>
  (gd (y == false) 0 (XF f)).bind fun y2 =>
  (gd (y == false) 0 (rem y2 4)).bind fun q =>
  (gd (y == false) 0 (ZA gv_frame_syncs q)).bind fun x2 =>
  (gd ((y || (!decide (x = x2))) == false) 0 (ZA f 61)).bind fun x3 =>
  (gd ((y || (!decide (x = x2))) == false) 0 (Xn x3)).bind fun y3 =>
  (gd ((y || (!decide (x = x2))) == false) 0 (JX f)).bind fun y4 =>
  if ((y || (!decide (x = x2))) || (!decide (y3 = y4))) = true then
  some false
  else
  ((loop (t1 (Jv f)) 1) : Option ((Bool) ⊕ (Unit))).bind (Sum.elim (fun q' => some q') (t0 ((ZA f 62).bind fun x5 =>
  (Xn x5).bind fun y6 =>
  (shl .i64 y6 11).bind fun q2 =>
  (ZA f 63).bind fun x6 =>
  (Xn x6).bind fun y7 =>
  (XU f).bind fun y8 =>
  some (decide ((bor .i64 q2 y7) = y8)))))

noncomputable def ZaH (f : Vector Int 64) : Option Bool :=
  (ZaE f).bind fun y =>
  some y

noncomputable def Xp (h_ : List Int) (o : List api_Found) (at_ : Int) : Option (((List api_Found) × Int) ⊕ (List api_Found)) :=
  if (decide ((i64 (at_ + 192)) ≤ (h_.length : Int))) = true then
  (((slc h_ at_ (i64 (at_ + 3))).bind fun l =>
  (Xi l).bind fun y =>
  (Jt y).bind fun y2 =>
  if (!y2) = true then
  some (.inr o)
  else
  (slc h_ at_ (i64 (at_ + 192))).bind fun l2 =>
  (tov 192 l2).bind fun v =>
  (Jb v).bind fun y3 =>
  (ZaH y3).bind fun y4 =>
  if (y4 == true) = true then
  (app o [(api_Found.mk at_ y3)]).bind fun out2 =>
  if (!true) = true then
  some (.inl out2)
  else
  some (.inr out2)
  else
  if false = true then
  none
  else
  some (.inr o)) : Option ((List api_Found) ⊕ ((List api_Found)))).bind (Sum.elim (fun q' => some (.inr q')) (t1 fun (o2 : List api_Found) =>
  some (.inl (o2, (i64 (at_ + 1))))))
  else
  some (.inr o)

noncomputable def JS (h_ : List Int) (out : List api_Found) : Option (List api_Found) :=
  loop (t2 (Xp h_)) (out, 0)

noncomputable def ZaK (h_ : List Int) : Option (List api_Found) :=
  JS h_ []

noncomputable def Q3 (y : List api_Found) (out2 : List api_Found) (i : Int) : Option (((List api_Found) × Int) ⊕ ((List api_Found))) :=
  if (decide (i < (y.length : Int))) = true then
  (idx y i).bind fun x =>
  (gd ((decide (i = 0)) == false) (api_Found.mk 0 (Vector.replicate 64 0)) (idx y (i64 (i - 1)))).bind fun x2 =>
  (gd ((((decide (i = 0)) || (decide (192 ≤ (i64 (x.At - x2.At))))) == true) && ((decide (i = (i64 ((y.length : Int) - 1)))) == false)) (api_Found.mk 0 (Vector.replicate 64 0)) (idx y (i64 (i + 1)))).bind fun x3 =>
  if (((decide (i = 0)) || (decide (192 ≤ (i64 (x.At - x2.At))))) && ((decide (i = (i64 ((y.length : Int) - 1)))) || (decide (192 ≤ (i64 (x3.At - x.At)))))) = true then
  (app out2 ([x] : List api_Found)).bind fun l =>
  some (.inl (l, (i64 (i + 1))))
  else
  some (.inl (out2, (i64 (i + 1))))
  else
  some (.inr out2)

noncomputable def X9 (h_ : List Int) : Option (List api_Found) :=
  (ZaK h_).bind fun y =>
  ((loop (t2 (Q3 y)) ([], 0)) : Option (((List api_Found)))).bind (t1 fun (out : List api_Found) =>
  some out)

noncomputable def Ji (f : Vector Int 64) : Option (Int × Bool) :=
  (ZA f 1).bind fun x =>
  (Zat x).bind fun y =>
  (gd ((!y) == false) 0 (ZA f 2)).bind fun x2 =>
  (gd ((!y) == false) false (Zat x2)).bind fun y2 =>
  if ((!y) || (!y2)) = true then
  some (0, false)
  else
  (XF f).bind fun y3 =>
  some (y3, true)

noncomputable def Q8 (y : (List api_Found)) (numbers2 : List Int) (at__2 : List (Int × Int)) (i : Int) : Option (((List Int) × (List (Int × Int)) × Int) ⊕ ((List Int) × (List (Int × Int)))) :=
  if (decide (i < (y.length : Int))) = true then
  (((idx y i).bind fun x =>
  (Ji x.Frame).bind fun y2 =>
  (app numbers2 ([y2.1] : List Int)).bind fun l =>
  some (l, (Z0 kqI at__2 x.At i))) : Option (((List Int) × (List (Int × Int))))).bind (t2 fun (numbers3 : List Int) (at__3 : List (Int × Int)) =>
  some (.inl (numbers3, at__3, (i64 (i + 1)))))
  else
  some (.inr (numbers2, at__2))

noncomputable def XI (h_ : List Int) : Option salvage_finder :=
  (X9 h_).bind fun y =>
  ((loop (t3 (Q8 y)) ([], ([] : List (Int × Int)), 0)) : Option (((List Int) × (List (Int × Int))))).bind (t2 fun (numbers : List Int) (at__ : List (Int × Int)) =>
  some (salvage_finder.mk h_ y numbers ()))

noncomputable def XH (state : Int) (out2 : Vector Int 64) (i : Int) : Option (((Vector Int 64) × Int) ⊕ ((Vector Int 64))) :=
  if (decide (i < 64)) = true then
  (ZA out2 i).bind fun x =>
  some (.inl ((Qp out2 i state), (i64 (i + 1))))
  else
  some (.inr out2)

noncomputable def XD (state : Int) : Option (Vector Int 64) :=
  ((loop (t2 (XH state)) ((Vector.replicate 64 0), 0)) : Option (((Vector Int 64)))).bind (t1 fun (out : Vector Int 64) =>
  some out)

noncomputable def ZK (x : List api_Found) (target : Int) (cmp : api_Found → Int → Option Int) (i2 : Int) (j : Int) : Option ((Int × Int) ⊕ (Int)) :=
  if (decide (i2 < j)) = true then
  (shr .u64 (u64 (i64 (i2 + j))) 1).bind fun q =>
  (idx x (i64 q)).bind fun x2 =>
  (cmp x2 target).bind fun y =>
  if (decide (y < 0)) = true then
  some (.inl ((i64 ((i64 q) + 1)), j))
  else
  some (.inl (i2, (i64 q)))
  else
  some (.inr i2)

noncomputable def ZM (x : List api_Found) (target : Int) (cmp : api_Found → Int → Option Int) : Option (Int × Bool) :=
  ((loop (t2 (ZK x target cmp)) (0, (x.length : Int))) : Option ((Int))).bind (t1 fun (i : Int) =>
  (gd ((decide (i < (x.length : Int))) == true) (api_Found.mk 0 (Vector.replicate 64 0)) (idx x i)).bind fun x3 =>
  (gd ((decide (i < (x.length : Int))) == true) 0 (cmp x3 target)).bind fun y2 =>
  some (i, ((decide (i < (x.length : Int))) && (decide (y2 = 0)))))

noncomputable def Qe (c_ : api_Found) (at_ : Int) : Option Int :=
  some (i64 (c_.At - at_))

noncomputable def Qv (x : salvage_finder) (place : Int) : Option Int :=
  (ZM x.certain place (fun z0 z1 => Qe z0 z1)).bind fun y =>
  (gd (((decide (y.1 = (x.certain.length : Int))) == false) && ((decide (0 < y.1)) == true)) (api_Found.mk 0 (Vector.replicate 64 0)) (idx x.certain (i64 (y.1 - 1)))).bind fun x2 =>
  (gd (((decide (y.1 = (x.certain.length : Int))) == false) && ((decide (0 < y.1)) == true)) (api_Found.mk 0 (Vector.replicate 64 0)) (idx x.certain y.1)).bind fun x3 =>
  if ((decide (y.1 = (x.certain.length : Int))) || ((decide (0 < y.1)) && (decide ((i64 (place - x2.At)) ≤ (i64 (x3.At - place)))))) = true then
  some (i64 (y.1 - 1))
  else
  some y.1

noncomputable def J4 (n : Int) : Option Int :=
  some (max n (i64 (-n)))

noncomputable def Qy (x : salvage_finder) (i : Int) (x3 : Int) (out4 : List Int) (p : Int) : Option (((List Int) × Int) ⊕ ((List Int))) :=
  if ((decide ((-192) < p)) && (decide (p < (x.h_.length : Int)))) = true then
  (((Qv x p).bind fun y =>
  if (!decide (y = i)) = true then
  some (.inl out4)
  else
  (idx x.certain y).bind fun x4 =>
  (J4 (i64 (x4.At - p))).bind fun y2 =>
  if (decide (192 ≤ y2)) = true then
  (app out4 ([p] : List Int)).bind fun l =>
  some (.inr l)
  else
  some (.inr out4)) : Option (((List Int)) ⊕ ((List Int)))).bind (Sum.elim (fun q' => some (.inr q')) (t1 fun (out5 : List Int) =>
  some (.inl (out5, (i64 (p + x3))))))
  else
  some (.inr out4)

noncomputable def QB (x : salvage_finder) (i : Int) (x2 : api_Found) (out2 : List Int) (i2 : Int) : Option (((List Int) × Int) ⊕ ((List Int))) :=
  if (decide (i2 < (([(-194), 194] : List Int).length : Int))) = true then
  (((idx ([(-194), 194] : List Int) i2).bind fun x3 =>
  loop (t2 (Qy x i x3)) (out2, (i64 (x2.At + x3)))) : Option (((List Int)))).bind (t1 fun (out3 : List Int) =>
  some (.inl (out3, (i64 (i2 + 1)))))
  else
  some (.inr out2)

noncomputable def QE (x : salvage_finder) (i : Int) : Option (List Int) :=
  (idx x.certain i).bind fun x2 =>
  ((loop (t2 (QB x i x2)) ([], 0)) : Option (((List Int)))).bind (t1 fun (out : List Int) =>
  some out)

noncomputable def Z6 (h_ : List Int) (at_ : Int) (f2 : Vector Int 64) (whole2 : Vector Bool 64) (i : Int) : Option (((Vector Int 64) × (Vector Bool 64) × Int) ⊕ ((Vector Int 64) × (Vector Bool 64))) :=
  if (decide (i < 64)) = true then
  if ((decide (0 ≤ (i64 (at_ + (i64 (3 * i)))))) && (decide ((i64 ((i64 (at_ + (i64 (3 * i)))) + 3)) ≤ (h_.length : Int)))) = true then
  (slc h_ (i64 (at_ + (i64 (3 * i)))) (i64 ((i64 (at_ + (i64 (3 * i)))) + 3))).bind fun l =>
  (Xi l).bind fun y =>
  (ZA f2 i).bind fun x =>
  (ZA whole2 i).bind fun x2 =>
  some (.inl ((Qp f2 i y), (Qp whole2 i true), (i64 (i + 1))))
  else
  some (.inl (f2, whole2, (i64 (i + 1))))
  else
  some (.inr (f2, whole2))

noncomputable def Xg (h_ : List Int) (at_ : Int) : Option ((Vector Int 64) × (Vector Bool 64)) :=
  ((loop (t3 (Z6 h_ at_)) ((Vector.replicate 64 0), (Vector.replicate 64 false), 0)) : Option (((Vector Int 64) × (Vector Bool 64)))).bind (t2 fun (f : Vector Int 64) (whole : Vector Bool 64) =>
  some (f, whole))

noncomputable def Zbx (f : Vector Int 64) (whole : Vector Bool 64) : Option (Int × Bool) :=
  (ZA whole 0).bind fun x =>
  (gd ((!x) == false) false (ZA whole 1)).bind fun x2 =>
  (gd (((!x) || (!x2)) == false) false (ZA whole 2)).bind fun x3 =>
  if (((!x) || (!x2)) || (!x3)) = true then
  some (0, false)
  else
  (Ji f).bind fun y =>
  (Zah y.1).bind fun y2 =>
  (gd (y.2 == true) 0 (ZA f 0)).bind fun x4 =>
  some (y.1, (y.2 && (decide (x4 = (u16 y2.1)))))

noncomputable def QH (x : salvage_finder) (i : Int) (place : Int) (best2 : Int) (least : Int) (i2 : Int) : Option ((Int × Int × Int) ⊕ (Int)) :=
  if (decide (i2 < (x.certain.length : Int))) = true then
  (idx x.certain i2).bind fun x2 =>
  (gd ((decide (i2 = i)) == false) (api_Found.mk 0 (Vector.replicate 64 0)) (idx x.certain i)).bind fun x3 =>
  (gd ((decide (i2 = i)) == false) 0 (rem (i64 (x2.At - x3.At)) 194)).bind fun q =>
  if ((decide (i2 = i)) || (!decide (q = 0))) = true then
  some (.inl (best2, least, (i64 (i2 + 1))))
  else
  (J4 (i64 (x2.At - place))).bind fun y =>
  if ((decide (best2 < 0)) || (decide (y < least))) = true then
  some (.inl (i2, y, (i64 (i2 + 1))))
  else
  some (.inl (best2, least, (i64 (i2 + 1))))
  else
  some (.inr best2)

noncomputable def QM (x : salvage_finder) (i : Int) (place : Int) : Option Int :=
  ((loop (t3 (QH x i place)) ((-1), 0, 0)) : Option ((Int))).bind (t1 fun (best : Int) =>
  some best)

noncomputable def Zar (n : Int) (low : Int) (high : Int) : Option Bool :=
  some ((decide (low ≤ n)) && (decide (n ≤ high)))

noncomputable def QS (x : salvage_finder) (i : Int) (place : Int) (f : Vector Int 64) (whole : Vector Bool 64) : Option (Int × Bool) :=
  (Zbx f whole).bind fun y =>
  if y.2 = true then
  some (y.1, true)
  else
  (QM x i place).bind fun y2 =>
  if (decide (y2 < 0)) = true then
  some (0, false)
  else
  (idx x.certain i).bind fun x2 =>
  (quo .i64 (i64 (place - x2.At)) 194).bind fun q =>
  (idx x.certain y2).bind fun x3 =>
  (idx x.certain i).bind fun x4 =>
  (quo .i64 (i64 (x3.At - x4.At)) 194).bind fun q2 =>
  (idx x.numbers y2).bind fun x5 =>
  (idx x.numbers i).bind fun x6 =>
  (rem (i64 (x5 - x6)) q2).bind fun q3 =>
  (gd ((!decide (q3 = 0)) == false) 0 (quo .i64 (i64 (x5 - x6)) q2)).bind fun q4 =>
  if ((!decide (q3 = 0)) || (decide (q4 ≤ 0))) = true then
  some (0, false)
  else
  (idx x.numbers i).bind fun x7 =>
  (quo .i64 (i64 (x5 - x6)) q2).bind fun q5 =>
  (Zar (i64 (x7 + (i64 (q * q5)))) 0 4194303).bind fun y3 =>
  some ((i64 (x7 + (i64 (q * q5)))), y3)

noncomputable def Zct (w : Int) : Option Bool :=
  (Zat w).bind fun y =>
  some y

noncomputable def Xm (w : Int) (i : Int) (number : Int) : Option Bool :=
  if (decide (i = 0)) = true then
  (Zah number).bind fun y =>
  some (decide (w = (u16 y.1)))
  else
  if (decide (i = 1)) = true then
  (Zct w).bind fun y2 =>
  some (y2 && (decide ((i64 (Jq .u16 w 2047)) = (Jq .i64 number 2047))))
  else
  if (decide (i = 2)) = true then
  (Zct w).bind fun y3 =>
  (gd (y3 == true) 0 (shr .i64 number 11)).bind fun q =>
  some (y3 && (decide ((i64 (Jq .u16 w 2047)) = q)))
  else
  (Zct w).bind fun y4 =>
  some y4

noncomputable def Z9 (s : List Int) (f : Int → Option Bool) (i : Int) : Option ((Int) ⊕ (Int) ⊕ (Unit)) :=
  if (decide (i < (s.length : Int))) = true then
  (idx s i).bind fun x =>
  (f x).bind fun y =>
  if y = true then
  some (.inr (.inl i))
  else
  some (.inl (i64 (i + 1)))
  else
  some (.inr (.inr ()))

noncomputable def QQ (s : List Int) (f : Int → Option Bool) : Option Int :=
  ((loop (t1 (Z9 s f)) 0) : Option ((Int) ⊕ (Unit))).bind (Sum.elim (fun q' => some q') (t0 (some (-1))))

noncomputable def Qa (s : List Int) (f : Int → Option Bool) : Option Bool :=
  (QQ s f).bind fun y =>
  some (decide (0 ≤ y))

noncomputable def Za0 (s : Int) (c0 : Int) : Option Bool :=
  some (!decide (s = c0))

noncomputable def Jj (r_ : api_Rest) (state : Int) : Option Bool :=
  (slc r_.States.toList 0 (64 : Int)).bind fun l =>
  (Qa l (fun z0 => Za0 z0 state)).bind fun y =>
  some (!y)

noncomputable def Qn (y : (Vector Int 64) × (Vector Bool 64)) (y2 : Int × Bool) (r_2 : api_Rest) (i2 : Int) : Option ((api_Rest × Int) ⊕ (api_Rest)) :=
  if (decide (i2 < 64)) = true then
  (ZA y.1 i2).bind fun x2 =>
  (ZA y.2 i2).bind fun x3 =>
  (gd (x3 == true) false (Xm x2 i2 y2.1)).bind fun y3 =>
  if (x3 && y3) = true then
  (ZA r_2.Frame i2).bind fun x4 =>
  (ZA r_2.States i2).bind fun x5 =>
  some (.inl ((api_Rest.mk r_2.Number (Qp r_2.Frame i2 x2) (Qp r_2.States i2 1) r_2.Sound r_2.Copies r_2.Conflict), (i64 (i2 + 1))))
  else
  some (.inl (r_2, (i64 (i2 + 1))))
  else
  some (.inr r_2)

noncomputable def Qr (x : salvage_finder) (i : Int) (place : Int) : Option (api_Rest × Bool) :=
  (Xg x.h_ place).bind fun y =>
  (QS x i place y.1 y.2).bind fun y2 =>
  if (!y2.2) = true then
  some ((api_Rest.mk 0 (Vector.replicate 64 0) (Vector.replicate 64 0) false 0 false), false)
  else
  ((loop (t2 (Qn y y2)) ((api_Rest.mk y2.1 (Vector.replicate 64 0) (Vector.replicate 64 0) false 0 false), 0)) : Option ((api_Rest))).bind (t1 fun (r_ : api_Rest) =>
  (Jj r_ 0).bind fun y4 =>
  some (r_, (!y4)))

noncomputable def ZQ (s : List api_Rest) (f : api_Rest → Option Bool) (i : Int) : Option ((Int) ⊕ (Int) ⊕ (Unit)) :=
  if (decide (i < (s.length : Int))) = true then
  (idx s i).bind fun x =>
  (f x).bind fun y =>
  if y = true then
  some (.inr (.inl i))
  else
  some (.inl (i64 (i + 1)))
  else
  some (.inr (.inr ()))

noncomputable def Qb (s : List api_Rest) (f : api_Rest → Option Bool) : Option Int :=
  ((loop (t1 (ZQ s f)) 0) : Option ((Int) ⊕ (Unit))).bind (Sum.elim (fun q' => some q') (t0 (some (-1))))

noncomputable def ZW (s : List api_Rest) (f : api_Rest → Option Bool) : Option Bool :=
  (Qb s f).bind fun y =>
  some (decide (0 ≤ y))

noncomputable def JN (r_ : api_Rest) : Option Bool :=
  some r_.Conflict

noncomputable def Qx (o2 : api_Rest) (x : api_Rest) (States : Vector Int 64) (i2 : Int) : Option (((Vector Int 64) × Int) ⊕ (api_Rest)) :=
  if (decide (i2 < 64)) = true then
  (ZA x.States i2).bind fun x2 =>
  (ZA States i2).bind fun x3 =>
  (ZA States i2).bind fun x4 =>
  some (.inl ((Qp States i2 (max x3 x2)), (i64 (i2 + 1))))
  else
  some (.inr (api_Rest.mk o2.Number x.Frame States true o2.Copies o2.Conflict))

noncomputable def Xo (l : List api_Rest) (o2 : api_Rest) (i : Int) : Option ((api_Rest × Int) ⊕ (Bool × api_Rest) ⊕ (api_Rest)) :=
  if (decide (i < (l.length : Int))) = true then
  (((idx l i).bind fun x =>
  if (!x.Sound) = true then
  some (.inr o2)
  else
  if (o2.Sound && (!(decide (o2.Frame = x.Frame)))) = true then
  some (.inl (false, o2))
  else
  (loop (t2 (Qx o2 x)) (o2.States, 0)).bind (fun q' => some (.inr q'))) : Option ((Bool × api_Rest) ⊕ (api_Rest))).bind (Sum.elim (fun q' => some (.inr (.inl q'))) (t1 fun (o3 : api_Rest) =>
  some (.inl (o3, (i64 (i + 1))))))
  else
  some (.inr (.inr o2))

noncomputable def Ja (out : api_Rest) (l : List api_Rest) : Option (Bool × api_Rest) :=
  ((loop (t2 (Xo l)) (out, 0)) : Option ((Bool × api_Rest) ⊕ (api_Rest))).bind (Sum.elim (fun q' => some q') (t1 fun (o : api_Rest) =>
  some (true, o)))

noncomputable def Q7 (l : List api_Rest) (i : Int) (o4 : api_Rest) (differ2 : Bool) (i2 : Int) : Option ((api_Rest × Bool × Int) ⊕ (api_Rest × Bool)) :=
  if (decide (i2 < (l.length : Int))) = true then
  (idx l i2).bind fun x =>
  (ZA x.States i).bind fun x2 =>
  if (decide (x2 = 0)) = true then
  some (.inl (o4, differ2, (i64 (i2 + 1))))
  else
  (gd (differ2 == false) 0 (ZA o4.States i)).bind fun x3 =>
  (gd ((differ2 == false) && ((!decide (x3 = 0)) == true)) 0 (ZA o4.Frame i)).bind fun x4 =>
  (gd ((differ2 == false) && ((!decide (x3 = 0)) == true)) 0 (ZA x.Frame i)).bind fun x5 =>
  (ZA o4.States i).bind fun x6 =>
  (ZA x.Frame i).bind fun x7 =>
  (ZA o4.Frame i).bind fun x8 =>
  some (.inl ((api_Rest.mk o4.Number (Qp o4.Frame i x7) (Qp o4.States i 1) o4.Sound o4.Copies o4.Conflict), (differ2 || ((!decide (x3 = 0)) && (!decide (x4 = x5)))), (i64 (i2 + 1))))
  else
  some (.inr (o4, differ2))

noncomputable def Xr (l : List api_Rest) (o : api_Rest) (i : Int) : Option ((api_Rest × Int) ⊕ (api_Rest)) :=
  if (decide (i < 64)) = true then
  ((((loop (t3 (Q7 l i)) (o, false, 0)) : Option ((api_Rest × Bool))).bind (t2 fun (o3 : api_Rest) (differ : Bool) =>
  if differ = true then
  (ZA o3.States i).bind fun x9 =>
  (ZA o3.Frame i).bind fun x10 =>
  some (api_Rest.mk o3.Number (Qp o3.Frame i 0) (Qp o3.States i 0) o3.Sound o3.Copies o3.Conflict)
  else
  some o3)) : Option ((api_Rest))).bind (t1 fun (o2 : api_Rest) =>
  some (.inl (o2, (i64 (i + 1)))))
  else
  some (.inr o)

noncomputable def JO (out : api_Rest) (l : List api_Rest) : Option api_Rest :=
  loop (t2 (Xr l)) (out, 0)

noncomputable def Zay (s : Int) (c0 : Int) (c1 : Int) : Option Bool :=
  some ((decide (s = c0)) || (decide (s = c1)))

noncomputable def ZaJ (r_ : api_Rest) (a : Int) (b : Int) : Option Bool :=
  (slc r_.States.toList 0 (64 : Int)).bind fun l =>
  (Qa l (fun z0 => Zay z0 a b)).bind fun y =>
  some y

noncomputable def Xj (f : Vector Int 64) (number : Int) : Option Bool :=
  (Ji f).bind fun y =>
  (ZaH f).bind fun y2 =>
  some (y2 && (decide (y.1 = number)))

noncomputable def Xu (l : List api_Rest) (Copies2 : Int) (i : Int) : Option ((Int × Int) ⊕ (Int)) :=
  if (decide (i < (l.length : Int))) = true then
  (idx l i).bind fun x2 =>
  some (.inl ((i64 (Copies2 + x2.Copies)), (i64 (i + 1))))
  else
  some (.inr Copies2)

noncomputable def XX (l : List api_Rest) : Option api_Rest :=
  (idx l 0).bind fun x =>
  ((loop (t2 (Xu l)) (0, 0)) : Option ((Int))).bind (t1 fun (Copies : Int) =>
  (ZW l (fun z0 => JN z0)).bind fun y =>
  (Ja (api_Rest.mk x.Number (Vector.replicate 64 0) (Vector.replicate 64 0) false Copies false) l).bind fun y2 =>
  if (y || (!y2.1)) = true then
  some (api_Rest.mk y2.2.Number (Vector.replicate 64 0) (Vector.replicate 64 0) false y2.2.Copies true)
  else
  ((if (!y2.2.Sound) = true then
  (JO y2.2 l).bind fun y3 =>
  (ZaJ y3 0 0).bind fun y4 =>
  (gd ((!y4) == true) false (Xj y3.Frame y3.Number)).bind fun y5 =>
  if ((!y4) && y5) = true then
  (XD 3).bind fun y6 =>
  some (api_Rest.mk y3.Number y3.Frame y6 true 1 y3.Conflict)
  else
  some y3
  else
  some y2.2) : Option ((api_Rest))).bind (t1 fun (out : api_Rest) =>
  (gd (out.Sound == true) false (Jj out 3)).bind fun y7 =>
  if (out.Sound && y7) = true then
  some (api_Rest.mk out.Number out.Frame out.States out.Sound (max out.Copies 1) out.Conflict)
  else
  some out))

noncomputable def Q6 (l : List api_Rest) (groups2 : List (Int × (List api_Rest))) (numbers2 : List Int) (i : Int) : Option (((List (Int × (List api_Rest))) × (List Int) × Int) ⊕ ((List (Int × (List api_Rest))) × (List Int))) :=
  if (decide (i < (l.length : Int))) = true then
  (((idx l i).bind fun x =>
  (((some (ZiP (ZbU kqI groups2 x.Number))).bind (Sum.elim (fun z =>
  if true = true then
  (app numbers2 ([x.Number] : List Int)).bind fun l2 =>
  some l2
  else
  none) (fun z =>
  (ck (decide (0 < z.length))).bind fun u =>
  if false = true then
  none
  else
  some numbers2))) : Option (((List Int)))).bind (t1 fun (numbers4 : List Int) =>
  (some (ZiP (ZbU kqI groups2 x.Number))).bind (Sum.elim (fun z2 =>
  (app [] ([x] : List api_Rest)).bind fun l3 =>
  some ((Z0 kqI groups2 x.Number l3), numbers4)) (fun z2 =>
  (app z2 ([x] : List api_Rest)).bind fun l4 =>
  some ((Z0 kqI groups2 x.Number l4), numbers4))))) : Option (((List (Int × (List api_Rest))) × (List Int)))).bind (t2 fun (groups3 : List (Int × (List api_Rest))) (numbers3 : List Int) =>
  some (.inl (groups3, numbers3, (i64 (i + 1)))))
  else
  some (.inr (groups2, numbers2))

noncomputable def Q0 (groups : List (Int × (List api_Rest))) (y : List Int) (out2 : List api_Rest) (i2 : Int) : Option (((List api_Rest) × Int) ⊕ ((List api_Rest))) :=
  if (decide (i2 < (y.length : Int))) = true then
  (idx y i2).bind fun x2 =>
  (some (ZiP (ZbU kqI groups x2))).bind (Sum.elim (fun z3 =>
  (XX []).bind fun y2 =>
  (app out2 ([y2] : List api_Rest)).bind fun l5 =>
  some (.inl (l5, (i64 (i2 + 1))))) (fun z3 =>
  (XX z3).bind fun y3 =>
  (app out2 ([y3] : List api_Rest)).bind fun l6 =>
  some (.inl (l6, (i64 (i2 + 1))))))
  else
  some (.inr out2)

noncomputable def QO (l : List api_Rest) : Option (List api_Rest) :=
  ((loop (t3 (Q6 l)) (([] : List (Int × (List api_Rest))), [], 0)) : Option (((List (Int × (List api_Rest))) × (List Int)))).bind (t2 fun (groups : List (Int × (List api_Rest))) (numbers : List Int) =>
  (Zhl numbers).bind fun y =>
  ((loop (t2 (Q0 groups y)) ([], 0)) : Option (((List api_Rest)))).bind (t1 fun (out : List api_Rest) =>
  some out))

noncomputable def Xx (y : salvage_finder) (i : Int) (y3 : (List Int)) (l5 : List api_Rest) (i2 : Int) : Option (((List api_Rest) × Int) ⊕ ((List api_Rest))) :=
  if (decide (i2 < (y3.length : Int))) = true then
  (idx y3 i2).bind fun x3 =>
  (Qr y i x3).bind fun y4 =>
  if y4.2 = true then
  (app l5 ([y4.1] : List api_Rest)).bind fun l6 =>
  some (.inl (l6, (i64 (i2 + 1))))
  else
  some (.inl (l5, (i64 (i2 + 1))))
  else
  some (.inr l5)

noncomputable def Xs (y : salvage_finder) (l2 : List api_Rest) (i : Int) : Option (((List api_Rest) × Int) ⊕ ((List api_Rest))) :=
  if (decide (i < (y.certain.length : Int))) = true then
  (((idx y.certain i).bind fun x =>
  (idx y.numbers i).bind fun x2 =>
  (XD 3).bind fun y2 =>
  (app l2 ([(api_Rest.mk x2 x.Frame y2 true 1 false)] : List api_Rest)).bind fun l4 =>
  (QE y i).bind fun y3 =>
  loop (t2 (Xx y i y3)) (l4, 0)) : Option (((List api_Rest)))).bind (t1 fun (l3 : List api_Rest) =>
  some (.inl (l3, (i64 (i + 1)))))
  else
  some (.inr l2)

noncomputable def XY (h_ : List Int) : Option (List api_Rest) :=
  (XI h_).bind fun y =>
  ((loop (t2 (Xs y)) ([], 0)) : Option (((List api_Rest)))).bind (t1 fun (l : List api_Rest) =>
  (QO l).bind fun y5 =>
  some y5)

noncomputable def ZaT (p : api_Piece) : Option Int :=
  if (decide (200000 < (p.Bytes.length : Int))) = true then
  some 3
  else
  (gd ((p.Half == true) && ((decide ((p.Bytes.length : Int) = 0)) == false)) 0 (idx p.Bytes 0)).bind fun x =>
  if (p.Half && ((decide ((p.Bytes.length : Int) = 0)) || (decide (15 < x)))) = true then
  some 2
  else
  some 0

noncomputable def Zba (p : api_Piece) (out2 : List Int) (i : Int) : Option (((List Int) × Int) ⊕ ((List Int))) :=
  if (decide (i < (p.Bytes.length : Int))) = true then
  (idx p.Bytes i).bind fun x =>
  ((if ((decide (0 < i)) || (!p.Half)) = true then
  (quo .u8 x 16).bind fun q =>
  (app out2 ([q] : List Int)).bind fun l =>
  some l
  else
  some out2) : Option (((List Int)))).bind (t1 fun (out3 : List Int) =>
  (rem x 16).bind fun q2 =>
  (app out3 ([q2] : List Int)).bind fun l2 =>
  some (.inl (l2, (i64 (i + 1)))))
  else
  some (.inr out2)

noncomputable def Zbm (p : api_Piece) : Option (List Int) :=
  ((loop (t2 (Zba p)) ([], 0)) : Option (((List Int)))).bind (t1 fun (out : List Int) =>
  some out)

noncomputable def XM (h_ : List Int) (at_ : Int) (f2 : Vector Int 64) (whole2 : Vector Bool 64) (i : Int) : Option (((Vector Int 64) × (Vector Bool 64) × Int) ⊕ ((Vector Int 64) × (Vector Bool 64))) :=
  if (decide (i < 64)) = true then
  if ((decide ((i64 (at_ + (i64 (3 * i)))) < 0)) || (decide ((h_.length : Int) < (i64 ((i64 (at_ + (i64 (3 * i)))) + 3))))) = true then
  some (.inl (f2, whole2, (i64 (i + 1))))
  else
  (ZA whole2 i).bind fun x =>
  (idx h_ (i64 (at_ + (i64 (3 * i))))).bind fun x2 =>
  (idx h_ (i64 ((i64 (at_ + (i64 (3 * i)))) + 1))).bind fun x3 =>
  (idx h_ (i64 ((i64 (at_ + (i64 (3 * i)))) + 2))).bind fun x4 =>
  (ZA f2 i).bind fun x5 =>
  some (.inl ((Qp f2 i (u16 ((u16 ((u16 ((u16 x2) * 256)) + (u16 ((u16 x3) * 16)))) + (u16 x4)))), (Qp whole2 i true), (i64 (i + 1))))
  else
  some (.inr (f2, whole2))

noncomputable def ZaM (h_ : List Int) (at_ : Int) : Option ((Vector Int 64) × (Vector Bool 64)) :=
  ((loop (t3 (XM h_ at_)) ((#v[0, 0, 0, 0, 0, 0, 0, 0, 0, 0, 0, 0, 0, 0, 0, 0, 0, 0, 0, 0, 0, 0, 0, 0, 0, 0, 0, 0, 0, 0, 0, 0, 0, 0, 0, 0, 0, 0, 0, 0, 0, 0, 0, 0, 0, 0, 0, 0, 0, 0, 0, 0, 0, 0, 0, 0, 0, 0, 0, 0, 0, 0, 0, 0] : Vector Int 64), (#v[false, false, false, false, false, false, false, false, false, false, false, false, false, false, false, false, false, false, false, false, false, false, false, false, false, false, false, false, false, false, false, false, false, false, false, false, false, false, false, false, false, false, false, false, false, false, false, false, false, false, false, false, false, false, false, false, false, false, false, false, false, false, false, false] : Vector Bool 64), 0)) : Option (((Vector Int 64) × (Vector Bool 64)))).bind (t2 fun (f : Vector Int 64) (whole : Vector Bool 64) =>
  some (f, whole))

noncomputable def XB (f : Vector Int 64) : Option Int :=
  (ZA f 1).bind fun x =>
  (rem (i64 x) 2048).bind fun q =>
  (ZA f 2).bind fun x2 =>
  (rem (i64 x2) 2048).bind fun q2 =>
  some (i64 (q + (i64 (q2 * 2048))))

noncomputable def Jk (number : Int) : Option Int :=
  (rem number 4).bind fun q =>
  (ZA (#v[583, 1464, 2631, 3512] : Vector Int 4) q).bind fun x =>
  some x

noncomputable def ZeH (n2 : Int) (ones2 : Int) : Option ((Int × Int) ⊕ (Int)) :=
  if (decide (0 < n2)) = true then
  (rem n2 2).bind fun q =>
  (quo .i64 n2 2).bind fun q2 =>
  some (.inl (q2, (i64 (ones2 + q))))
  else
  some (.inr ones2)

noncomputable def ZcG (n : Int) : Option Bool :=
  ((loop (t2 (ZeH)) (n, 0)) : Option ((Int))).bind (t1 fun (ones : Int) =>
  (rem ones 2).bind fun q3 =>
  some (decide (q3 = 1)))

noncomputable def Zbg (f : Vector Int 64) (x2 : Int) (i : Int) : Option ((Int × Int) ⊕ (Int)) :=
  if (decide (i ≤ 60)) = true then
  (ZA f i).bind fun x3 =>
  (rem (i64 x3) 2048).bind fun q =>
  some (.inl ((ZcI .i64 x2 q), (i64 (i + 1))))
  else
  some (.inr x2)

noncomputable def Zb1 (f : Vector Int 64) : Option Int :=
  ((loop (t2 (Zbg f)) (0, 1)) : Option ((Int))).bind (t1 fun (x : Int) =>
  some x)

noncomputable def Zad (f : Vector Int 64) (rest2 : Int) (i : Int) : Option ((Int × Int) ⊕ (Int)) :=
  if (decide (i < 766)) = true then
  ((if (decide (i < 744)) = true then
  (quo .i64 i 12).bind fun q =>
  (ZA f q).bind fun x =>
  (rem i 12).bind fun q2 =>
  (shr .i64 (i64 x) (i64 (11 - q2))).bind fun q3 =>
  some (Jq .i64 q3 1)
  else
  some 0) : Option ((Int))).bind (t1 fun (bit : Int) =>
  if (decide (4194304 ≤ (i64 ((i64 (rest2 * 2)) + bit)))) = true then
  some (.inl ((ZcI .i64 (i64 ((i64 (rest2 * 2)) + bit)) 6291471), (i64 (i + 1))))
  else
  some (.inl ((i64 ((i64 (rest2 * 2)) + bit)), (i64 (i + 1)))))
  else
  some (.inr rest2)

noncomputable def J8 (f : Vector Int 64) : Option Int :=
  ((loop (t2 (Zad f)) (0, 0)) : Option ((Int))).bind (t1 fun (rest : Int) =>
  some rest)

noncomputable def ZbX (f : Vector Int 64) (out2 : List api_Flaw) (i : Int) : Option (((List api_Flaw) × Int) ⊕ ((List api_Flaw))) :=
  if (decide (i < 64)) = true then
  (ZA f i).bind fun x =>
  if (decide (4095 < x)) = true then
  (app out2 ([(api_Flaw.mk i 5)] : List api_Flaw)).bind fun l =>
  some (.inl (l, (i64 (i + 1))))
  else
  some (.inl (out2, (i64 (i + 1))))
  else
  some (.inr out2)

noncomputable def ZbW (f : Vector Int 64) (out5 : List api_Flaw) (i2 : Int) : Option (((List api_Flaw) × Int) ⊕ ((List api_Flaw))) :=
  if (decide (i2 < 64)) = true then
  (ZA f i2).bind fun x3 =>
  (ZcG (i64 x3)).bind fun y3 =>
  if (!y3) = true then
  (app out5 ([(api_Flaw.mk i2 2)] : List api_Flaw)).bind fun l3 =>
  some (.inl (l3, (i64 (i2 + 1))))
  else
  some (.inl (out5, (i64 (i2 + 1))))
  else
  some (.inr out5)

noncomputable def Zev (f : Vector Int 64) : Option (List api_Flaw) :=
  ((loop (t2 (ZbX f)) ([], 0)) : Option (((List api_Flaw)))).bind (t1 fun (out : List api_Flaw) =>
  if (decide (0 < (out.length : Int))) = true then
  some out
  else
  (((ZA f 0).bind fun x2 =>
  (XB f).bind fun y =>
  (Jk y).bind fun y2 =>
  if (!decide ((i64 x2) = y2)) = true then
  (app out ([(api_Flaw.mk 0 1)] : List api_Flaw)).bind fun l2 =>
  some l2
  else
  some out) : Option (((List api_Flaw)))).bind (t1 fun (out3 : List api_Flaw) =>
  ((loop (t2 (ZbW f)) (out3, 1)) : Option (((List api_Flaw)))).bind (t1 fun (out4 : List api_Flaw) =>
  (((ZA f 61).bind fun x4 =>
  (rem (i64 x4) 2048).bind fun q =>
  (Zb1 f).bind fun y4 =>
  if (!decide (q = y4)) = true then
  (app out4 ([(api_Flaw.mk 61 3)] : List api_Flaw)).bind fun l4 =>
  some l4
  else
  some out4) : Option (((List api_Flaw)))).bind (t1 fun (out6 : List api_Flaw) =>
  (ZA f 62).bind fun x5 =>
  (rem (i64 x5) 2048).bind fun q2 =>
  (ZA f 63).bind fun x6 =>
  (rem (i64 x6) 2048).bind fun q3 =>
  (J8 f).bind fun y5 =>
  if (!decide ((i64 ((i64 (q2 * 2048)) + q3)) = y5)) = true then
  (app out6 ([(api_Flaw.mk 62 4)] : List api_Flaw)).bind fun l5 =>
  some l5
  else
  some out6))))

noncomputable def Zcd (f : Vector Int 64) : Option Bool :=
  (Zev f).bind fun y =>
  some (decide ((y.length : Int) = 0))

noncomputable def ZcH (h_ : List Int) (out2 : List api_Found) (at_ : Int) : Option (((List api_Found) × Int) ⊕ ((List api_Found))) :=
  if (decide ((i64 (at_ + 192)) ≤ (h_.length : Int))) = true then
  (((idx h_ at_).bind fun x =>
  (idx h_ (i64 (at_ + 1))).bind fun x2 =>
  (idx h_ (i64 (at_ + 2))).bind fun x3 =>
  if ((((!decide ((i64 ((i64 ((i64 ((i64 x) * 256)) + (i64 ((i64 x2) * 16)))) + (i64 x3))) = 583)) && (!decide ((i64 ((i64 ((i64 ((i64 x) * 256)) + (i64 ((i64 x2) * 16)))) + (i64 x3))) = 1464))) && (!decide ((i64 ((i64 ((i64 ((i64 x) * 256)) + (i64 ((i64 x2) * 16)))) + (i64 x3))) = 2631))) && (!decide ((i64 ((i64 ((i64 ((i64 x) * 256)) + (i64 ((i64 x2) * 16)))) + (i64 x3))) = 3512))) = true then
  some out2
  else
  (ZaM h_ at_).bind fun y =>
  (Zcd y.1).bind fun y2 =>
  if y2 = true then
  (app out2 ([(api_Found.mk at_ y.1)] : List api_Found)).bind fun l =>
  some l
  else
  some out2) : Option (((List api_Found)))).bind (t1 fun (out3 : List api_Found) =>
  some (.inl (out3, (i64 (at_ + 1)))))
  else
  some (.inr out2)

noncomputable def Zfi (h_ : List Int) : Option (List api_Found) :=
  ((loop (t2 (ZcH h_)) ([], 0)) : Option (((List api_Found)))).bind (t1 fun (out : List api_Found) =>
  some out)

noncomputable def Q2 (a : Int) (b : Int) : Option Int :=
  if (decide (a < b)) = true then
  some (i64 (b - a))
  else
  some (i64 (a - b))

noncomputable def JQ (l : List api_Found) (out2 : List api_Found) (i : Int) : Option (((List api_Found) × Int) ⊕ ((List api_Found))) :=
  if (decide (i < (l.length : Int))) = true then
  (idx l i).bind fun x =>
  (gd ((decide (i = 0)) == false) (api_Found.mk 0 (Vector.replicate 64 0)) (idx l (i64 (i - 1)))).bind fun x2 =>
  (gd ((decide (i = 0)) == false) 0 (Q2 x2.At x.At)).bind fun y =>
  (gd ((((decide (i = 0)) || (decide (192 ≤ y))) == true) && ((decide ((i64 (i + 1)) = (l.length : Int))) == false)) (api_Found.mk 0 (Vector.replicate 64 0)) (idx l (i64 (i + 1)))).bind fun x3 =>
  (gd ((((decide (i = 0)) || (decide (192 ≤ y))) == true) && ((decide ((i64 (i + 1)) = (l.length : Int))) == false)) 0 (Q2 x3.At x.At)).bind fun y2 =>
  if (((decide (i = 0)) || (decide (192 ≤ y))) && ((decide ((i64 (i + 1)) = (l.length : Int))) || (decide (192 ≤ y2)))) = true then
  (app out2 ([x] : List api_Found)).bind fun l2 =>
  some (.inl (l2, (i64 (i + 1))))
  else
  some (.inl (out2, (i64 (i + 1))))
  else
  some (.inr out2)

noncomputable def Zc5 (l : List api_Found) : Option (List api_Found) :=
  ((loop (t2 (JQ l)) ([], 0)) : Option (((List api_Found)))).bind (t1 fun (out : List api_Found) =>
  some out)

noncomputable def Zac (w : Int) : Option Bool :=
  (gd ((decide (w ≤ 4095)) == true) false (ZcG (i64 w))).bind fun y =>
  some ((decide (w ≤ 4095)) && y)

noncomputable def Zcw (f : Vector Int 64) : Option (Int × Bool) :=
  (ZA f 1).bind fun x =>
  (Zac x).bind fun y =>
  (gd ((!y) == false) 0 (ZA f 2)).bind fun x2 =>
  (gd ((!y) == false) false (Zac x2)).bind fun y2 =>
  if ((!y) || (!y2)) = true then
  some (0, false)
  else
  (XB f).bind fun y3 =>
  some (y3, true)

noncomputable def X2 (f : Vector Int 64) : Option Int :=
  (Zcw f).bind fun y =>
  some y.1

noncomputable def ZaS (l : List api_Found) (at_ : Int) (best2 : Int) (i : Int) : Option ((Int × Int) ⊕ (Int)) :=
  if (decide (i < (l.length : Int))) = true then
  (idx l i).bind fun x =>
  (gd ((decide (best2 < 0)) == false) 0 (Q2 x.At at_)).bind fun y =>
  (gd ((decide (best2 < 0)) == false) (api_Found.mk 0 (Vector.replicate 64 0)) (idx l best2)).bind fun x2 =>
  (gd ((decide (best2 < 0)) == false) 0 (Q2 x2.At at_)).bind fun y2 =>
  if ((decide (best2 < 0)) || (decide (y < y2))) = true then
  some (.inl (i, (i64 (i + 1))))
  else
  some (.inl (best2, (i64 (i + 1))))
  else
  some (.inr best2)

noncomputable def ZbG (l : List api_Found) (at_ : Int) : Option Int :=
  ((loop (t2 (ZaS l at_)) ((-1), 0)) : Option ((Int))).bind (t1 fun (best : Int) =>
  some best)

noncomputable def Zcv (number : Int) : Option (Int × Int) :=
  if ((decide (number < 0)) || (decide (4194304 ≤ number))) = true then
  some (0, 9)
  else
  (Jk number).bind fun y =>
  some (y, 0)

noncomputable def Zan (f : Vector Int 64) (whole : Vector Bool 64) : Option (Int × Bool) :=
  (ZA whole 0).bind fun x =>
  (gd ((!x) == false) false (ZA whole 1)).bind fun x2 =>
  (gd (((!x) || (!x2)) == false) false (ZA whole 2)).bind fun x3 =>
  if (((!x) || (!x2)) || (!x3)) = true then
  some (0, false)
  else
  (Zcw f).bind fun y =>
  if (!y.2) = true then
  some (0, false)
  else
  (Zcv y.1).bind fun y2 =>
  (ZA f 0).bind fun x4 =>
  some (y.1, (decide ((i64 x4) = y2.1)))

noncomputable def XL (l : List api_Found) (c_ : Int) (at_ : Int) (best2 : Int) (i : Int) : Option ((Int × Int) ⊕ (Int)) :=
  if (decide (i < (l.length : Int))) = true then
  (idx l i).bind fun x =>
  (gd ((decide (i = c_)) == false) (api_Found.mk 0 (Vector.replicate 64 0)) (idx l c_)).bind fun x2 =>
  (gd ((decide (i = c_)) == false) 0 (rem (i64 (x.At - x2.At)) 194)).bind fun q =>
  if ((decide (i = c_)) || (!decide (q = 0))) = true then
  some (.inl (best2, (i64 (i + 1))))
  else
  (gd ((decide (best2 < 0)) == false) 0 (Q2 x.At at_)).bind fun y =>
  (gd ((decide (best2 < 0)) == false) (api_Found.mk 0 (Vector.replicate 64 0)) (idx l best2)).bind fun x3 =>
  (gd ((decide (best2 < 0)) == false) 0 (Q2 x3.At at_)).bind fun y2 =>
  if ((decide (best2 < 0)) || (decide (y < y2))) = true then
  some (.inl (i, (i64 (i + 1))))
  else
  some (.inl (best2, (i64 (i + 1))))
  else
  some (.inr best2)

noncomputable def Jp (l : List api_Found) (c_ : Int) (at_ : Int) : Option (Int × Bool) :=
  ((loop (t2 (XL l c_ at_)) ((-1), 0)) : Option ((Int))).bind (t1 fun (best : Int) =>
  if (decide (best < 0)) = true then
  some (0, false)
  else
  (idx l c_).bind fun x4 =>
  (quo .i64 (i64 (at_ - x4.At)) 194).bind fun q2 =>
  (idx l best).bind fun x5 =>
  (idx l c_).bind fun x6 =>
  (quo .i64 (i64 (x5.At - x6.At)) 194).bind fun q3 =>
  (idx l c_).bind fun x7 =>
  (X2 x7.Frame).bind fun y3 =>
  (idx l best).bind fun x8 =>
  (X2 x8.Frame).bind fun y4 =>
  (idx l c_).bind fun x9 =>
  (X2 x9.Frame).bind fun y5 =>
  (gd (((decide ((i64 (y4 - y5)) = 0)) || (!((decide (0 < (i64 (y4 - y5)))) == (decide (0 < q3))))) == false) 0 (rem (i64 (y4 - y5)) q3)).bind fun q4 =>
  if (((decide ((i64 (y4 - y5)) = 0)) || (!((decide (0 < (i64 (y4 - y5)))) == (decide (0 < q3))))) || (!decide (q4 = 0))) = true then
  some (0, false)
  else
  (quo .i64 (i64 (y4 - y5)) q3).bind fun q5 =>
  some ((i64 (y3 + (i64 (q2 * q5)))), ((decide (0 ≤ (i64 (y3 + (i64 (q2 * q5)))))) && (decide ((i64 (y3 + (i64 (q2 * q5)))) < 4194304)))))

noncomputable def Zbh (f : Vector Int 64) (whole : Vector Bool 64) (n : Int) (y : Int × Int) (r_2 : api_Rest) (i : Int) : Option ((api_Rest × Int) ⊕ (api_Rest)) :=
  if (decide (i < 64)) = true then
  (ZA whole i).bind fun x =>
  (gd (x == true) 0 (ZA f i)).bind fun x2 =>
  (gd (x == true) false (Zac x2)).bind fun y2 =>
  ((if (decide (i = 0)) = true then
  (ZA whole i).bind fun x3 =>
  (gd (x3 == true) 0 (ZA f i)).bind fun x4 =>
  some (x3 && (decide ((i64 x4) = y.1)))
  else
  if (decide (i = 1)) = true then
  (gd ((x && y2) == true) 0 (ZA f i)).bind fun x5 =>
  (gd ((x && y2) == true) 0 (rem (i64 x5) 2048)).bind fun q =>
  (gd ((x && y2) == true) 0 (rem n 2048)).bind fun q2 =>
  some ((x && y2) && (decide (q = q2)))
  else
  if (decide (i = 2)) = true then
  (gd ((x && y2) == true) 0 (ZA f i)).bind fun x6 =>
  (gd ((x && y2) == true) 0 (rem (i64 x6) 2048)).bind fun q3 =>
  (gd ((x && y2) == true) 0 (quo .i64 n 2048)).bind fun q4 =>
  some ((x && y2) && (decide (q3 = q4)))
  else
  some (x && y2)) : Option ((Bool))).bind (t1 fun (right : Bool) =>
  if right = true then
  (ZA f i).bind fun x7 =>
  (ZA r_2.Frame i).bind fun x8 =>
  (ZA r_2.States i).bind fun x9 =>
  some (.inl ((api_Rest.mk r_2.Number (Qp r_2.Frame i x7) (Qp r_2.States i 1) r_2.Sound r_2.Copies r_2.Conflict), (i64 (i + 1))))
  else
  some (.inl (r_2, (i64 (i + 1)))))
  else
  some (.inr r_2)

noncomputable def ZaG (f : Vector Int 64) (whole : Vector Bool 64) (n : Int) : Option api_Rest :=
  (Zcv n).bind fun y =>
  ((loop (t2 (Zbh f whole n y)) ((api_Rest.mk n (Vector.replicate 64 0) (Vector.replicate 64 0) false 0 false), 0)) : Option ((api_Rest))).bind (t1 fun (r_ : api_Rest) =>
  some r_)

noncomputable def JD (r_ : api_Rest) : Option Bool :=
  some (decide (r_.States = (#v[0, 0, 0, 0, 0, 0, 0, 0, 0, 0, 0, 0, 0, 0, 0, 0, 0, 0, 0, 0, 0, 0, 0, 0, 0, 0, 0, 0, 0, 0, 0, 0, 0, 0, 0, 0, 0, 0, 0, 0, 0, 0, 0, 0, 0, 0, 0, 0, 0, 0, 0, 0, 0, 0, 0, 0, 0, 0, 0, 0, 0, 0, 0, 0] : Vector Int 64)))

noncomputable def ZaY (States2 : Vector Int 64) (i2 : Int) : Option (((Vector Int 64) × Int) ⊕ ((Vector Int 64))) :=
  if (decide (i2 < 64)) = true then
  (ZA States2 i2).bind fun x2 =>
  some (.inl ((Qp States2 i2 3), (i64 (i2 + 1))))
  else
  some (.inr States2)

noncomputable def ZbY (y2 : (List api_Found)) (out2 : List api_Rest) (i : Int) : Option (((List api_Rest) × Int) ⊕ ((List api_Rest))) :=
  if (decide (i < (y2.length : Int))) = true then
  (idx y2 i).bind fun x =>
  (X2 x.Frame).bind fun y3 =>
  ((loop (t2 (ZaY)) ((Vector.replicate 64 0), 0)) : Option (((Vector Int 64)))).bind (t1 fun (States : Vector Int 64) =>
  (app out2 ([(api_Rest.mk y3 x.Frame States true 1 false)] : List api_Rest)).bind fun l =>
  some (.inl (l, (i64 (i + 1)))))
  else
  some (.inr out2)

noncomputable def Zb4 (h_ : List Int) (y2 : (List api_Found)) (i3 : Int) (out6 : List api_Rest) (at_ : Int) : Option (((List api_Rest) × Int) ⊕ ((List api_Rest))) :=
  if (decide (at_ < (h_.length : Int))) = true then
  (((gd ((decide (at_ < (-191))) == false) 0 (ZbG y2 at_)).bind fun y4 =>
  (gd (((decide (at_ < (-191))) || (!decide (y4 = i3))) == false) 0 (ZbG y2 at_)).bind fun y5 =>
  (gd (((decide (at_ < (-191))) || (!decide (y4 = i3))) == false) (api_Found.mk 0 (Vector.replicate 64 0)) (idx y2 y5)).bind fun x4 =>
  (gd (((decide (at_ < (-191))) || (!decide (y4 = i3))) == false) 0 (Q2 x4.At at_)).bind fun y6 =>
  if (((decide (at_ < (-191))) || (!decide (y4 = i3))) || (decide (y6 < 192))) = true then
  some out6
  else
  (ZaM h_ at_).bind fun y7 =>
  (Zan y7.1 y7.2).bind fun y8 =>
  ((if (!y8.2) = true then
  (Jp y2 i3 at_).bind fun y9 =>
  some (y9.1, y9.2)
  else
  some (y8.1, y8.2)) : Option ((Int × Bool))).bind (t2 fun (n : Int) (ok : Bool) =>
  (ZaG y7.1 y7.2 n).bind fun y10 =>
  (gd (ok == true) false (JD y10)).bind fun y11 =>
  if (ok && (!y11)) = true then
  (app out6 ([y10] : List api_Rest)).bind fun l2 =>
  some l2
  else
  some out6)) : Option (((List api_Rest)))).bind (t1 fun (out7 : List api_Rest) =>
  some (.inl (out7, (i64 (at_ + 194)))))
  else
  some (.inr out6)

noncomputable def ZbZ (h_ : List Int) (y2 : (List api_Found)) (out4 : List api_Rest) (i3 : Int) : Option (((List api_Rest) × Int) ⊕ ((List api_Rest))) :=
  if (decide (i3 < (y2.length : Int))) = true then
  (((idx y2 i3).bind fun x3 =>
  (quo .i64 x3.At 194).bind fun q =>
  loop (t2 (Zb4 h_ y2 i3)) (out4, (i64 ((i64 (x3.At - (i64 (q * 194)))) - 194)))) : Option (((List api_Rest)))).bind (t1 fun (out5 : List api_Rest) =>
  some (.inl (out5, (i64 (i3 + 1)))))
  else
  some (.inr out4)

noncomputable def Zcp (h_ : List Int) : Option (List api_Rest) :=
  (Zfi h_).bind fun y =>
  (Zc5 y).bind fun y2 =>
  ((loop (t2 (ZbY y2)) ([], 0)) : Option (((List api_Rest)))).bind (t1 fun (out : List api_Rest) =>
  ((loop (t2 (ZbZ h_ y2)) (out, 0)) : Option (((List api_Rest)))).bind (t1 fun (out3 : List api_Rest) =>
  some out3))

noncomputable def JU (r_ : api_Rest) (i : Int) : Option ((Int) ⊕ (Bool) ⊕ (Unit)) :=
  if (decide (i < 64)) = true then
  (ZA r_.States i).bind fun x =>
  if (!decide (x = 3)) = true then
  some (.inr (.inl false))
  else
  some (.inl (i64 (i + 1)))
  else
  some (.inr (.inr ()))

noncomputable def Zc2 (r_ : api_Rest) : Option Bool :=
  ((loop (t1 (JU r_)) 0) : Option ((Bool) ⊕ (Unit))).bind (Sum.elim (fun q' => some q') (t0 (some true)))

noncomputable def Zbb (l : List api_Rest) (i : Int) (w2 : Int) (some_2 : Bool) (i2 : Int) : Option ((Int × Bool × Int) ⊕ (Int × Bool) ⊕ (Int × Bool)) :=
  if (decide (i2 < (l.length : Int))) = true then
  (idx l i2).bind fun x =>
  (ZA x.States i).bind fun x2 =>
  if (decide (x2 = 0)) = true then
  some (.inl (w2, some_2, (i64 (i2 + 1))))
  else
  (gd (some_2 == true) 0 (ZA x.Frame i)).bind fun x3 =>
  if (some_2 && (!decide (w2 = x3))) = true then
  some (.inr (.inl (0, false)))
  else
  (ZA x.Frame i).bind fun x4 =>
  some (.inl (x4, true, (i64 (i2 + 1))))
  else
  some (.inr (.inr (w2, some_2)))

noncomputable def ZdF (l : List api_Rest) (i : Int) : Option (Int × Bool) :=
  ((loop (t3 (Zbb l i)) (0, false, 0)) : Option ((Int × Bool) ⊕ (Int × Bool))).bind (Sum.elim (fun q' => some q') (t2 fun (w : Int) (some_ : Bool) =>
  some (w, some_)))

noncomputable def XT (out2 : api_Rest) (x2 : api_Rest) (Conflict : Bool) (States : Vector Int 64) (i2 : Int) : Option (((Vector Int 64) × Int) ⊕ (api_Rest)) :=
  if (decide (i2 < 64)) = true then
  (ZA x2.States i2).bind fun x3 =>
  (ZA States i2).bind fun x4 =>
  (ZA States i2).bind fun x5 =>
  some (.inl ((Qp States i2 (max x4 x3)), (i64 (i2 + 1))))
  else
  some (.inr (api_Rest.mk out2.Number x2.Frame States true (i64 (out2.Copies + x2.Copies)) Conflict))

noncomputable def ZaZ (l : List api_Rest) (out2 : api_Rest) (i : Int) : Option ((api_Rest × Int) ⊕ (api_Rest)) :=
  if (decide (i < (l.length : Int))) = true then
  (((idx l i).bind fun x2 =>
  if (!x2.Sound) = true then
  some (api_Rest.mk out2.Number out2.Frame out2.States out2.Sound (i64 (out2.Copies + x2.Copies)) (out2.Conflict || x2.Conflict))
  else
  ((if (out2.Sound && (!(decide (out2.Frame = x2.Frame)))) = true then
  some true
  else
  some (out2.Conflict || x2.Conflict)) : Option ((Bool))).bind (t1 fun (Conflict : Bool) =>
  loop (t2 (XT out2 x2 Conflict)) (out2.States, 0))) : Option ((api_Rest))).bind (t1 fun (out3 : api_Rest) =>
  some (.inl (out3, (i64 (i + 1)))))
  else
  some (.inr out2)

noncomputable def ZaX (l : List api_Rest) (out5 : api_Rest) (whole2 : Bool) (i3 : Int) : Option ((api_Rest × Bool × Int) ⊕ (api_Rest × Bool)) :=
  if (decide (i3 < 64)) = true then
  (ZdF l i3).bind fun y2 =>
  if y2.2 = true then
  (ZA out5.Frame i3).bind fun x6 =>
  (ZA out5.States i3).bind fun x7 =>
  some (.inl ((api_Rest.mk out5.Number (Qp out5.Frame i3 y2.1) (Qp out5.States i3 1) out5.Sound out5.Copies out5.Conflict), (whole2 && y2.2), (i64 (i3 + 1))))
  else
  some (.inl (out5, (whole2 && y2.2), (i64 (i3 + 1))))
  else
  some (.inr (out5, whole2))

noncomputable def Zb6 (States3 : Vector Int 64) (i4 : Int) : Option (((Vector Int 64) × Int) ⊕ ((Vector Int 64))) :=
  if (decide (i4 < 64)) = true then
  (ZA States3 i4).bind fun x8 =>
  some (.inl ((Qp States3 i4 3), (i64 (i4 + 1))))
  else
  some (.inr States3)

noncomputable def Zcn (l : List api_Rest) : Option api_Rest :=
  (idx l 0).bind fun x =>
  ((loop (t2 (ZaZ l)) ((api_Rest.mk x.Number (Vector.replicate 64 0) (Vector.replicate 64 0) false 0 false), 0)) : Option ((api_Rest))).bind (t1 fun (out : api_Rest) =>
  if out.Conflict = true then
  some (api_Rest.mk out.Number (Vector.replicate 64 0) (Vector.replicate 64 0) false out.Copies true)
  else
  if out.Sound = true then
  (gd ((decide (out.Copies = 0)) == true) false (Zc2 out)).bind fun y =>
  if ((decide (out.Copies = 0)) && y) = true then
  some (api_Rest.mk out.Number out.Frame out.States out.Sound 1 out.Conflict)
  else
  some out
  else
  ((loop (t3 (ZaX l)) (out, true, 0)) : Option ((api_Rest × Bool))).bind (t2 fun (out4 : api_Rest) (whole : Bool) =>
  (gd (whole == true) false (Zcd out4.Frame)).bind fun y3 =>
  (gd ((whole && y3) == true) 0 (X2 out4.Frame)).bind fun y4 =>
  if ((whole && y3) && (decide (y4 = out4.Number))) = true then
  ((loop (t2 (Zb6)) (out4.States, 0)) : Option (((Vector Int 64)))).bind (t1 fun (States2 : Vector Int 64) =>
  some (api_Rest.mk out4.Number out4.Frame States2 true 1 out4.Conflict))
  else
  some out4))

noncomputable def ZaW (order2 : List Int) (x : api_Rest) (at_2 : Int) : Option ((Int) ⊕ (Int)) :=
  (gd ((decide (0 < at_2)) == true) 0 (idx order2 (i64 (at_2 - 1)))).bind fun x2 =>
  if ((decide (0 < at_2)) && (decide (x.Number < x2))) = true then
  some (.inl (i64 (at_2 - 1)))
  else
  some (.inr at_2)

noncomputable def ZdR (order2 : List Int) (x : api_Rest) (at_4 : Int) : Option ((Int) ⊕ (Int)) :=
  (gd ((decide (0 < at_4)) == true) 0 (idx order2 (i64 (at_4 - 1)))).bind fun x4 =>
  if ((decide (0 < at_4)) && (decide (x.Number < x4))) = true then
  some (.inl (i64 (at_4 - 1)))
  else
  some (.inr at_4)

noncomputable def JM (l : List api_Rest) (order2 : List Int) (by_2 : List (Int × (List api_Rest))) (i : Int) : Option (((List Int) × (List (Int × (List api_Rest))) × Int) ⊕ ((List Int) × (List (Int × (List api_Rest))))) :=
  if (decide (i < (l.length : Int))) = true then
  (((idx l i).bind fun x =>
  (((some (ZiP (ZbU kqI by_2 x.Number))).bind (Sum.elim (fun z =>
  if (decide (0 = 0)) = true then
  ((loop (t1 (ZaW order2 x)) (order2.length : Int)) : Option ((Int))).bind (t1 fun (at_ : Int) =>
  (app order2 ([0] : List Int)).bind fun l2 =>
  (slq l2 (i64 (at_ + 1)) (l2.length : Int)).bind fun u =>
  (slq l2 at_ (l2.length : Int)).bind fun u2 =>
  (idx (cpy l2 (i64 (at_ + 1)).toNat (Int.toNat ((l2.length : Int) - (i64 (at_ + 1)))) at_.toNat (Int.toNat ((l2.length : Int) - at_))) at_).bind fun x3 =>
  some ((cpy l2 (i64 (at_ + 1)).toNat (Int.toNat ((l2.length : Int) - (i64 (at_ + 1)))) at_.toNat (Int.toNat ((l2.length : Int) - at_))).set at_.toNat x.Number))
  else
  some order2) (fun z =>
  if (decide ((z.length : Int) = 0)) = true then
  ((loop (t1 (ZdR order2 x)) (order2.length : Int)) : Option ((Int))).bind (t1 fun (at_3 : Int) =>
  (app order2 ([0] : List Int)).bind fun l3 =>
  (slq l3 (i64 (at_3 + 1)) (l3.length : Int)).bind fun u3 =>
  (slq l3 at_3 (l3.length : Int)).bind fun u4 =>
  (idx (cpy l3 (i64 (at_3 + 1)).toNat (Int.toNat ((l3.length : Int) - (i64 (at_3 + 1)))) at_3.toNat (Int.toNat ((l3.length : Int) - at_3))) at_3).bind fun x5 =>
  some ((cpy l3 (i64 (at_3 + 1)).toNat (Int.toNat ((l3.length : Int) - (i64 (at_3 + 1)))) at_3.toNat (Int.toNat ((l3.length : Int) - at_3))).set at_3.toNat x.Number))
  else
  some order2))) : Option (((List Int)))).bind (t1 fun (order4 : List Int) =>
  (some (ZiP (ZbU kqI by_2 x.Number))).bind (Sum.elim (fun z2 =>
  (app [] ([x] : List api_Rest)).bind fun l4 =>
  some (order4, (Z0 kqI by_2 x.Number l4))) (fun z2 =>
  (app z2 ([x] : List api_Rest)).bind fun l5 =>
  some (order4, (Z0 kqI by_2 x.Number l5)))))) : Option (((List Int) × (List (Int × (List api_Rest)))))).bind (t2 fun (order3 : List Int) (by_3 : List (Int × (List api_Rest))) =>
  some (.inl (order3, by_3, (i64 (i + 1)))))
  else
  some (.inr (order2, by_2))

noncomputable def JP (order : List Int) (by_ : List (Int × (List api_Rest))) (out2 : List api_Rest) (i2 : Int) : Option (((List api_Rest) × Int) ⊕ ((List api_Rest))) :=
  if (decide (i2 < (order.length : Int))) = true then
  (idx order i2).bind fun x6 =>
  (some (ZiP (ZbU kqI by_ x6))).bind (Sum.elim (fun z3 =>
  (Zcn []).bind fun y =>
  (app out2 ([y] : List api_Rest)).bind fun l6 =>
  some (.inl (l6, (i64 (i2 + 1))))) (fun z3 =>
  (Zcn z3).bind fun y2 =>
  (app out2 ([y2] : List api_Rest)).bind fun l7 =>
  some (.inl (l7, (i64 (i2 + 1))))))
  else
  some (.inr out2)

noncomputable def XW (l : List api_Rest) : Option (List api_Rest) :=
  ((loop (t3 (JM l)) ([], ([] : List (Int × (List api_Rest))), 0)) : Option (((List Int) × (List (Int × (List api_Rest)))))).bind (t2 fun (order : List Int) (by_ : List (Int × (List api_Rest))) =>
  ((loop (t2 (JP order by_)) ([], 0)) : Option (((List api_Rest)))).bind (t1 fun (out : List api_Rest) =>
  some out))

noncomputable def Qu (s1 : List api_Rest) (s2 : List api_Rest) (i : Int) : Option ((Int) ⊕ (Bool) ⊕ (Unit)) :=
  if (decide (i < (s1.length : Int))) = true then
  (idx s1 i).bind fun x =>
  (idx s2 i).bind fun x2 =>
  if (!(decide (x.Number = x2.Number) && (decide (x.Frame = x2.Frame) && (decide (x.States = x2.States) && ((x.Sound == x2.Sound) && (decide (x.Copies = x2.Copies) && ((x.Conflict == x2.Conflict) && true))))))) = true then
  some (.inr (.inl false))
  else
  some (.inl (i64 (i + 1)))
  else
  some (.inr (.inr ()))

noncomputable def Qo (s1 : List api_Rest) (s2 : List api_Rest) : Option Bool :=
  if (!decide ((s1.length : Int) = (s2.length : Int))) = true then
  some false
  else
  ((loop (t1 (Qu s1 s2)) 0) : Option ((Bool) ⊕ (Unit))).bind (Sum.elim (fun q' => some q') (t0 (some true)))

noncomputable def X7 (data : Int) : Option Int :=
  (ZcG data).bind fun y =>
  if y = true then
  some data
  else
  some (i64 (data + 2048))

noncomputable def Zc0 (f : Vector Int 64) : Option (Vector Int 64) :=
  (J8 f).bind fun y =>
  (quo .i64 y 2048).bind fun q =>
  (X7 q).bind fun y2 =>
  (rem y 2048).bind fun q2 =>
  (X7 q2).bind fun y3 =>
  (ZA f 62).bind fun x =>
  (ZA (Qp f 62 (u16 y2)) 63).bind fun x2 =>
  some (Qp (Qp f 62 (u16 y2)) 63 (u16 y3))

noncomputable def ZcR (f3 : Vector Int 64) (i : Int) : Option (((Vector Int 64) × Int) ⊕ ((Vector Int 64))) :=
  if (decide (i ≤ 60)) = true then
  (ZA f3 i).bind fun x =>
  (rem (i64 x) 2048).bind fun q =>
  (X7 q).bind fun y =>
  (ZA f3 i).bind fun x2 =>
  some (.inl ((Qp f3 i (u16 y)), (i64 (i + 1))))
  else
  some (.inr f3)

noncomputable def ZdC (f : Vector Int 64) : Option (Vector Int 64) :=
  ((loop (t2 (ZcR)) (f, 1)) : Option (((Vector Int 64)))).bind (t1 fun (f2 : Vector Int 64) =>
  (XB f2).bind fun y2 =>
  (Jk y2).bind fun y3 =>
  (ZA f2 0).bind fun x3 =>
  (Zb1 (Qp f2 0 (u16 y3))).bind fun y4 =>
  (X7 y4).bind fun y5 =>
  (ZA (Qp f2 0 (u16 y3)) 61).bind fun x4 =>
  (Zc0 (Qp (Qp f2 0 (u16 y3)) 61 (u16 y5))).bind fun y6 =>
  some y6)

noncomputable def ZeF (data : List Int) (f2 : Vector Int 64) (i : Int) : Option (((Vector Int 64) × Int) ⊕ ((Vector Int 64) × Int) ⊕ ((Vector Int 64))) :=
  if (decide (i < (data.length : Int))) = true then
  (idx data i).bind fun x3 =>
  if ((decide (x3 < 0)) || (decide (2047 < x3))) = true then
  some (.inr (.inl ((#v[0, 0, 0, 0, 0, 0, 0, 0, 0, 0, 0, 0, 0, 0, 0, 0, 0, 0, 0, 0, 0, 0, 0, 0, 0, 0, 0, 0, 0, 0, 0, 0, 0, 0, 0, 0, 0, 0, 0, 0, 0, 0, 0, 0, 0, 0, 0, 0, 0, 0, 0, 0, 0, 0, 0, 0, 0, 0, 0, 0, 0, 0, 0, 0] : Vector Int 64), 9)))
  else
  (ZA f2 (i64 (3 + i))).bind fun x4 =>
  some (.inl ((Qp f2 (i64 (3 + i)) (u16 x3)), (i64 (i + 1))))
  else
  some (.inr (.inr f2))

noncomputable def ZgP (number : Int) (data : List Int) : Option ((Vector Int 64) × Int) :=
  if ((decide (number < 0)) || (decide (4194304 ≤ number))) = true then
  some ((#v[0, 0, 0, 0, 0, 0, 0, 0, 0, 0, 0, 0, 0, 0, 0, 0, 0, 0, 0, 0, 0, 0, 0, 0, 0, 0, 0, 0, 0, 0, 0, 0, 0, 0, 0, 0, 0, 0, 0, 0, 0, 0, 0, 0, 0, 0, 0, 0, 0, 0, 0, 0, 0, 0, 0, 0, 0, 0, 0, 0, 0, 0, 0, 0] : Vector Int 64), 9)
  else
  if (!decide ((data.length : Int) = 58)) = true then
  some ((#v[0, 0, 0, 0, 0, 0, 0, 0, 0, 0, 0, 0, 0, 0, 0, 0, 0, 0, 0, 0, 0, 0, 0, 0, 0, 0, 0, 0, 0, 0, 0, 0, 0, 0, 0, 0, 0, 0, 0, 0, 0, 0, 0, 0, 0, 0, 0, 0, 0, 0, 0, 0, 0, 0, 0, 0, 0, 0, 0, 0, 0, 0, 0, 0] : Vector Int 64), 3)
  else
  (rem number 2048).bind fun q =>
  (quo .i64 number 2048).bind fun q2 =>
  (ZA (#v[0, 0, 0, 0, 0, 0, 0, 0, 0, 0, 0, 0, 0, 0, 0, 0, 0, 0, 0, 0, 0, 0, 0, 0, 0, 0, 0, 0, 0, 0, 0, 0, 0, 0, 0, 0, 0, 0, 0, 0, 0, 0, 0, 0, 0, 0, 0, 0, 0, 0, 0, 0, 0, 0, 0, 0, 0, 0, 0, 0, 0, 0, 0, 0] : Vector Int 64) 1).bind fun x =>
  (ZA (Qp (#v[0, 0, 0, 0, 0, 0, 0, 0, 0, 0, 0, 0, 0, 0, 0, 0, 0, 0, 0, 0, 0, 0, 0, 0, 0, 0, 0, 0, 0, 0, 0, 0, 0, 0, 0, 0, 0, 0, 0, 0, 0, 0, 0, 0, 0, 0, 0, 0, 0, 0, 0, 0, 0, 0, 0, 0, 0, 0, 0, 0, 0, 0, 0, 0] : Vector Int 64) 1 (u16 q)) 2).bind fun x2 =>
  ((loop (t2 (ZeF data)) ((Qp (Qp (#v[0, 0, 0, 0, 0, 0, 0, 0, 0, 0, 0, 0, 0, 0, 0, 0, 0, 0, 0, 0, 0, 0, 0, 0, 0, 0, 0, 0, 0, 0, 0, 0, 0, 0, 0, 0, 0, 0, 0, 0, 0, 0, 0, 0, 0, 0, 0, 0, 0, 0, 0, 0, 0, 0, 0, 0, 0, 0, 0, 0, 0, 0, 0, 0] : Vector Int 64) 1 (u16 q)) 2 (u16 q2)), 0)) : Option (((Vector Int 64) × Int) ⊕ ((Vector Int 64)))).bind (Sum.elim (fun q' => some q') (t1 fun (f : Vector Int 64) =>
  (ZdC f).bind fun y =>
  some (y, 0)))

noncomputable def Zea (f : Vector Int 64) (i : Int) : Option ((Int) ⊕ (Bool) ⊕ (Unit)) :=
  if (decide (i < 64)) = true then
  (ZA f i).bind fun x =>
  if (decide (4095 < x)) = true then
  some (.inr (.inl true))
  else
  some (.inl (i64 (i + 1)))
  else
  some (.inr (.inr ()))

noncomputable def Zfk (f : Vector Int 64) : Option Bool :=
  ((loop (t1 (Zea f)) 0) : Option ((Bool) ⊕ (Unit))).bind (Sum.elim (fun q' => some q') (t0 (some false)))

noncomputable def Zeg (f : Vector Int 64) (n : Int) : Option Int :=
  (quo .i64 n 3).bind fun q =>
  (ZA f q).bind fun x =>
  (rem n 3).bind fun q2 =>
  (shr .i64 (i64 x) (i64 (8 - (i64 (q2 * 4))))).bind fun q3 =>
  some (Jq .i64 q3 15)

noncomputable def Zdu (f : Vector Int 64) (l : List Int) (out2 : List Int) (i : Int) : Option (((List Int) × Int) ⊕ ((List Int))) :=
  if (decide (i < (l.length : Int))) = true then
  (Zeg f (i64 (2 * i))).bind fun y =>
  (Zeg f (i64 ((i64 (2 * i)) + 1))).bind fun y2 =>
  (idx out2 i).bind fun x =>
  some (.inl ((out2.set i.toNat (u8 (i64 ((i64 (16 * y)) + y2)))), (i64 (i + 1))))
  else
  some (.inr out2)

noncomputable def Zej (f : Vector Int 64) : Option (List Int) :=
  (mks 96 0).bind fun l =>
  ((loop (t2 (Zdu f l)) (l, 0)) : Option (((List Int)))).bind (t1 fun (out : List Int) =>
  some out)

noncomputable def ZcZ (f : Vector Int 64) : Option ((List Int) × Int) :=
  (Zfk f).bind fun y =>
  if y = true then
  some ([], 9)
  else
  (Zej f).bind fun y2 =>
  some (y2, 0)

noncomputable def Zaa (data : Int) : Option Int :=
  (Zat (u16 data)).bind fun y =>
  if (!y) = true then
  some (bor .u16 (u16 data) 2048)
  else
  some (u16 data)

noncomputable def Q4 (f : Vector Int 64) (i : Int) : Option (Vector Int 64) :=
  ((if (decide (i = 0)) = true then
  (XF f).bind fun y =>
  (rem y 4).bind fun q =>
  (ZA gv_frame_syncs q).bind fun x =>
  (ZA f 0).bind fun x2 =>
  some (Qp f 0 x)
  else
  if (decide (i = 61)) = true then
  (JX f).bind fun y2 =>
  (Zaa y2).bind fun y3 =>
  (ZA f i).bind fun x3 =>
  some (Qp f i y3)
  else
  if (decide (i = 62)) = true then
  (XU f).bind fun y4 =>
  (shr .i64 y4 11).bind fun q2 =>
  (Zaa q2).bind fun y5 =>
  (ZA f i).bind fun x4 =>
  some (Qp f i y5)
  else
  if (decide (i = 63)) = true then
  (XU f).bind fun y6 =>
  (Zaa (Jq .i64 y6 2047)).bind fun y7 =>
  (ZA f i).bind fun x5 =>
  some (Qp f i y7)
  else
  (JX f).bind fun y8 =>
  (ZA f i).bind fun x6 =>
  (Xn x6).bind fun y9 =>
  (ZA f 61).bind fun x7 =>
  (Xn x7).bind fun y10 =>
  (Zaa (ZcI .i64 (ZcI .i64 y8 y9) y10)).bind fun y11 =>
  (ZA f i).bind fun x8 =>
  some (Qp f i y11)) : Option (((Vector Int 64)))).bind (t1 fun (f2 : Vector Int 64) =>
  some f2)

noncomputable def Jw (f : Vector Int 64) (i : Int) : Option ((Vector Int 64) × Bool) :=
  if ((decide (i < 0)) || (decide (64 ≤ i))) = true then
  some ((#v[0, 0, 0, 0, 0, 0, 0, 0, 0, 0, 0, 0, 0, 0, 0, 0, 0, 0, 0, 0, 0, 0, 0, 0, 0, 0, 0, 0, 0, 0, 0, 0, 0, 0, 0, 0, 0, 0, 0, 0, 0, 0, 0, 0, 0, 0, 0, 0, 0, 0, 0, 0, 0, 0, 0, 0, 0, 0, 0, 0, 0, 0, 0, 0] : Vector Int 64), false)
  else
  (ZA f i).bind fun x =>
  (Zbd (Qp f i 0)).bind fun y =>
  if y = true then
  some ((#v[0, 0, 0, 0, 0, 0, 0, 0, 0, 0, 0, 0, 0, 0, 0, 0, 0, 0, 0, 0, 0, 0, 0, 0, 0, 0, 0, 0, 0, 0, 0, 0, 0, 0, 0, 0, 0, 0, 0, 0, 0, 0, 0, 0, 0, 0, 0, 0, 0, 0, 0, 0, 0, 0, 0, 0, 0, 0, 0, 0, 0, 0, 0, 0] : Vector Int 64), false)
  else
  (Q4 (Qp f i 0) i).bind fun y2 =>
  (ZaE y2).bind fun y3 =>
  if (!y3) = true then
  some ((#v[0, 0, 0, 0, 0, 0, 0, 0, 0, 0, 0, 0, 0, 0, 0, 0, 0, 0, 0, 0, 0, 0, 0, 0, 0, 0, 0, 0, 0, 0, 0, 0, 0, 0, 0, 0, 0, 0, 0, 0, 0, 0, 0, 0, 0, 0, 0, 0, 0, 0, 0, 0, 0, 0, 0, 0, 0, 0, 0, 0, 0, 0, 0, 0] : Vector Int 64), false)
  else
  some (y2, true)

noncomputable def Xe (r_ : api_Rest) (lost2 : Int) (place2 : Int) (i : Int) : Option ((Int × Int × Int) ⊕ (Int × Int)) :=
  if (decide (i < 64)) = true then
  (ZA r_.States i).bind fun x =>
  if (decide (x = 0)) = true then
  some (.inl ((i64 (lost2 + 1)), i, (i64 (i + 1))))
  else
  some (.inl (lost2, place2, (i64 (i + 1))))
  else
  some (.inr (lost2, place2))

noncomputable def XE (r_ : api_Rest) : Option api_Rest :=
  if (r_.Sound || r_.Conflict) = true then
  some r_
  else
  ((loop (t3 (Xe r_)) (0, 0, 0)) : Option ((Int × Int))).bind (t2 fun (lost : Int) (place : Int) =>
  if (!decide (lost = 1)) = true then
  some r_
  else
  (Jw r_.Frame place).bind fun y =>
  (gd ((!y.2) == false) false (Xj y.1 r_.Number)).bind fun y2 =>
  if ((!y.2) || (!y2)) = true then
  some r_
  else
  (XD 3).bind fun y3 =>
  (ZA y3 place).bind fun x2 =>
  some (api_Rest.mk r_.Number y.1 (Qp y3 place 2) true 0 r_.Conflict))

noncomputable def Q1 (l : List api_Piece) (i : Int) : Option ((Int) ⊕ ((List api_Rest) × Int) ⊕ (Unit)) :=
  if (decide (i < (l.length : Int))) = true then
  (idx l i).bind fun x =>
  (Xl x).bind fun y =>
  if (!decide (y = 0)) = true then
  some (.inr (.inl ([], y)))
  else
  some (.inl (i64 (i + 1)))
  else
  some (.inr (.inr ()))

noncomputable def Q5 (l : List api_Piece) (parts2 : List api_Rest) (i2 : Int) : Option (((List api_Rest) × Int) ⊕ ((List api_Rest))) :=
  if (decide (i2 < (l.length : Int))) = true then
  (idx l i2).bind fun x2 =>
  (X0 x2).bind fun y2 =>
  (XY y2).bind fun y3 =>
  (app parts2 y3).bind fun l2 =>
  some (.inl (l2, (i64 (i2 + 1))))
  else
  some (.inr parts2)

noncomputable def QZ (y4 : (List api_Rest)) (out2 : List api_Rest) (i3 : Int) : Option (((List api_Rest) × Int) ⊕ ((List api_Rest))) :=
  if (decide (i3 < (y4.length : Int))) = true then
  (idx out2 i3).bind fun x5 =>
  (XE x5).bind fun y5 =>
  (idx out2 i3).bind fun x6 =>
  some (.inl ((out2.set i3.toNat y5), (i64 (i3 + 1))))
  else
  some (.inr out2)

noncomputable def QF (l : List api_Piece) : Option ((List api_Rest) × Int) :=
  if (decide (200 < (l.length : Int))) = true then
  some ([], 3)
  else
  ((loop (t1 (Q1 l)) 0) : Option (((List api_Rest) × Int) ⊕ (Unit))).bind (Sum.elim (fun q' => some q') (t0 (((loop (t2 (Q5 l)) ([], 0)) : Option (((List api_Rest)))).bind (t1 fun (parts : List api_Rest) =>
  (QO parts).bind fun y4 =>
  (gd ((decide (0 < (y4.length : Int))) == true) (api_Rest.mk 0 (Vector.replicate 64 0) (Vector.replicate 64 0) false 0 false) (idx y4 (i64 ((y4.length : Int) - 1)))).bind fun x3 =>
  (gd ((decide (0 < (y4.length : Int))) == true) (api_Rest.mk 0 (Vector.replicate 64 0) (Vector.replicate 64 0) false 0 false) (idx y4 0)).bind fun x4 =>
  if ((decide (0 < (y4.length : Int))) && (decide (100000 < (i64 (x3.Number - x4.Number))))) = true then
  some ([], 3)
  else
  ((loop (t2 (QZ y4)) (y4, 0)) : Option (((List api_Rest)))).bind (t1 fun (out : List api_Rest) =>
  some (out, 0))))))

noncomputable def Zco  : Option Bool :=
  (mks 58 0).bind fun l =>
  (ZgP 9 l).bind fun y =>
  (ZcZ y.1).bind fun y2 =>
  (app ([7] : List Int) y2.1).bind fun l2 =>
  (QF ([(api_Piece.mk l2 false)] : List api_Piece)).bind fun y3 =>
  (gd (((decide (y3.2 = 0)) && (decide ((y3.1.length : Int) = 1))) == true) (api_Rest.mk 0 (Vector.replicate 64 0) (Vector.replicate 64 0) false 0 false) (idx y3.1 0)).bind fun x =>
  (gd ((((decide (y3.2 = 0)) && (decide ((y3.1.length : Int) = 1))) && (decide (x.Number = 9))) == true) (api_Rest.mk 0 (Vector.replicate 64 0) (Vector.replicate 64 0) false 0 false) (idx y3.1 0)).bind fun x2 =>
  (gd (((((decide (y3.2 = 0)) && (decide ((y3.1.length : Int) = 1))) && (decide (x.Number = 9))) && (decide (x2.Frame = y.1))) == true) (api_Rest.mk 0 (Vector.replicate 64 0) (Vector.replicate 64 0) false 0 false) (idx y3.1 0)).bind fun x3 =>
  (gd ((((((decide (y3.2 = 0)) && (decide ((y3.1.length : Int) = 1))) && (decide (x.Number = 9))) && (decide (x2.Frame = y.1))) && x3.Sound) == true) (api_Rest.mk 0 (Vector.replicate 64 0) (Vector.replicate 64 0) false 0 false) (idx y3.1 0)).bind fun x4 =>
  (gd (((((((decide (y3.2 = 0)) && (decide ((y3.1.length : Int) = 1))) && (decide (x.Number = 9))) && (decide (x2.Frame = y.1))) && x3.Sound) && (decide (x4.Copies = 1))) == true) (api_Rest.mk 0 (Vector.replicate 64 0) (Vector.replicate 64 0) false 0 false) (idx y3.1 0)).bind fun x5 =>
  (gd (((((((decide (y3.2 = 0)) && (decide ((y3.1.length : Int) = 1))) && (decide (x.Number = 9))) && (decide (x2.Frame = y.1))) && x3.Sound) && (decide (x4.Copies = 1))) == true) 0 (ZA x5.States 63)).bind fun x6 =>
  some (((((((decide (y3.2 = 0)) && (decide ((y3.1.length : Int) = 1))) && (decide (x.Number = 9))) && (decide (x2.Frame = y.1))) && x3.Sound) && (decide (x4.Copies = 1))) && (decide (x6 = 3)))

noncomputable def XK (l : List api_Piece) (i : Int) : Option ((Int) ⊕ (Int) ⊕ (Unit)) :=
  if (decide (i < (l.length : Int))) = true then
  (idx l i).bind fun x =>
  (ZaT x).bind fun y =>
  if (!decide (y = 0)) = true then
  some (.inr (.inl y))
  else
  some (.inl (i64 (i + 1)))
  else
  some (.inr (.inr ()))

noncomputable def Js (l : List api_Piece) : Option Int :=
  if (decide (200 < (l.length : Int))) = true then
  some 3
  else
  ((loop (t1 (XK l)) 0) : Option ((Int) ⊕ (Unit))).bind (Sum.elim (fun q' => some q') (t0 (some 0)))

noncomputable def Jh (f : Vector Int 64) (i : Int) : Option (Vector Int 64) :=
  ((if (decide (i = 0)) = true then
  (XB f).bind fun y =>
  (Jk y).bind fun y2 =>
  (ZA f 0).bind fun x =>
  some (Qp f 0 (u16 y2))
  else
  if (decide (i ≤ 60)) = true then
  (ZA f i).bind fun x2 =>
  (rem (i64 x2) 2048).bind fun q =>
  (Zb1 f).bind fun y3 =>
  (ZA f 61).bind fun x3 =>
  (rem (i64 x3) 2048).bind fun q2 =>
  (X7 (ZcI .i64 (ZcI .i64 q y3) q2)).bind fun y4 =>
  (ZA f i).bind fun x4 =>
  some (Qp f i (u16 y4))
  else
  if (decide (i = 61)) = true then
  (Zb1 f).bind fun y5 =>
  (X7 y5).bind fun y6 =>
  (ZA f 61).bind fun x5 =>
  some (Qp f 61 (u16 y6))
  else
  if (decide (i = 62)) = true then
  (J8 f).bind fun y7 =>
  (quo .i64 y7 2048).bind fun q3 =>
  (X7 q3).bind fun y8 =>
  (ZA f 62).bind fun x6 =>
  some (Qp f 62 (u16 y8))
  else
  (J8 f).bind fun y9 =>
  (rem y9 2048).bind fun q4 =>
  (X7 q4).bind fun y10 =>
  (ZA f 63).bind fun x7 =>
  some (Qp f 63 (u16 y10))) : Option (((Vector Int 64)))).bind (t1 fun (f2 : Vector Int 64) =>
  some f2)

noncomputable def Zao (r_ : api_Rest) (at_2 : Int) (i : Int) : Option ((Int × Int) ⊕ (api_Rest) ⊕ (Int)) :=
  if (decide (i < 64)) = true then
  (ZA r_.States i).bind fun x =>
  if (!decide (x = 0)) = true then
  some (.inl (at_2, (i64 (i + 1))))
  else
  if (decide (0 ≤ at_2)) = true then
  some (.inr (.inl r_))
  else
  some (.inl (i, (i64 (i + 1))))
  else
  some (.inr (.inr at_2))

noncomputable def Zam (States2 : Vector Int 64) (i2 : Int) : Option (((Vector Int 64) × Int) ⊕ ((Vector Int 64))) :=
  if (decide (i2 < 64)) = true then
  (ZA States2 i2).bind fun x2 =>
  some (.inl ((Qp States2 i2 3), (i64 (i2 + 1))))
  else
  some (.inr States2)

noncomputable def Zcq (r_ : api_Rest) : Option api_Rest :=
  ((loop (t2 (Zao r_)) ((-1), 0)) : Option ((api_Rest) ⊕ (Int))).bind (Sum.elim (fun q' => some q') (t1 fun (at_ : Int) =>
  if ((r_.Sound || r_.Conflict) || (decide (at_ < 0))) = true then
  some r_
  else
  (Jh r_.Frame at_).bind fun y =>
  (Zcd y).bind fun y2 =>
  (gd ((!y2) == false) 0 (X2 y)).bind fun y3 =>
  if ((!y2) || (!decide (y3 = r_.Number))) = true then
  some r_
  else
  ((loop (t2 (Zam)) ((Vector.replicate 64 0), 0)) : Option (((Vector Int 64)))).bind (t1 fun (States : Vector Int 64) =>
  (ZA States at_).bind fun x3 =>
  some (api_Rest.mk r_.Number y (Qp States at_ 2) true 0 false))))

noncomputable def JR (l : List api_Piece) (all2 : List api_Rest) (i : Int) : Option (((List api_Rest) × Int) ⊕ ((List api_Rest))) :=
  if (decide (i < (l.length : Int))) = true then
  (idx l i).bind fun x =>
  (Zbm x).bind fun y2 =>
  (Zcp y2).bind fun y3 =>
  (XW y3).bind fun y4 =>
  (app all2 y4).bind fun l2 =>
  some (.inl (l2, (i64 (i + 1))))
  else
  some (.inr all2)

noncomputable def JT (y5 : (List api_Rest)) (out2 : List api_Rest) (i2 : Int) : Option (((List api_Rest) × Int) ⊕ ((List api_Rest))) :=
  if (decide (i2 < (y5.length : Int))) = true then
  (idx out2 i2).bind fun x4 =>
  (Zcq x4).bind fun y6 =>
  (idx out2 i2).bind fun x5 =>
  some (.inl ((out2.set i2.toNat y6), (i64 (i2 + 1))))
  else
  some (.inr out2)

noncomputable def JY (l : List api_Piece) : Option ((List api_Rest) × Int) :=
  (Js l).bind fun y =>
  if (!decide (y = 0)) = true then
  some ([], y)
  else
  ((loop (t2 (JR l)) ([], 0)) : Option (((List api_Rest)))).bind (t1 fun (all : List api_Rest) =>
  (XW all).bind fun y5 =>
  (gd ((decide (0 < (y5.length : Int))) == true) (api_Rest.mk 0 (Vector.replicate 64 0) (Vector.replicate 64 0) false 0 false) (idx y5 (i64 ((y5.length : Int) - 1)))).bind fun x2 =>
  (gd ((decide (0 < (y5.length : Int))) == true) (api_Rest.mk 0 (Vector.replicate 64 0) (Vector.replicate 64 0) false 0 false) (idx y5 0)).bind fun x3 =>
  if ((decide (0 < (y5.length : Int))) && (decide (100000 < (i64 (x2.Number - x3.Number))))) = true then
  some ([], 3)
  else
  ((loop (t2 (JT y5)) (y5, 0)) : Option (((List api_Rest)))).bind (t1 fun (out : List api_Rest) =>
  some (out, 0)))

noncomputable def ZV (o : List api_Piece) (i : Int) (j : Int) : Option (((List api_Piece) × Int × Int) ⊕ ((List api_Piece))) :=
  if (decide (i < j)) = true then
  (idx o j).bind fun x =>
  (idx o i).bind fun x2 =>
  (idx o i).bind fun x3 =>
  (idx (o.set i.toNat x) j).bind fun x4 =>
  some (.inl (((o.set i.toNat x).set j.toNat x2), (i64 (i + 1)), (i64 (j - 1))))
  else
  some (.inr o)

noncomputable def Z5 (s : List api_Piece) : Option (List api_Piece) :=
  loop (t3 (ZV)) (s, 0, (i64 ((s.length : Int) - 1)))

noncomputable def Q9 (l : List api_Piece) : Option Bool :=
  (QF l).bind fun y =>
  (JY l).bind fun y2 =>
  (gd ((!decide (y.2 = y2.2)) == false) false (Qo y.1 y2.1)).bind fun y3 =>
  if ((!decide (y.2 = y2.2)) || (!y3)) = true then
  some false
  else
  if (!decide (y.2 = 0)) = true then
  (Zco).bind fun y4 =>
  some y4
  else
  (Znp l).bind fun y5 =>
  (Z5 y5).bind fun y6 =>
  (QF y6).bind fun y7 =>
  (gd ((decide (y7.2 = 0)) == true) false (Qo y.1 y7.1)).bind fun y8 =>
  (gd (((decide (y7.2 = 0)) && y8) == true) false Zco).bind fun y9 =>
  some (((decide (y7.2 = 0)) && y8) && y9)

end Go.Vx
