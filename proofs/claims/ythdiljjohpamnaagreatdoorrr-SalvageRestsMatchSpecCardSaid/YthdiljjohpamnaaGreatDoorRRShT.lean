/- A text of the proof: a verified executor of the program form, or the contracts of the functions that the law reaches. -/
import Derived.Test.YthdiljjohpamnaaGreatDoorRRShLib
set_option linter.all false
namespace Go.Vx
open Go Go.RowKit
set_option linter.unusedVariables false
structure api_Piece where
  Bytes : List Int
  Half : Bool
structure api_Rest where
  Number : Int
  Frame : Vector Int 64
  States : Vector Int 64
  Sound : Bool
  Copies : Int
  Conflict : Bool
structure api_Found where
  At : Int
  Frame : Vector Int 64
structure salvage_finder where
  h_ : List Int
  certain : List api_Found
  numbers : List Int
  at_ : Unit
structure api_Flaw where
  Word : Int
  Kind : Int

noncomputable def salvage_CheckPiece (p : api_Piece) : Option Int :=
  if (decide (200000 < (p.Bytes.length : Int))) = true then
  some 3
  else
  (gd ((p.Half == true) && ((decide ((p.Bytes.length : Int) = 0)) == false)) 0 (idx p.Bytes 0)).bind fun x =>
  (gd ((p.Half == true) && ((decide ((p.Bytes.length : Int) = 0)) == false)) 0 (shr .u8 x 4)).bind fun q =>
  if (p.Half && ((decide ((p.Bytes.length : Int) = 0)) || (!decide (q = 0)))) = true then
  some 2
  else
  some 0

noncomputable def salvage_ahead (p : api_Piece) : Option Int :=
  if p.Half = true then
  some 1
  else
  some 0

noncomputable def salvage_length (p : api_Piece) : Option Int :=
  (salvage_ahead p).bind fun y =>
  some (i64 ((i64 (2 * (p.Bytes.length : Int))) - y))

noncomputable def salvage_halfOf (b : List Int) (i : Int) : Option Int :=
  (quo .i64 i 2).bind fun q =>
  (idx b q).bind fun x =>
  (rem i 2).bind fun q2 =>
  (shr .u8 x (i64 (4 - (i64 (4 * q2))))).bind fun q3 =>
  some (band .u8 q3 15)

noncomputable def salvage_halves_L1 (p : api_Piece) (l : List Int) (out2 : List Int) (i : Int) : Option (((List Int) × Int) ⊕ ((List Int))) :=
  if (decide (i < (l.length : Int))) = true then
  (salvage_ahead p).bind fun y2 =>
  (salvage_halfOf p.Bytes (i64 (i + y2))).bind fun y3 =>
  (idx out2 i).bind fun x =>
  some (.inl ((out2.set i.toNat y3), (i64 (i + 1))))
  else
  some (.inr out2)

noncomputable def salvage_halves (p : api_Piece) : Option (List Int) :=
  (salvage_length p).bind fun y =>
  (mks y 0).bind fun l =>
  ((loop (t2 (salvage_halves_L1 p l)) (l, 0)) : Option (((List Int)))).bind (t1 fun (out : List Int) =>
  some out)

noncomputable def salvage_wordAt (h_ : List Int) : Option Int :=
  (idx h_ 0).bind fun x =>
  (shl .u16 (u16 x) 8).bind fun q =>
  (idx h_ 1).bind fun x2 =>
  (shl .u16 (u16 x2) 4).bind fun q2 =>
  (idx h_ 2).bind fun x3 =>
  some (bor .u16 (bor .u16 q q2) (u16 x3))

def gv_frame_syncs : Vector Int 4 := #v[583, 1464, 2631, 3512]

noncomputable def frame_Sync (number : Int) : Option (Int × Int) :=
  if ((decide (number < 0)) || (decide (4194304 ≤ number))) = true then
  some (0, 9)
  else
  (rem number 4).bind fun q =>
  (vidx gv_frame_syncs q).bind fun x =>
  some ((i64 x), 0)

noncomputable def salvage_isSync_L1 (w : Int) (i : Int) : Option ((Int) ⊕ (Bool) ⊕ (Unit)) :=
  if (decide (i < 4)) = true then
  (frame_Sync i).bind fun y =>
  if (decide ((u16 y.1) = w)) = true then
  some (.inr (.inl true))
  else
  some (.inl (i64 (i + 1)))
  else
  some (.inr (.inr ()))

noncomputable def salvage_isSync (w : Int) : Option Bool :=
  ((loop (t1 (salvage_isSync_L1 w)) 0) : Option ((Bool) ⊕ (Unit))).bind (Sum.elim (fun q' => some q') (t0 (some false)))

noncomputable def salvage_frameIn_L1 (w : Vector Int 192) (f2 : Vector Int 64) (i : Int) : Option (((Vector Int 64) × Int) ⊕ ((Vector Int 64))) :=
  if (decide (i < 64)) = true then
  (slc w.toList (i64 (3 * i)) (i64 ((i64 (3 * i)) + 3))).bind fun l =>
  (salvage_wordAt l).bind fun y =>
  (vidx f2 i).bind fun x =>
  some (.inl ((vset f2 i y), (i64 (i + 1))))
  else
  some (.inr f2)

noncomputable def salvage_frameIn (w : Vector Int 192) : Option (Vector Int 64) :=
  ((loop (t2 (salvage_frameIn_L1 w)) ((Vector.replicate 64 0), 0)) : Option (((Vector Int 64)))).bind (t1 fun (f : Vector Int 64) =>
  some f)

noncomputable def frame_wide_L1 (f : Vector Int 64) (i : Int) : Option ((Int) ⊕ (Bool) ⊕ (Unit)) :=
  if (decide (i < 64)) = true then
  (vidx f i).bind fun x =>
  if (decide (4095 < x)) = true then
  some (.inr (.inl true))
  else
  some (.inl (i64 (i + 1)))
  else
  some (.inr (.inr ()))

noncomputable def frame_wide (f : Vector Int 64) : Option Bool :=
  ((loop (t1 (frame_wide_L1 f)) 0) : Option ((Bool) ⊕ (Unit))).bind (Sum.elim (fun q' => some q') (t0 (some false)))

noncomputable def frame_data (w : Int) : Option Int :=
  some (i64 (band .u16 w 2047))

noncomputable def frame_numberOf (f : Vector Int 64) : Option Int :=
  (vidx f 1).bind fun x =>
  (frame_data x).bind fun y =>
  (vidx f 2).bind fun x2 =>
  (frame_data x2).bind fun y2 =>
  (shl .i64 y2 11).bind fun q =>
  some (bor .i64 y q)

noncomputable def frame_sumOf_L1 (f : Vector Int 64) (n2 : Int) (i : Int) : Option ((Int × Int) ⊕ (Int)) :=
  if (decide (i < 60)) = true then
  (vidx f (i64 (i + 1))).bind fun x =>
  (frame_data x).bind fun y =>
  some (.inl ((bxor .i64 n2 y), (i64 (i + 1))))
  else
  some (.inr n2)

noncomputable def frame_sumOf (f : Vector Int 64) : Option Int :=
  ((loop (t2 (frame_sumOf_L1 f)) (0, 0)) : Option ((Int))).bind (t1 fun (n : Int) =>
  some n)

noncomputable def bits_OnesCount16 (x : Int) : Option Int :=
  (shr .u16 x 8).bind fun q =>
  (sidx [0, 1, 1, 2, 1, 2, 2, 3, 1, 2, 2, 3, 2, 3, 3, 4, 1, 2, 2, 3, 2, 3, 3, 4, 2, 3, 3, 4, 3, 4, 4, 5, 1, 2, 2, 3, 2, 3, 3, 4, 2, 3, 3, 4, 3, 4, 4, 5, 2, 3, 3, 4, 3, 4, 4, 5, 3, 4, 4, 5, 4, 5, 5, 6, 1, 2, 2, 3, 2, 3, 3, 4, 2, 3, 3, 4, 3, 4, 4, 5, 2, 3, 3, 4, 3, 4, 4, 5, 3, 4, 4, 5, 4, 5, 5, 6, 2, 3, 3, 4, 3, 4, 4, 5, 3, 4, 4, 5, 4, 5, 5, 6, 3, 4, 4, 5, 4, 5, 5, 6, 4, 5, 5, 6, 5, 6, 6, 7, 1, 2, 2, 3, 2, 3, 3, 4, 2, 3, 3, 4, 3, 4, 4, 5, 2, 3, 3, 4, 3, 4, 4, 5, 3, 4, 4, 5, 4, 5, 5, 6, 2, 3, 3, 4, 3, 4, 4, 5, 3, 4, 4, 5, 4, 5, 5, 6, 3, 4, 4, 5, 4, 5, 5, 6, 4, 5, 5, 6, 5, 6, 6, 7, 2, 3, 3, 4, 3, 4, 4, 5, 3, 4, 4, 5, 4, 5, 5, 6, 3, 4, 4, 5, 4, 5, 5, 6, 4, 5, 5, 6, 5, 6, 6, 7, 3, 4, 4, 5, 4, 5, 5, 6, 4, 5, 5, 6, 5, 6, 6, 7, 4, 5, 5, 6, 5, 6, 6, 7, 5, 6, 6, 7, 6, 7, 7, 8] q).bind fun b =>
  (sidx [0, 1, 1, 2, 1, 2, 2, 3, 1, 2, 2, 3, 2, 3, 3, 4, 1, 2, 2, 3, 2, 3, 3, 4, 2, 3, 3, 4, 3, 4, 4, 5, 1, 2, 2, 3, 2, 3, 3, 4, 2, 3, 3, 4, 3, 4, 4, 5, 2, 3, 3, 4, 3, 4, 4, 5, 3, 4, 4, 5, 4, 5, 5, 6, 1, 2, 2, 3, 2, 3, 3, 4, 2, 3, 3, 4, 3, 4, 4, 5, 2, 3, 3, 4, 3, 4, 4, 5, 3, 4, 4, 5, 4, 5, 5, 6, 2, 3, 3, 4, 3, 4, 4, 5, 3, 4, 4, 5, 4, 5, 5, 6, 3, 4, 4, 5, 4, 5, 5, 6, 4, 5, 5, 6, 5, 6, 6, 7, 1, 2, 2, 3, 2, 3, 3, 4, 2, 3, 3, 4, 3, 4, 4, 5, 2, 3, 3, 4, 3, 4, 4, 5, 3, 4, 4, 5, 4, 5, 5, 6, 2, 3, 3, 4, 3, 4, 4, 5, 3, 4, 4, 5, 4, 5, 5, 6, 3, 4, 4, 5, 4, 5, 5, 6, 4, 5, 5, 6, 5, 6, 6, 7, 2, 3, 3, 4, 3, 4, 4, 5, 3, 4, 4, 5, 4, 5, 5, 6, 3, 4, 4, 5, 4, 5, 5, 6, 4, 5, 5, 6, 5, 6, 6, 7, 3, 4, 4, 5, 4, 5, 5, 6, 4, 5, 5, 6, 5, 6, 6, 7, 4, 5, 5, 6, 5, 6, 6, 7, 5, 6, 6, 7, 6, 7, 7, 8] (band .u16 x 255)).bind fun b2 =>
  some (i64 (u8 (b + b2)))

noncomputable def frame_odd (w : Int) : Option Bool :=
  (gd ((decide (w ≤ 4095)) == true) 0 (bits_OnesCount16 w)).bind fun y =>
  (gd ((decide (w ≤ 4095)) == true) 0 (rem y 2)).bind fun q =>
  some ((decide (w ≤ 4095)) && (decide (q = 1)))

noncomputable def frame_checkOf_L2 (f : Vector Int 64) (i : Int) (n4 : Int) (k : Int) : Option ((Int × Int) ⊕ (Int)) :=
  if (decide (0 ≤ k)) = true then
  (shl .i64 n4 1).bind fun q =>
  (vidx f i).bind fun x =>
  (shr .u16 x k).bind fun q2 =>
  if (!((!decide ((band .i64 n4 2097152) = 0)) == (decide ((band .u16 q2 1) = 1)))) = true then
  some (.inl ((bxor .i64 (band .i64 q 4194303) 2097167), (i64 (k - 1))))
  else
  some (.inl ((band .i64 q 4194303), (i64 (k - 1))))
  else
  some (.inr n4)

noncomputable def frame_checkOf_L1 (f : Vector Int 64) (n2 : Int) (i : Int) : Option ((Int × Int) ⊕ (Int)) :=
  if (decide (i < 62)) = true then
  ((loop (t2 (frame_checkOf_L2 f i)) (n2, 11)) : Option ((Int))).bind (t1 fun (n3 : Int) =>
  some (.inl (n3, (i64 (i + 1)))))
  else
  some (.inr n2)

noncomputable def frame_checkOf (f : Vector Int 64) : Option Int :=
  ((loop (t2 (frame_checkOf_L1 f)) (0, 0)) : Option ((Int))).bind (t1 fun (n : Int) =>
  some n)

noncomputable def frame_sound_L1 (f : Vector Int 64) (i : Int) : Option ((Int) ⊕ (Bool) ⊕ (Unit)) :=
  if (decide (i < 64)) = true then
  (vidx f i).bind fun x4 =>
  (frame_odd x4).bind fun y5 =>
  if (!y5) = true then
  some (.inr (.inl false))
  else
  some (.inl (i64 (i + 1)))
  else
  some (.inr (.inr ()))

noncomputable def frame_sound (f : Vector Int 64) : Option Bool :=
  (frame_wide f).bind fun y =>
  (gd (y == false) 0 (vidx f 0)).bind fun x =>
  (gd (y == false) 0 (frame_numberOf f)).bind fun y2 =>
  (gd (y == false) 0 (rem y2 4)).bind fun q =>
  (gd (y == false) 0 (vidx gv_frame_syncs q)).bind fun x2 =>
  (gd ((y || (!decide (x = x2))) == false) 0 (vidx f 61)).bind fun x3 =>
  (gd ((y || (!decide (x = x2))) == false) 0 (frame_data x3)).bind fun y3 =>
  (gd ((y || (!decide (x = x2))) == false) 0 (frame_sumOf f)).bind fun y4 =>
  if ((y || (!decide (x = x2))) || (!decide (y3 = y4))) = true then
  some false
  else
  ((loop (t1 (frame_sound_L1 f)) 1) : Option ((Bool) ⊕ (Unit))).bind (Sum.elim (fun q' => some q') (t0 ((vidx f 62).bind fun x5 =>
  (frame_data x5).bind fun y6 =>
  (shl .i64 y6 11).bind fun q2 =>
  (vidx f 63).bind fun x6 =>
  (frame_data x6).bind fun y7 =>
  (frame_checkOf f).bind fun y8 =>
  some (decide ((bor .i64 q2 y7) = y8)))))

noncomputable def frame_Sound (f : Vector Int 64) : Option Bool :=
  (frame_sound f).bind fun y =>
  some y

noncomputable def salvage_scan_it_L1 (h_ : List Int) (o : List api_Found) (at_ : Int) : Option (((List api_Found) × Int) ⊕ (List api_Found)) :=
  if (decide ((i64 (at_ + 192)) ≤ (h_.length : Int))) = true then
  (((slc h_ at_ (i64 (at_ + 3))).bind fun l =>
  (salvage_wordAt l).bind fun y =>
  (salvage_isSync y).bind fun y2 =>
  if (!y2) = true then
  some (.inr o)
  else
  (slc h_ at_ (i64 (at_ + 192))).bind fun l2 =>
  (tov 192 l2).bind fun v =>
  (salvage_frameIn v).bind fun y3 =>
  (frame_Sound y3).bind fun y4 =>
  if (y4 == true) = true then
  (app o [(api_Found.mk at_ y3)]).bind fun out2 =>
  if (!true) = true then
  some (.inl out2)
  else
  some (.inr out2)
  else
  if false = true then
  none
  else
  some (.inr o)) : Option ((List api_Found) ⊕ ((List api_Found)))).bind (Sum.elim (fun q' => some (.inr q')) (t1 fun (o2 : List api_Found) =>
  some (.inl (o2, (i64 (at_ + 1))))))
  else
  some (.inr o)

noncomputable def salvage_scan_it (h_ : List Int) (out : List api_Found) : Option (List api_Found) :=
  loop (t2 (salvage_scan_it_L1 h_)) (out, 0)

noncomputable def salvage_scan (h_ : List Int) : Option (List api_Found) :=
  salvage_scan_it h_ []

noncomputable def salvage_certain_L1 (y : List api_Found) (out2 : List api_Found) (i : Int) : Option (((List api_Found) × Int) ⊕ ((List api_Found))) :=
  if (decide (i < (y.length : Int))) = true then
  (idx y i).bind fun x =>
  (gd ((decide (i = 0)) == false) (api_Found.mk 0 (Vector.replicate 64 0)) (idx y (i64 (i - 1)))).bind fun x2 =>
  (gd ((((decide (i = 0)) || (decide (192 ≤ (i64 (x.At - x2.At))))) == true) && ((decide (i = (i64 ((y.length : Int) - 1)))) == false)) (api_Found.mk 0 (Vector.replicate 64 0)) (idx y (i64 (i + 1)))).bind fun x3 =>
  if (((decide (i = 0)) || (decide (192 ≤ (i64 (x.At - x2.At))))) && ((decide (i = (i64 ((y.length : Int) - 1)))) || (decide (192 ≤ (i64 (x3.At - x.At)))))) = true then
  (app out2 ([x] : List api_Found)).bind fun l =>
  some (.inl (l, (i64 (i + 1))))
  else
  some (.inl (out2, (i64 (i + 1))))
  else
  some (.inr out2)

noncomputable def salvage_certain (h_ : List Int) : Option (List api_Found) :=
  (salvage_scan h_).bind fun y =>
  ((loop (t2 (salvage_certain_L1 y)) ([], 0)) : Option (((List api_Found)))).bind (t1 fun (out : List api_Found) =>
  some out)

noncomputable def frame_Number (f : Vector Int 64) : Option (Int × Bool) :=
  (vidx f 1).bind fun x =>
  (frame_odd x).bind fun y =>
  (gd ((!y) == false) 0 (vidx f 2)).bind fun x2 =>
  (gd ((!y) == false) false (frame_odd x2)).bind fun y2 =>
  if ((!y) || (!y2)) = true then
  some (0, false)
  else
  (frame_numberOf f).bind fun y3 =>
  some (y3, true)

noncomputable def salvage_newFinder_L1 (y : (List api_Found)) (numbers2 : List Int) (at__2 : List (Int × Int)) (i : Int) : Option (((List Int) × (List (Int × Int)) × Int) ⊕ ((List Int) × (List (Int × Int)))) :=
  if (decide (i < (y.length : Int))) = true then
  (((idx y i).bind fun x =>
  (frame_Number x.Frame).bind fun y2 =>
  (app numbers2 ([y2.1] : List Int)).bind fun l =>
  some (l, (mput kqI at__2 x.At i))) : Option (((List Int) × (List (Int × Int))))).bind (t2 fun (numbers3 : List Int) (at__3 : List (Int × Int)) =>
  some (.inl (numbers3, at__3, (i64 (i + 1)))))
  else
  some (.inr (numbers2, at__2))

noncomputable def salvage_newFinder (h_ : List Int) : Option salvage_finder :=
  (salvage_certain h_).bind fun y =>
  ((loop (t3 (salvage_newFinder_L1 y)) ([], ([] : List (Int × Int)), 0)) : Option (((List Int) × (List (Int × Int))))).bind (t2 fun (numbers : List Int) (at__ : List (Int × Int)) =>
  some (salvage_finder.mk h_ y numbers ()))

noncomputable def salvage_filled_L1 (state : Int) (out2 : Vector Int 64) (i : Int) : Option (((Vector Int 64) × Int) ⊕ ((Vector Int 64))) :=
  if (decide (i < 64)) = true then
  (vidx out2 i).bind fun x =>
  some (.inl ((vset out2 i state), (i64 (i + 1))))
  else
  some (.inr out2)

noncomputable def salvage_filled (state : Int) : Option (Vector Int 64) :=
  ((loop (t2 (salvage_filled_L1 state)) ((Vector.replicate 64 0), 0)) : Option (((Vector Int 64)))).bind (t1 fun (out : Vector Int 64) =>
  some out)

noncomputable def slices_BinarySearchFunc_api_Found_api_Found_int_L1 (x : List api_Found) (target : Int) (cmp : api_Found → Int → Option Int) (i2 : Int) (j : Int) : Option ((Int × Int) ⊕ (Int)) :=
  if (decide (i2 < j)) = true then
  (shr .u64 (u64 (i64 (i2 + j))) 1).bind fun q =>
  (idx x (i64 q)).bind fun x2 =>
  (cmp x2 target).bind fun y =>
  if (decide (y < 0)) = true then
  some (.inl ((i64 ((i64 q) + 1)), j))
  else
  some (.inl (i2, (i64 q)))
  else
  some (.inr i2)

noncomputable def slices_BinarySearchFunc_api_Found_api_Found_int (x : List api_Found) (target : Int) (cmp : api_Found → Int → Option Int) : Option (Int × Bool) :=
  ((loop (t2 (slices_BinarySearchFunc_api_Found_api_Found_int_L1 x target cmp)) (0, (x.length : Int))) : Option ((Int))).bind (t1 fun (i : Int) =>
  (gd ((decide (i < (x.length : Int))) == true) (api_Found.mk 0 (Vector.replicate 64 0)) (idx x i)).bind fun x3 =>
  (gd ((decide (i < (x.length : Int))) == true) 0 (cmp x3 target)).bind fun y2 =>
  some (i, ((decide (i < (x.length : Int))) && (decide (y2 = 0)))))

noncomputable def salvage_finder_nearest_1 (c_ : api_Found) (at_ : Int) : Option Int :=
  some (i64 (c_.At - at_))

noncomputable def salvage_finder_nearest (x : salvage_finder) (place : Int) : Option Int :=
  (slices_BinarySearchFunc_api_Found_api_Found_int x.certain place (fun z0 z1 => salvage_finder_nearest_1 z0 z1)).bind fun y =>
  (gd (((decide (y.1 = (x.certain.length : Int))) == false) && ((decide (0 < y.1)) == true)) (api_Found.mk 0 (Vector.replicate 64 0)) (idx x.certain (i64 (y.1 - 1)))).bind fun x2 =>
  (gd (((decide (y.1 = (x.certain.length : Int))) == false) && ((decide (0 < y.1)) == true)) (api_Found.mk 0 (Vector.replicate 64 0)) (idx x.certain y.1)).bind fun x3 =>
  if ((decide (y.1 = (x.certain.length : Int))) || ((decide (0 < y.1)) && (decide ((i64 (place - x2.At)) ≤ (i64 (x3.At - place)))))) = true then
  some (i64 (y.1 - 1))
  else
  some y.1

noncomputable def salvage_size (n : Int) : Option Int :=
  some (max n (i64 (-n)))

noncomputable def salvage_finder_places_L2 (x : salvage_finder) (i : Int) (x3 : Int) (out4 : List Int) (p : Int) : Option (((List Int) × Int) ⊕ ((List Int))) :=
  if ((decide ((-192) < p)) && (decide (p < (x.h_.length : Int)))) = true then
  (((salvage_finder_nearest x p).bind fun y =>
  if (!decide (y = i)) = true then
  some (.inl out4)
  else
  (idx x.certain y).bind fun x4 =>
  (salvage_size (i64 (x4.At - p))).bind fun y2 =>
  if (decide (192 ≤ y2)) = true then
  (app out4 ([p] : List Int)).bind fun l =>
  some (.inr l)
  else
  some (.inr out4)) : Option (((List Int)) ⊕ ((List Int)))).bind (Sum.elim (fun q' => some (.inr q')) (t1 fun (out5 : List Int) =>
  some (.inl (out5, (i64 (p + x3))))))
  else
  some (.inr out4)

noncomputable def salvage_finder_places_L1 (x : salvage_finder) (i : Int) (x2 : api_Found) (out2 : List Int) (i2 : Int) : Option (((List Int) × Int) ⊕ ((List Int))) :=
  if (decide (i2 < (([(-194), 194] : List Int).length : Int))) = true then
  (((idx ([(-194), 194] : List Int) i2).bind fun x3 =>
  loop (t2 (salvage_finder_places_L2 x i x3)) (out2, (i64 (x2.At + x3)))) : Option (((List Int)))).bind (t1 fun (out3 : List Int) =>
  some (.inl (out3, (i64 (i2 + 1)))))
  else
  some (.inr out2)

noncomputable def salvage_finder_places (x : salvage_finder) (i : Int) : Option (List Int) :=
  (idx x.certain i).bind fun x2 =>
  ((loop (t2 (salvage_finder_places_L1 x i x2)) ([], 0)) : Option (((List Int)))).bind (t1 fun (out : List Int) =>
  some out)

noncomputable def salvage_partly_L1 (h_ : List Int) (at_ : Int) (f2 : Vector Int 64) (whole2 : Vector Bool 64) (i : Int) : Option (((Vector Int 64) × (Vector Bool 64) × Int) ⊕ ((Vector Int 64) × (Vector Bool 64))) :=
  if (decide (i < 64)) = true then
  if ((decide (0 ≤ (i64 (at_ + (i64 (3 * i)))))) && (decide ((i64 ((i64 (at_ + (i64 (3 * i)))) + 3)) ≤ (h_.length : Int)))) = true then
  (slc h_ (i64 (at_ + (i64 (3 * i)))) (i64 ((i64 (at_ + (i64 (3 * i)))) + 3))).bind fun l =>
  (salvage_wordAt l).bind fun y =>
  (vidx f2 i).bind fun x =>
  (vidx whole2 i).bind fun x2 =>
  some (.inl ((vset f2 i y), (vset whole2 i true), (i64 (i + 1))))
  else
  some (.inl (f2, whole2, (i64 (i + 1))))
  else
  some (.inr (f2, whole2))

noncomputable def salvage_partly (h_ : List Int) (at_ : Int) : Option ((Vector Int 64) × (Vector Bool 64)) :=
  ((loop (t3 (salvage_partly_L1 h_ at_)) ((Vector.replicate 64 0), (Vector.replicate 64 false), 0)) : Option (((Vector Int 64) × (Vector Bool 64)))).bind (t2 fun (f : Vector Int 64) (whole : Vector Bool 64) =>
  some (f, whole))

noncomputable def salvage_own (f : Vector Int 64) (whole : Vector Bool 64) : Option (Int × Bool) :=
  (vidx whole 0).bind fun x =>
  (gd ((!x) == false) false (vidx whole 1)).bind fun x2 =>
  (gd (((!x) || (!x2)) == false) false (vidx whole 2)).bind fun x3 =>
  if (((!x) || (!x2)) || (!x3)) = true then
  some (0, false)
  else
  (frame_Number f).bind fun y =>
  (frame_Sync y.1).bind fun y2 =>
  (gd (y.2 == true) 0 (vidx f 0)).bind fun x4 =>
  some (y.1, (y.2 && (decide (x4 = (u16 y2.1)))))

noncomputable def salvage_finder_other_L1 (x : salvage_finder) (i : Int) (place : Int) (best2 : Int) (least : Int) (i2 : Int) : Option ((Int × Int × Int) ⊕ (Int)) :=
  if (decide (i2 < (x.certain.length : Int))) = true then
  (idx x.certain i2).bind fun x2 =>
  (gd ((decide (i2 = i)) == false) (api_Found.mk 0 (Vector.replicate 64 0)) (idx x.certain i)).bind fun x3 =>
  (gd ((decide (i2 = i)) == false) 0 (rem (i64 (x2.At - x3.At)) 194)).bind fun q =>
  if ((decide (i2 = i)) || (!decide (q = 0))) = true then
  some (.inl (best2, least, (i64 (i2 + 1))))
  else
  (salvage_size (i64 (x2.At - place))).bind fun y =>
  if ((decide (best2 < 0)) || (decide (y < least))) = true then
  some (.inl (i2, y, (i64 (i2 + 1))))
  else
  some (.inl (best2, least, (i64 (i2 + 1))))
  else
  some (.inr best2)

noncomputable def salvage_finder_other (x : salvage_finder) (i : Int) (place : Int) : Option Int :=
  ((loop (t3 (salvage_finder_other_L1 x i place)) ((-1), 0, 0)) : Option ((Int))).bind (t1 fun (best : Int) =>
  some best)

noncomputable def salvage_within (n : Int) (low : Int) (high : Int) : Option Bool :=
  some ((decide (low ≤ n)) && (decide (n ≤ high)))

noncomputable def salvage_finder_number (x : salvage_finder) (i : Int) (place : Int) (f : Vector Int 64) (whole : Vector Bool 64) : Option (Int × Bool) :=
  (salvage_own f whole).bind fun y =>
  if y.2 = true then
  some (y.1, true)
  else
  (salvage_finder_other x i place).bind fun y2 =>
  if (decide (y2 < 0)) = true then
  some (0, false)
  else
  (idx x.certain i).bind fun x2 =>
  (quo .i64 (i64 (place - x2.At)) 194).bind fun q =>
  (idx x.certain y2).bind fun x3 =>
  (idx x.certain i).bind fun x4 =>
  (quo .i64 (i64 (x3.At - x4.At)) 194).bind fun q2 =>
  (idx x.numbers y2).bind fun x5 =>
  (idx x.numbers i).bind fun x6 =>
  (rem (i64 (x5 - x6)) q2).bind fun q3 =>
  (gd ((!decide (q3 = 0)) == false) 0 (quo .i64 (i64 (x5 - x6)) q2)).bind fun q4 =>
  if ((!decide (q3 = 0)) || (decide (q4 ≤ 0))) = true then
  some (0, false)
  else
  (idx x.numbers i).bind fun x7 =>
  (quo .i64 (i64 (x5 - x6)) q2).bind fun q5 =>
  (salvage_within (i64 (x7 + (i64 (q * q5)))) 0 4194303).bind fun y3 =>
  some ((i64 (x7 + (i64 (q * q5)))), y3)

noncomputable def frame_Odd (w : Int) : Option Bool :=
  (frame_odd w).bind fun y =>
  some y

noncomputable def salvage_rightAlone (w : Int) (i : Int) (number : Int) : Option Bool :=
  if (decide (i = 0)) = true then
  (frame_Sync number).bind fun y =>
  some (decide (w = (u16 y.1)))
  else
  if (decide (i = 1)) = true then
  (frame_Odd w).bind fun y2 =>
  some (y2 && (decide ((i64 (band .u16 w 2047)) = (band .i64 number 2047))))
  else
  if (decide (i = 2)) = true then
  (frame_Odd w).bind fun y3 =>
  (gd (y3 == true) 0 (shr .i64 number 11)).bind fun q =>
  some (y3 && (decide ((i64 (band .u16 w 2047)) = q)))
  else
  (frame_Odd w).bind fun y4 =>
  some y4

noncomputable def slices_IndexFunc_int_int_L1 (s : List Int) (f : Int → Option Bool) (i : Int) : Option ((Int) ⊕ (Int) ⊕ (Unit)) :=
  if (decide (i < (s.length : Int))) = true then
  (idx s i).bind fun x =>
  (f x).bind fun y =>
  if y = true then
  some (.inr (.inl i))
  else
  some (.inl (i64 (i + 1)))
  else
  some (.inr (.inr ()))

noncomputable def slices_IndexFunc_int_int (s : List Int) (f : Int → Option Bool) : Option Int :=
  ((loop (t1 (slices_IndexFunc_int_int_L1 s f)) 0) : Option ((Int) ⊕ (Unit))).bind (Sum.elim (fun q' => some q') (t0 (some (-1))))

noncomputable def slices_ContainsFunc_int_int (s : List Int) (f : Int → Option Bool) : Option Bool :=
  (slices_IndexFunc_int_int s f).bind fun y =>
  some (decide (0 ≤ y))

noncomputable def salvage_all_1 (s : Int) (c0 : Int) : Option Bool :=
  some (!decide (s = c0))

noncomputable def salvage_all (r_ : api_Rest) (state : Int) : Option Bool :=
  (slc r_.States.toList 0 (64 : Int)).bind fun l =>
  (slices_ContainsFunc_int_int l (fun z0 => salvage_all_1 z0 state)).bind fun y =>
  some (!y)

noncomputable def salvage_finder_beside_L1 (y : (Vector Int 64) × (Vector Bool 64)) (y2 : Int × Bool) (r_2 : api_Rest) (i2 : Int) : Option ((api_Rest × Int) ⊕ (api_Rest)) :=
  if (decide (i2 < 64)) = true then
  (vidx y.1 i2).bind fun x2 =>
  (vidx y.2 i2).bind fun x3 =>
  (gd (x3 == true) false (salvage_rightAlone x2 i2 y2.1)).bind fun y3 =>
  if (x3 && y3) = true then
  (vidx r_2.Frame i2).bind fun x4 =>
  (vidx r_2.States i2).bind fun x5 =>
  some (.inl ((api_Rest.mk r_2.Number (vset r_2.Frame i2 x2) (vset r_2.States i2 1) r_2.Sound r_2.Copies r_2.Conflict), (i64 (i2 + 1))))
  else
  some (.inl (r_2, (i64 (i2 + 1))))
  else
  some (.inr r_2)

noncomputable def salvage_finder_beside (x : salvage_finder) (i : Int) (place : Int) : Option (api_Rest × Bool) :=
  (salvage_partly x.h_ place).bind fun y =>
  (salvage_finder_number x i place y.1 y.2).bind fun y2 =>
  if (!y2.2) = true then
  some ((api_Rest.mk 0 (Vector.replicate 64 0) (Vector.replicate 64 0) false 0 false), false)
  else
  ((loop (t2 (salvage_finder_beside_L1 y y2)) ((api_Rest.mk y2.1 (Vector.replicate 64 0) (Vector.replicate 64 0) false 0 false), 0)) : Option ((api_Rest))).bind (t1 fun (r_ : api_Rest) =>
  (salvage_all r_ 0).bind fun y4 =>
  some (r_, (!y4)))

noncomputable def slices_IndexFunc_api_Rest_api_Rest_L1 (s : List api_Rest) (f : api_Rest → Option Bool) (i : Int) : Option ((Int) ⊕ (Int) ⊕ (Unit)) :=
  if (decide (i < (s.length : Int))) = true then
  (idx s i).bind fun x =>
  (f x).bind fun y =>
  if y = true then
  some (.inr (.inl i))
  else
  some (.inl (i64 (i + 1)))
  else
  some (.inr (.inr ()))

noncomputable def slices_IndexFunc_api_Rest_api_Rest (s : List api_Rest) (f : api_Rest → Option Bool) : Option Int :=
  ((loop (t1 (slices_IndexFunc_api_Rest_api_Rest_L1 s f)) 0) : Option ((Int) ⊕ (Unit))).bind (Sum.elim (fun q' => some q') (t0 (some (-1))))

noncomputable def slices_ContainsFunc_api_Rest_api_Rest (s : List api_Rest) (f : api_Rest → Option Bool) : Option Bool :=
  (slices_IndexFunc_api_Rest_api_Rest s f).bind fun y =>
  some (decide (0 ≤ y))

noncomputable def salvage_merge_1 (r_ : api_Rest) : Option Bool :=
  some r_.Conflict

noncomputable def salvage_ofSound_L2 (o2 : api_Rest) (x : api_Rest) (States : Vector Int 64) (i2 : Int) : Option (((Vector Int 64) × Int) ⊕ (api_Rest)) :=
  if (decide (i2 < 64)) = true then
  (vidx x.States i2).bind fun x2 =>
  (vidx States i2).bind fun x3 =>
  (vidx States i2).bind fun x4 =>
  some (.inl ((vset States i2 (max x3 x2)), (i64 (i2 + 1))))
  else
  some (.inr (api_Rest.mk o2.Number x.Frame States true o2.Copies o2.Conflict))

noncomputable def salvage_ofSound_L1 (l : List api_Rest) (o2 : api_Rest) (i : Int) : Option ((api_Rest × Int) ⊕ (Bool × api_Rest) ⊕ (api_Rest)) :=
  if (decide (i < (l.length : Int))) = true then
  (((idx l i).bind fun x =>
  if (!x.Sound) = true then
  some (.inr o2)
  else
  if (o2.Sound && (!(decide (o2.Frame = x.Frame)))) = true then
  some (.inl (false, o2))
  else
  (loop (t2 (salvage_ofSound_L2 o2 x)) (o2.States, 0)).bind (fun q' => some (.inr q'))) : Option ((Bool × api_Rest) ⊕ (api_Rest))).bind (Sum.elim (fun q' => some (.inr (.inl q'))) (t1 fun (o3 : api_Rest) =>
  some (.inl (o3, (i64 (i + 1))))))
  else
  some (.inr (.inr o2))

noncomputable def salvage_ofSound (out : api_Rest) (l : List api_Rest) : Option (Bool × api_Rest) :=
  ((loop (t2 (salvage_ofSound_L1 l)) (out, 0)) : Option ((Bool × api_Rest) ⊕ (api_Rest))).bind (Sum.elim (fun q' => some q') (t1 fun (o : api_Rest) =>
  some (true, o)))

noncomputable def salvage_ofParts_L2 (l : List api_Rest) (i : Int) (o4 : api_Rest) (differ2 : Bool) (i2 : Int) : Option ((api_Rest × Bool × Int) ⊕ (api_Rest × Bool)) :=
  if (decide (i2 < (l.length : Int))) = true then
  (idx l i2).bind fun x =>
  (vidx x.States i).bind fun x2 =>
  if (decide (x2 = 0)) = true then
  some (.inl (o4, differ2, (i64 (i2 + 1))))
  else
  (gd (differ2 == false) 0 (vidx o4.States i)).bind fun x3 =>
  (gd ((differ2 == false) && ((!decide (x3 = 0)) == true)) 0 (vidx o4.Frame i)).bind fun x4 =>
  (gd ((differ2 == false) && ((!decide (x3 = 0)) == true)) 0 (vidx x.Frame i)).bind fun x5 =>
  (vidx o4.States i).bind fun x6 =>
  (vidx x.Frame i).bind fun x7 =>
  (vidx o4.Frame i).bind fun x8 =>
  some (.inl ((api_Rest.mk o4.Number (vset o4.Frame i x7) (vset o4.States i 1) o4.Sound o4.Copies o4.Conflict), (differ2 || ((!decide (x3 = 0)) && (!decide (x4 = x5)))), (i64 (i2 + 1))))
  else
  some (.inr (o4, differ2))

noncomputable def salvage_ofParts_L1 (l : List api_Rest) (o : api_Rest) (i : Int) : Option ((api_Rest × Int) ⊕ (api_Rest)) :=
  if (decide (i < 64)) = true then
  ((((loop (t3 (salvage_ofParts_L2 l i)) (o, false, 0)) : Option ((api_Rest × Bool))).bind (t2 fun (o3 : api_Rest) (differ : Bool) =>
  if differ = true then
  (vidx o3.States i).bind fun x9 =>
  (vidx o3.Frame i).bind fun x10 =>
  some (api_Rest.mk o3.Number (vset o3.Frame i 0) (vset o3.States i 0) o3.Sound o3.Copies o3.Conflict)
  else
  some o3)) : Option ((api_Rest))).bind (t1 fun (o2 : api_Rest) =>
  some (.inl (o2, (i64 (i + 1)))))
  else
  some (.inr o)

noncomputable def salvage_ofParts (out : api_Rest) (l : List api_Rest) : Option api_Rest :=
  loop (t2 (salvage_ofParts_L1 l)) (out, 0)

noncomputable def salvage_some_1 (s : Int) (c0 : Int) (c1 : Int) : Option Bool :=
  some ((decide (s = c0)) || (decide (s = c1)))

noncomputable def salvage_some (r_ : api_Rest) (a : Int) (b : Int) : Option Bool :=
  (slc r_.States.toList 0 (64 : Int)).bind fun l =>
  (slices_ContainsFunc_int_int l (fun z0 => salvage_some_1 z0 a b)).bind fun y =>
  some y

noncomputable def salvage_soundAs (f : Vector Int 64) (number : Int) : Option Bool :=
  (frame_Number f).bind fun y =>
  (frame_Sound f).bind fun y2 =>
  some (y2 && (decide (y.1 = number)))

noncomputable def salvage_merge_L1 (l : List api_Rest) (Copies2 : Int) (i : Int) : Option ((Int × Int) ⊕ (Int)) :=
  if (decide (i < (l.length : Int))) = true then
  (idx l i).bind fun x2 =>
  some (.inl ((i64 (Copies2 + x2.Copies)), (i64 (i + 1))))
  else
  some (.inr Copies2)

noncomputable def salvage_merge (l : List api_Rest) : Option api_Rest :=
  (idx l 0).bind fun x =>
  ((loop (t2 (salvage_merge_L1 l)) (0, 0)) : Option ((Int))).bind (t1 fun (Copies : Int) =>
  (slices_ContainsFunc_api_Rest_api_Rest l (fun z0 => salvage_merge_1 z0)).bind fun y =>
  (salvage_ofSound (api_Rest.mk x.Number (Vector.replicate 64 0) (Vector.replicate 64 0) false Copies false) l).bind fun y2 =>
  if (y || (!y2.1)) = true then
  some (api_Rest.mk y2.2.Number (Vector.replicate 64 0) (Vector.replicate 64 0) false y2.2.Copies true)
  else
  ((if (!y2.2.Sound) = true then
  (salvage_ofParts y2.2 l).bind fun y3 =>
  (salvage_some y3 0 0).bind fun y4 =>
  (gd ((!y4) == true) false (salvage_soundAs y3.Frame y3.Number)).bind fun y5 =>
  if ((!y4) && y5) = true then
  (salvage_filled 3).bind fun y6 =>
  some (api_Rest.mk y3.Number y3.Frame y6 true 1 y3.Conflict)
  else
  some y3
  else
  some y2.2) : Option ((api_Rest))).bind (t1 fun (out : api_Rest) =>
  (gd (out.Sound == true) false (salvage_all out 3)).bind fun y7 =>
  if (out.Sound && y7) = true then
  some (api_Rest.mk out.Number out.Frame out.States out.Sound (max out.Copies 1) out.Conflict)
  else
  some out))

noncomputable def salvage_grouped_L1 (l : List api_Rest) (groups2 : List (Int × (List api_Rest))) (numbers2 : List Int) (i : Int) : Option (((List (Int × (List api_Rest))) × (List Int) × Int) ⊕ ((List (Int × (List api_Rest))) × (List Int))) :=
  if (decide (i < (l.length : Int))) = true then
  (((idx l i).bind fun x =>
  (((some (msel (mget kqI groups2 x.Number))).bind (Sum.elim (fun z =>
  if true = true then
  (app numbers2 ([x.Number] : List Int)).bind fun l2 =>
  some l2
  else
  none) (fun z =>
  (ck (decide (0 < z.length))).bind fun u =>
  if false = true then
  none
  else
  some numbers2))) : Option (((List Int)))).bind (t1 fun (numbers4 : List Int) =>
  (some (msel (mget kqI groups2 x.Number))).bind (Sum.elim (fun z2 =>
  (app [] ([x] : List api_Rest)).bind fun l3 =>
  some ((mput kqI groups2 x.Number l3), numbers4)) (fun z2 =>
  (app z2 ([x] : List api_Rest)).bind fun l4 =>
  some ((mput kqI groups2 x.Number l4), numbers4))))) : Option (((List (Int × (List api_Rest))) × (List Int)))).bind (t2 fun (groups3 : List (Int × (List api_Rest))) (numbers3 : List Int) =>
  some (.inl (groups3, numbers3, (i64 (i + 1)))))
  else
  some (.inr (groups2, numbers2))

noncomputable def salvage_grouped_L2 (groups : List (Int × (List api_Rest))) (y : List Int) (out2 : List api_Rest) (i2 : Int) : Option (((List api_Rest) × Int) ⊕ ((List api_Rest))) :=
  if (decide (i2 < (y.length : Int))) = true then
  (idx y i2).bind fun x2 =>
  (some (msel (mget kqI groups x2))).bind (Sum.elim (fun z3 =>
  (salvage_merge []).bind fun y2 =>
  (app out2 ([y2] : List api_Rest)).bind fun l5 =>
  some (.inl (l5, (i64 (i2 + 1))))) (fun z3 =>
  (salvage_merge z3).bind fun y3 =>
  (app out2 ([y3] : List api_Rest)).bind fun l6 =>
  some (.inl (l6, (i64 (i2 + 1))))))
  else
  some (.inr out2)

noncomputable def salvage_grouped (l : List api_Rest) : Option (List api_Rest) :=
  ((loop (t3 (salvage_grouped_L1 l)) (([] : List (Int × (List api_Rest))), [], 0)) : Option (((List (Int × (List api_Rest))) × (List Int)))).bind (t2 fun (groups : List (Int × (List api_Rest))) (numbers : List Int) =>
  (sortJ numbers).bind fun y =>
  ((loop (t2 (salvage_grouped_L2 groups y)) ([], 0)) : Option (((List api_Rest)))).bind (t1 fun (out : List api_Rest) =>
  some out))

noncomputable def salvage_rests_L2 (y : salvage_finder) (i : Int) (y3 : (List Int)) (l5 : List api_Rest) (i2 : Int) : Option (((List api_Rest) × Int) ⊕ ((List api_Rest))) :=
  if (decide (i2 < (y3.length : Int))) = true then
  (idx y3 i2).bind fun x3 =>
  (salvage_finder_beside y i x3).bind fun y4 =>
  if y4.2 = true then
  (app l5 ([y4.1] : List api_Rest)).bind fun l6 =>
  some (.inl (l6, (i64 (i2 + 1))))
  else
  some (.inl (l5, (i64 (i2 + 1))))
  else
  some (.inr l5)

noncomputable def salvage_rests_L1 (y : salvage_finder) (l2 : List api_Rest) (i : Int) : Option (((List api_Rest) × Int) ⊕ ((List api_Rest))) :=
  if (decide (i < (y.certain.length : Int))) = true then
  (((idx y.certain i).bind fun x =>
  (idx y.numbers i).bind fun x2 =>
  (salvage_filled 3).bind fun y2 =>
  (app l2 ([(api_Rest.mk x2 x.Frame y2 true 1 false)] : List api_Rest)).bind fun l4 =>
  (salvage_finder_places y i).bind fun y3 =>
  loop (t2 (salvage_rests_L2 y i y3)) (l4, 0)) : Option (((List api_Rest)))).bind (t1 fun (l3 : List api_Rest) =>
  some (.inl (l3, (i64 (i + 1)))))
  else
  some (.inr l2)

noncomputable def salvage_rests (h_ : List Int) : Option (List api_Rest) :=
  (salvage_newFinder h_).bind fun y =>
  ((loop (t2 (salvage_rests_L1 y)) ([], 0)) : Option (((List api_Rest)))).bind (t1 fun (l : List api_Rest) =>
  (salvage_grouped l).bind fun y5 =>
  some y5)

noncomputable def salvage_Rests (p : api_Piece) : Option ((List api_Rest) × Int) :=
  (salvage_CheckPiece p).bind fun y =>
  if (!decide (y = 0)) = true then
  some ([], y)
  else
  (salvage_halves p).bind fun y2 =>
  (salvage_rests y2).bind fun y3 =>
  some (y3, 0)

noncomputable def ref4_CheckPiece (p : api_Piece) : Option Int :=
  if (decide (200000 < (p.Bytes.length : Int))) = true then
  some 3
  else
  (gd ((p.Half == true) && ((decide ((p.Bytes.length : Int) = 0)) == false)) 0 (idx p.Bytes 0)).bind fun x =>
  if (p.Half && ((decide ((p.Bytes.length : Int) = 0)) || (decide (15 < x)))) = true then
  some 2
  else
  some 0

noncomputable def ref4_Halves_L1 (p : api_Piece) (out2 : List Int) (i : Int) : Option (((List Int) × Int) ⊕ ((List Int))) :=
  if (decide (i < (p.Bytes.length : Int))) = true then
  (idx p.Bytes i).bind fun x =>
  ((if ((decide (0 < i)) || (!p.Half)) = true then
  (quo .u8 x 16).bind fun q =>
  (app out2 ([q] : List Int)).bind fun l =>
  some l
  else
  some out2) : Option (((List Int)))).bind (t1 fun (out3 : List Int) =>
  (rem x 16).bind fun q2 =>
  (app out3 ([q2] : List Int)).bind fun l2 =>
  some (.inl (l2, (i64 (i + 1)))))
  else
  some (.inr out2)

noncomputable def ref4_Halves (p : api_Piece) : Option (List Int) :=
  ((loop (t2 (ref4_Halves_L1 p)) ([], 0)) : Option (((List Int)))).bind (t1 fun (out : List Int) =>
  some out)

noncomputable def ref4_frameAt_L1 (h_ : List Int) (at_ : Int) (f2 : Vector Int 64) (whole2 : Vector Bool 64) (i : Int) : Option (((Vector Int 64) × (Vector Bool 64) × Int) ⊕ ((Vector Int 64) × (Vector Bool 64))) :=
  if (decide (i < 64)) = true then
  if ((decide ((i64 (at_ + (i64 (3 * i)))) < 0)) || (decide ((h_.length : Int) < (i64 ((i64 (at_ + (i64 (3 * i)))) + 3))))) = true then
  some (.inl (f2, whole2, (i64 (i + 1))))
  else
  (vidx whole2 i).bind fun x =>
  (idx h_ (i64 (at_ + (i64 (3 * i))))).bind fun x2 =>
  (idx h_ (i64 ((i64 (at_ + (i64 (3 * i)))) + 1))).bind fun x3 =>
  (idx h_ (i64 ((i64 (at_ + (i64 (3 * i)))) + 2))).bind fun x4 =>
  (vidx f2 i).bind fun x5 =>
  some (.inl ((vset f2 i (u16 ((u16 ((u16 ((u16 x2) * 256)) + (u16 ((u16 x3) * 16)))) + (u16 x4)))), (vset whole2 i true), (i64 (i + 1))))
  else
  some (.inr (f2, whole2))

noncomputable def ref4_frameAt (h_ : List Int) (at_ : Int) : Option ((Vector Int 64) × (Vector Bool 64)) :=
  ((loop (t3 (ref4_frameAt_L1 h_ at_)) ((#v[0, 0, 0, 0, 0, 0, 0, 0, 0, 0, 0, 0, 0, 0, 0, 0, 0, 0, 0, 0, 0, 0, 0, 0, 0, 0, 0, 0, 0, 0, 0, 0, 0, 0, 0, 0, 0, 0, 0, 0, 0, 0, 0, 0, 0, 0, 0, 0, 0, 0, 0, 0, 0, 0, 0, 0, 0, 0, 0, 0, 0, 0, 0, 0] : Vector Int 64), (#v[false, false, false, false, false, false, false, false, false, false, false, false, false, false, false, false, false, false, false, false, false, false, false, false, false, false, false, false, false, false, false, false, false, false, false, false, false, false, false, false, false, false, false, false, false, false, false, false, false, false, false, false, false, false, false, false, false, false, false, false, false, false, false, false] : Vector Bool 64), 0)) : Option (((Vector Int 64) × (Vector Bool 64)))).bind (t2 fun (f : Vector Int 64) (whole : Vector Bool 64) =>
  some (f, whole))

noncomputable def ref1_numberOf (f : Vector Int 64) : Option Int :=
  (vidx f 1).bind fun x =>
  (rem (i64 x) 2048).bind fun q =>
  (vidx f 2).bind fun x2 =>
  (rem (i64 x2) 2048).bind fun q2 =>
  some (i64 (q + (i64 (q2 * 2048))))

noncomputable def ref1_syncOf (number : Int) : Option Int :=
  (rem number 4).bind fun q =>
  (vidx (#v[583, 1464, 2631, 3512] : Vector Int 4) q).bind fun x =>
  some x

noncomputable def ref1_odd_L1 (n2 : Int) (ones2 : Int) : Option ((Int × Int) ⊕ (Int)) :=
  if (decide (0 < n2)) = true then
  (rem n2 2).bind fun q =>
  (quo .i64 n2 2).bind fun q2 =>
  some (.inl (q2, (i64 (ones2 + q))))
  else
  some (.inr ones2)

noncomputable def ref1_odd (n : Int) : Option Bool :=
  ((loop (t2 (ref1_odd_L1)) (n, 0)) : Option ((Int))).bind (t1 fun (ones : Int) =>
  (rem ones 2).bind fun q3 =>
  some (decide (q3 = 1)))

noncomputable def ref1_sum_L1 (f : Vector Int 64) (x2 : Int) (i : Int) : Option ((Int × Int) ⊕ (Int)) :=
  if (decide (i ≤ 60)) = true then
  (vidx f i).bind fun x3 =>
  (rem (i64 x3) 2048).bind fun q =>
  some (.inl ((bxor .i64 x2 q), (i64 (i + 1))))
  else
  some (.inr x2)

noncomputable def ref1_sum (f : Vector Int 64) : Option Int :=
  ((loop (t2 (ref1_sum_L1 f)) (0, 1)) : Option ((Int))).bind (t1 fun (x : Int) =>
  some x)

noncomputable def ref1_check_L1 (f : Vector Int 64) (rest2 : Int) (i : Int) : Option ((Int × Int) ⊕ (Int)) :=
  if (decide (i < 766)) = true then
  ((if (decide (i < 744)) = true then
  (quo .i64 i 12).bind fun q =>
  (vidx f q).bind fun x =>
  (rem i 12).bind fun q2 =>
  (shr .i64 (i64 x) (i64 (11 - q2))).bind fun q3 =>
  some (band .i64 q3 1)
  else
  some 0) : Option ((Int))).bind (t1 fun (bit : Int) =>
  if (decide (4194304 ≤ (i64 ((i64 (rest2 * 2)) + bit)))) = true then
  some (.inl ((bxor .i64 (i64 ((i64 (rest2 * 2)) + bit)) 6291471), (i64 (i + 1))))
  else
  some (.inl ((i64 ((i64 (rest2 * 2)) + bit)), (i64 (i + 1)))))
  else
  some (.inr rest2)

noncomputable def ref1_check (f : Vector Int 64) : Option Int :=
  ((loop (t2 (ref1_check_L1 f)) (0, 0)) : Option ((Int))).bind (t1 fun (rest : Int) =>
  some rest)

noncomputable def ref1_Flaws_L1 (f : Vector Int 64) (out2 : List api_Flaw) (i : Int) : Option (((List api_Flaw) × Int) ⊕ ((List api_Flaw))) :=
  if (decide (i < 64)) = true then
  (vidx f i).bind fun x =>
  if (decide (4095 < x)) = true then
  (app out2 ([(api_Flaw.mk i 5)] : List api_Flaw)).bind fun l =>
  some (.inl (l, (i64 (i + 1))))
  else
  some (.inl (out2, (i64 (i + 1))))
  else
  some (.inr out2)

noncomputable def ref1_Flaws_L2 (f : Vector Int 64) (out5 : List api_Flaw) (i2 : Int) : Option (((List api_Flaw) × Int) ⊕ ((List api_Flaw))) :=
  if (decide (i2 < 64)) = true then
  (vidx f i2).bind fun x3 =>
  (ref1_odd (i64 x3)).bind fun y3 =>
  if (!y3) = true then
  (app out5 ([(api_Flaw.mk i2 2)] : List api_Flaw)).bind fun l3 =>
  some (.inl (l3, (i64 (i2 + 1))))
  else
  some (.inl (out5, (i64 (i2 + 1))))
  else
  some (.inr out5)

noncomputable def ref1_Flaws (f : Vector Int 64) : Option (List api_Flaw) :=
  ((loop (t2 (ref1_Flaws_L1 f)) ([], 0)) : Option (((List api_Flaw)))).bind (t1 fun (out : List api_Flaw) =>
  if (decide (0 < (out.length : Int))) = true then
  some out
  else
  (((vidx f 0).bind fun x2 =>
  (ref1_numberOf f).bind fun y =>
  (ref1_syncOf y).bind fun y2 =>
  if (!decide ((i64 x2) = y2)) = true then
  (app out ([(api_Flaw.mk 0 1)] : List api_Flaw)).bind fun l2 =>
  some l2
  else
  some out) : Option (((List api_Flaw)))).bind (t1 fun (out3 : List api_Flaw) =>
  ((loop (t2 (ref1_Flaws_L2 f)) (out3, 1)) : Option (((List api_Flaw)))).bind (t1 fun (out4 : List api_Flaw) =>
  (((vidx f 61).bind fun x4 =>
  (rem (i64 x4) 2048).bind fun q =>
  (ref1_sum f).bind fun y4 =>
  if (!decide (q = y4)) = true then
  (app out4 ([(api_Flaw.mk 61 3)] : List api_Flaw)).bind fun l4 =>
  some l4
  else
  some out4) : Option (((List api_Flaw)))).bind (t1 fun (out6 : List api_Flaw) =>
  (vidx f 62).bind fun x5 =>
  (rem (i64 x5) 2048).bind fun q2 =>
  (vidx f 63).bind fun x6 =>
  (rem (i64 x6) 2048).bind fun q3 =>
  (ref1_check f).bind fun y5 =>
  if (!decide ((i64 ((i64 (q2 * 2048)) + q3)) = y5)) = true then
  (app out6 ([(api_Flaw.mk 62 4)] : List api_Flaw)).bind fun l5 =>
  some l5
  else
  some out6))))

noncomputable def ref1_Sound (f : Vector Int 64) : Option Bool :=
  (ref1_Flaws f).bind fun y =>
  some (decide ((y.length : Int) = 0))

noncomputable def ref4_scan_L1 (h_ : List Int) (out2 : List api_Found) (at_ : Int) : Option (((List api_Found) × Int) ⊕ ((List api_Found))) :=
  if (decide ((i64 (at_ + 192)) ≤ (h_.length : Int))) = true then
  (((idx h_ at_).bind fun x =>
  (idx h_ (i64 (at_ + 1))).bind fun x2 =>
  (idx h_ (i64 (at_ + 2))).bind fun x3 =>
  if ((((!decide ((i64 ((i64 ((i64 ((i64 x) * 256)) + (i64 ((i64 x2) * 16)))) + (i64 x3))) = 583)) && (!decide ((i64 ((i64 ((i64 ((i64 x) * 256)) + (i64 ((i64 x2) * 16)))) + (i64 x3))) = 1464))) && (!decide ((i64 ((i64 ((i64 ((i64 x) * 256)) + (i64 ((i64 x2) * 16)))) + (i64 x3))) = 2631))) && (!decide ((i64 ((i64 ((i64 ((i64 x) * 256)) + (i64 ((i64 x2) * 16)))) + (i64 x3))) = 3512))) = true then
  some out2
  else
  (ref4_frameAt h_ at_).bind fun y =>
  (ref1_Sound y.1).bind fun y2 =>
  if y2 = true then
  (app out2 ([(api_Found.mk at_ y.1)] : List api_Found)).bind fun l =>
  some l
  else
  some out2) : Option (((List api_Found)))).bind (t1 fun (out3 : List api_Found) =>
  some (.inl (out3, (i64 (at_ + 1)))))
  else
  some (.inr out2)

noncomputable def ref4_scan (h_ : List Int) : Option (List api_Found) :=
  ((loop (t2 (ref4_scan_L1 h_)) ([], 0)) : Option (((List api_Found)))).bind (t1 fun (out : List api_Found) =>
  some out)

noncomputable def ref4_apart (a : Int) (b : Int) : Option Int :=
  if (decide (a < b)) = true then
  some (i64 (b - a))
  else
  some (i64 (a - b))

noncomputable def ref4_certain_L1 (l : List api_Found) (out2 : List api_Found) (i : Int) : Option (((List api_Found) × Int) ⊕ ((List api_Found))) :=
  if (decide (i < (l.length : Int))) = true then
  (idx l i).bind fun x =>
  (gd ((decide (i = 0)) == false) (api_Found.mk 0 (Vector.replicate 64 0)) (idx l (i64 (i - 1)))).bind fun x2 =>
  (gd ((decide (i = 0)) == false) 0 (ref4_apart x2.At x.At)).bind fun y =>
  (gd ((((decide (i = 0)) || (decide (192 ≤ y))) == true) && ((decide ((i64 (i + 1)) = (l.length : Int))) == false)) (api_Found.mk 0 (Vector.replicate 64 0)) (idx l (i64 (i + 1)))).bind fun x3 =>
  (gd ((((decide (i = 0)) || (decide (192 ≤ y))) == true) && ((decide ((i64 (i + 1)) = (l.length : Int))) == false)) 0 (ref4_apart x3.At x.At)).bind fun y2 =>
  if (((decide (i = 0)) || (decide (192 ≤ y))) && ((decide ((i64 (i + 1)) = (l.length : Int))) || (decide (192 ≤ y2)))) = true then
  (app out2 ([x] : List api_Found)).bind fun l2 =>
  some (.inl (l2, (i64 (i + 1))))
  else
  some (.inl (out2, (i64 (i + 1))))
  else
  some (.inr out2)

noncomputable def ref4_certain (l : List api_Found) : Option (List api_Found) :=
  ((loop (t2 (ref4_certain_L1 l)) ([], 0)) : Option (((List api_Found)))).bind (t1 fun (out : List api_Found) =>
  some out)

noncomputable def ref1_Right (w : Int) : Option Bool :=
  (gd ((decide (w ≤ 4095)) == true) false (ref1_odd (i64 w))).bind fun y =>
  some ((decide (w ≤ 4095)) && y)

noncomputable def ref1_Number (f : Vector Int 64) : Option (Int × Bool) :=
  (vidx f 1).bind fun x =>
  (ref1_Right x).bind fun y =>
  (gd ((!y) == false) 0 (vidx f 2)).bind fun x2 =>
  (gd ((!y) == false) false (ref1_Right x2)).bind fun y2 =>
  if ((!y) || (!y2)) = true then
  some (0, false)
  else
  (ref1_numberOf f).bind fun y3 =>
  some (y3, true)

noncomputable def ref4_number (f : Vector Int 64) : Option Int :=
  (ref1_Number f).bind fun y =>
  some y.1

noncomputable def ref4_nearest_L1 (l : List api_Found) (at_ : Int) (best2 : Int) (i : Int) : Option ((Int × Int) ⊕ (Int)) :=
  if (decide (i < (l.length : Int))) = true then
  (idx l i).bind fun x =>
  (gd ((decide (best2 < 0)) == false) 0 (ref4_apart x.At at_)).bind fun y =>
  (gd ((decide (best2 < 0)) == false) (api_Found.mk 0 (Vector.replicate 64 0)) (idx l best2)).bind fun x2 =>
  (gd ((decide (best2 < 0)) == false) 0 (ref4_apart x2.At at_)).bind fun y2 =>
  if ((decide (best2 < 0)) || (decide (y < y2))) = true then
  some (.inl (i, (i64 (i + 1))))
  else
  some (.inl (best2, (i64 (i + 1))))
  else
  some (.inr best2)

noncomputable def ref4_nearest (l : List api_Found) (at_ : Int) : Option Int :=
  ((loop (t2 (ref4_nearest_L1 l at_)) ((-1), 0)) : Option ((Int))).bind (t1 fun (best : Int) =>
  some best)

noncomputable def ref1_Sync (number : Int) : Option (Int × Int) :=
  if ((decide (number < 0)) || (decide (4194304 ≤ number))) = true then
  some (0, 9)
  else
  (ref1_syncOf number).bind fun y =>
  some (y, 0)

noncomputable def ref4_ownNumber (f : Vector Int 64) (whole : Vector Bool 64) : Option (Int × Bool) :=
  (vidx whole 0).bind fun x =>
  (gd ((!x) == false) false (vidx whole 1)).bind fun x2 =>
  (gd (((!x) || (!x2)) == false) false (vidx whole 2)).bind fun x3 =>
  if (((!x) || (!x2)) || (!x3)) = true then
  some (0, false)
  else
  (ref1_Number f).bind fun y =>
  if (!y.2) = true then
  some (0, false)
  else
  (ref1_Sync y.1).bind fun y2 =>
  (vidx f 0).bind fun x4 =>
  some (y.1, (decide ((i64 x4) = y2.1)))

noncomputable def ref4_otherNumber_L1 (l : List api_Found) (c_ : Int) (at_ : Int) (best2 : Int) (i : Int) : Option ((Int × Int) ⊕ (Int)) :=
  if (decide (i < (l.length : Int))) = true then
  (idx l i).bind fun x =>
  (gd ((decide (i = c_)) == false) (api_Found.mk 0 (Vector.replicate 64 0)) (idx l c_)).bind fun x2 =>
  (gd ((decide (i = c_)) == false) 0 (rem (i64 (x.At - x2.At)) 194)).bind fun q =>
  if ((decide (i = c_)) || (!decide (q = 0))) = true then
  some (.inl (best2, (i64 (i + 1))))
  else
  (gd ((decide (best2 < 0)) == false) 0 (ref4_apart x.At at_)).bind fun y =>
  (gd ((decide (best2 < 0)) == false) (api_Found.mk 0 (Vector.replicate 64 0)) (idx l best2)).bind fun x3 =>
  (gd ((decide (best2 < 0)) == false) 0 (ref4_apart x3.At at_)).bind fun y2 =>
  if ((decide (best2 < 0)) || (decide (y < y2))) = true then
  some (.inl (i, (i64 (i + 1))))
  else
  some (.inl (best2, (i64 (i + 1))))
  else
  some (.inr best2)

noncomputable def ref4_otherNumber (l : List api_Found) (c_ : Int) (at_ : Int) : Option (Int × Bool) :=
  ((loop (t2 (ref4_otherNumber_L1 l c_ at_)) ((-1), 0)) : Option ((Int))).bind (t1 fun (best : Int) =>
  if (decide (best < 0)) = true then
  some (0, false)
  else
  (idx l c_).bind fun x4 =>
  (quo .i64 (i64 (at_ - x4.At)) 194).bind fun q2 =>
  (idx l best).bind fun x5 =>
  (idx l c_).bind fun x6 =>
  (quo .i64 (i64 (x5.At - x6.At)) 194).bind fun q3 =>
  (idx l c_).bind fun x7 =>
  (ref4_number x7.Frame).bind fun y3 =>
  (idx l best).bind fun x8 =>
  (ref4_number x8.Frame).bind fun y4 =>
  (idx l c_).bind fun x9 =>
  (ref4_number x9.Frame).bind fun y5 =>
  (gd (((decide ((i64 (y4 - y5)) = 0)) || (!((decide (0 < (i64 (y4 - y5)))) == (decide (0 < q3))))) == false) 0 (rem (i64 (y4 - y5)) q3)).bind fun q4 =>
  if (((decide ((i64 (y4 - y5)) = 0)) || (!((decide (0 < (i64 (y4 - y5)))) == (decide (0 < q3))))) || (!decide (q4 = 0))) = true then
  some (0, false)
  else
  (quo .i64 (i64 (y4 - y5)) q3).bind fun q5 =>
  some ((i64 (y3 + (i64 (q2 * q5)))), ((decide (0 ≤ (i64 (y3 + (i64 (q2 * q5)))))) && (decide ((i64 (y3 + (i64 (q2 * q5)))) < 4194304)))))

noncomputable def ref4_restAt_L1 (f : Vector Int 64) (whole : Vector Bool 64) (n : Int) (y : Int × Int) (r_2 : api_Rest) (i : Int) : Option ((api_Rest × Int) ⊕ (api_Rest)) :=
  if (decide (i < 64)) = true then
  (vidx whole i).bind fun x =>
  (gd (x == true) 0 (vidx f i)).bind fun x2 =>
  (gd (x == true) false (ref1_Right x2)).bind fun y2 =>
  ((if (decide (i = 0)) = true then
  (vidx whole i).bind fun x3 =>
  (gd (x3 == true) 0 (vidx f i)).bind fun x4 =>
  some (x3 && (decide ((i64 x4) = y.1)))
  else
  if (decide (i = 1)) = true then
  (gd ((x && y2) == true) 0 (vidx f i)).bind fun x5 =>
  (gd ((x && y2) == true) 0 (rem (i64 x5) 2048)).bind fun q =>
  (gd ((x && y2) == true) 0 (rem n 2048)).bind fun q2 =>
  some ((x && y2) && (decide (q = q2)))
  else
  if (decide (i = 2)) = true then
  (gd ((x && y2) == true) 0 (vidx f i)).bind fun x6 =>
  (gd ((x && y2) == true) 0 (rem (i64 x6) 2048)).bind fun q3 =>
  (gd ((x && y2) == true) 0 (quo .i64 n 2048)).bind fun q4 =>
  some ((x && y2) && (decide (q3 = q4)))
  else
  some (x && y2)) : Option ((Bool))).bind (t1 fun (right : Bool) =>
  if right = true then
  (vidx f i).bind fun x7 =>
  (vidx r_2.Frame i).bind fun x8 =>
  (vidx r_2.States i).bind fun x9 =>
  some (.inl ((api_Rest.mk r_2.Number (vset r_2.Frame i x7) (vset r_2.States i 1) r_2.Sound r_2.Copies r_2.Conflict), (i64 (i + 1))))
  else
  some (.inl (r_2, (i64 (i + 1)))))
  else
  some (.inr r_2)

noncomputable def ref4_restAt (f : Vector Int 64) (whole : Vector Bool 64) (n : Int) : Option api_Rest :=
  (ref1_Sync n).bind fun y =>
  ((loop (t2 (ref4_restAt_L1 f whole n y)) ((api_Rest.mk n (Vector.replicate 64 0) (Vector.replicate 64 0) false 0 false), 0)) : Option ((api_Rest))).bind (t1 fun (r_ : api_Rest) =>
  some r_)

noncomputable def ref4_lostWhole (r_ : api_Rest) : Option Bool :=
  some (decide (r_.States = (#v[0, 0, 0, 0, 0, 0, 0, 0, 0, 0, 0, 0, 0, 0, 0, 0, 0, 0, 0, 0, 0, 0, 0, 0, 0, 0, 0, 0, 0, 0, 0, 0, 0, 0, 0, 0, 0, 0, 0, 0, 0, 0, 0, 0, 0, 0, 0, 0, 0, 0, 0, 0, 0, 0, 0, 0, 0, 0, 0, 0, 0, 0, 0, 0] : Vector Int 64)))

noncomputable def ref4_rests_L2 (States2 : Vector Int 64) (i2 : Int) : Option (((Vector Int 64) × Int) ⊕ ((Vector Int 64))) :=
  if (decide (i2 < 64)) = true then
  (vidx States2 i2).bind fun x2 =>
  some (.inl ((vset States2 i2 3), (i64 (i2 + 1))))
  else
  some (.inr States2)

noncomputable def ref4_rests_L1 (y2 : (List api_Found)) (out2 : List api_Rest) (i : Int) : Option (((List api_Rest) × Int) ⊕ ((List api_Rest))) :=
  if (decide (i < (y2.length : Int))) = true then
  (idx y2 i).bind fun x =>
  (ref4_number x.Frame).bind fun y3 =>
  ((loop (t2 (ref4_rests_L2)) ((Vector.replicate 64 0), 0)) : Option (((Vector Int 64)))).bind (t1 fun (States : Vector Int 64) =>
  (app out2 ([(api_Rest.mk y3 x.Frame States true 1 false)] : List api_Rest)).bind fun l =>
  some (.inl (l, (i64 (i + 1)))))
  else
  some (.inr out2)

noncomputable def ref4_rests_L4 (h_ : List Int) (y2 : (List api_Found)) (i3 : Int) (out6 : List api_Rest) (at_ : Int) : Option (((List api_Rest) × Int) ⊕ ((List api_Rest))) :=
  if (decide (at_ < (h_.length : Int))) = true then
  (((gd ((decide (at_ < (-191))) == false) 0 (ref4_nearest y2 at_)).bind fun y4 =>
  (gd (((decide (at_ < (-191))) || (!decide (y4 = i3))) == false) 0 (ref4_nearest y2 at_)).bind fun y5 =>
  (gd (((decide (at_ < (-191))) || (!decide (y4 = i3))) == false) (api_Found.mk 0 (Vector.replicate 64 0)) (idx y2 y5)).bind fun x4 =>
  (gd (((decide (at_ < (-191))) || (!decide (y4 = i3))) == false) 0 (ref4_apart x4.At at_)).bind fun y6 =>
  if (((decide (at_ < (-191))) || (!decide (y4 = i3))) || (decide (y6 < 192))) = true then
  some out6
  else
  (ref4_frameAt h_ at_).bind fun y7 =>
  (ref4_ownNumber y7.1 y7.2).bind fun y8 =>
  ((if (!y8.2) = true then
  (ref4_otherNumber y2 i3 at_).bind fun y9 =>
  some (y9.1, y9.2)
  else
  some (y8.1, y8.2)) : Option ((Int × Bool))).bind (t2 fun (n : Int) (ok : Bool) =>
  (ref4_restAt y7.1 y7.2 n).bind fun y10 =>
  (gd (ok == true) false (ref4_lostWhole y10)).bind fun y11 =>
  if (ok && (!y11)) = true then
  (app out6 ([y10] : List api_Rest)).bind fun l2 =>
  some l2
  else
  some out6)) : Option (((List api_Rest)))).bind (t1 fun (out7 : List api_Rest) =>
  some (.inl (out7, (i64 (at_ + 194)))))
  else
  some (.inr out6)

noncomputable def ref4_rests_L3 (h_ : List Int) (y2 : (List api_Found)) (out4 : List api_Rest) (i3 : Int) : Option (((List api_Rest) × Int) ⊕ ((List api_Rest))) :=
  if (decide (i3 < (y2.length : Int))) = true then
  (((idx y2 i3).bind fun x3 =>
  (quo .i64 x3.At 194).bind fun q =>
  loop (t2 (ref4_rests_L4 h_ y2 i3)) (out4, (i64 ((i64 (x3.At - (i64 (q * 194)))) - 194)))) : Option (((List api_Rest)))).bind (t1 fun (out5 : List api_Rest) =>
  some (.inl (out5, (i64 (i3 + 1)))))
  else
  some (.inr out4)

noncomputable def ref4_rests (h_ : List Int) : Option (List api_Rest) :=
  (ref4_scan h_).bind fun y =>
  (ref4_certain y).bind fun y2 =>
  ((loop (t2 (ref4_rests_L1 y2)) ([], 0)) : Option (((List api_Rest)))).bind (t1 fun (out : List api_Rest) =>
  ((loop (t2 (ref4_rests_L3 h_ y2)) (out, 0)) : Option (((List api_Rest)))).bind (t1 fun (out3 : List api_Rest) =>
  some out3))

noncomputable def ref4_allGood_L1 (r_ : api_Rest) (i : Int) : Option ((Int) ⊕ (Bool) ⊕ (Unit)) :=
  if (decide (i < 64)) = true then
  (vidx r_.States i).bind fun x =>
  if (!decide (x = 3)) = true then
  some (.inr (.inl false))
  else
  some (.inl (i64 (i + 1)))
  else
  some (.inr (.inr ()))

noncomputable def ref4_allGood (r_ : api_Rest) : Option Bool :=
  ((loop (t1 (ref4_allGood_L1 r_)) 0) : Option ((Bool) ⊕ (Unit))).bind (Sum.elim (fun q' => some q') (t0 (some true)))

noncomputable def ref4_agreed_L1 (l : List api_Rest) (i : Int) (w2 : Int) (some_2 : Bool) (i2 : Int) : Option ((Int × Bool × Int) ⊕ (Int × Bool) ⊕ (Int × Bool)) :=
  if (decide (i2 < (l.length : Int))) = true then
  (idx l i2).bind fun x =>
  (vidx x.States i).bind fun x2 =>
  if (decide (x2 = 0)) = true then
  some (.inl (w2, some_2, (i64 (i2 + 1))))
  else
  (gd (some_2 == true) 0 (vidx x.Frame i)).bind fun x3 =>
  if (some_2 && (!decide (w2 = x3))) = true then
  some (.inr (.inl (0, false)))
  else
  (vidx x.Frame i).bind fun x4 =>
  some (.inl (x4, true, (i64 (i2 + 1))))
  else
  some (.inr (.inr (w2, some_2)))

noncomputable def ref4_agreed (l : List api_Rest) (i : Int) : Option (Int × Bool) :=
  ((loop (t3 (ref4_agreed_L1 l i)) (0, false, 0)) : Option ((Int × Bool) ⊕ (Int × Bool))).bind (Sum.elim (fun q' => some q') (t2 fun (w : Int) (some_ : Bool) =>
  some (w, some_)))

noncomputable def ref4_merge_L2 (out2 : api_Rest) (x2 : api_Rest) (Conflict : Bool) (States : Vector Int 64) (i2 : Int) : Option (((Vector Int 64) × Int) ⊕ (api_Rest)) :=
  if (decide (i2 < 64)) = true then
  (vidx x2.States i2).bind fun x3 =>
  (vidx States i2).bind fun x4 =>
  (vidx States i2).bind fun x5 =>
  some (.inl ((vset States i2 (max x4 x3)), (i64 (i2 + 1))))
  else
  some (.inr (api_Rest.mk out2.Number x2.Frame States true (i64 (out2.Copies + x2.Copies)) Conflict))

noncomputable def ref4_merge_L1 (l : List api_Rest) (out2 : api_Rest) (i : Int) : Option ((api_Rest × Int) ⊕ (api_Rest)) :=
  if (decide (i < (l.length : Int))) = true then
  (((idx l i).bind fun x2 =>
  if (!x2.Sound) = true then
  some (api_Rest.mk out2.Number out2.Frame out2.States out2.Sound (i64 (out2.Copies + x2.Copies)) (out2.Conflict || x2.Conflict))
  else
  ((if (out2.Sound && (!(decide (out2.Frame = x2.Frame)))) = true then
  some true
  else
  some (out2.Conflict || x2.Conflict)) : Option ((Bool))).bind (t1 fun (Conflict : Bool) =>
  loop (t2 (ref4_merge_L2 out2 x2 Conflict)) (out2.States, 0))) : Option ((api_Rest))).bind (t1 fun (out3 : api_Rest) =>
  some (.inl (out3, (i64 (i + 1)))))
  else
  some (.inr out2)

noncomputable def ref4_merge_L3 (l : List api_Rest) (out5 : api_Rest) (whole2 : Bool) (i3 : Int) : Option ((api_Rest × Bool × Int) ⊕ (api_Rest × Bool)) :=
  if (decide (i3 < 64)) = true then
  (ref4_agreed l i3).bind fun y2 =>
  if y2.2 = true then
  (vidx out5.Frame i3).bind fun x6 =>
  (vidx out5.States i3).bind fun x7 =>
  some (.inl ((api_Rest.mk out5.Number (vset out5.Frame i3 y2.1) (vset out5.States i3 1) out5.Sound out5.Copies out5.Conflict), (whole2 && y2.2), (i64 (i3 + 1))))
  else
  some (.inl (out5, (whole2 && y2.2), (i64 (i3 + 1))))
  else
  some (.inr (out5, whole2))

noncomputable def ref4_merge_L4 (States3 : Vector Int 64) (i4 : Int) : Option (((Vector Int 64) × Int) ⊕ ((Vector Int 64))) :=
  if (decide (i4 < 64)) = true then
  (vidx States3 i4).bind fun x8 =>
  some (.inl ((vset States3 i4 3), (i64 (i4 + 1))))
  else
  some (.inr States3)

noncomputable def ref4_merge (l : List api_Rest) : Option api_Rest :=
  (idx l 0).bind fun x =>
  ((loop (t2 (ref4_merge_L1 l)) ((api_Rest.mk x.Number (Vector.replicate 64 0) (Vector.replicate 64 0) false 0 false), 0)) : Option ((api_Rest))).bind (t1 fun (out : api_Rest) =>
  if out.Conflict = true then
  some (api_Rest.mk out.Number (Vector.replicate 64 0) (Vector.replicate 64 0) false out.Copies true)
  else
  if out.Sound = true then
  (gd ((decide (out.Copies = 0)) == true) false (ref4_allGood out)).bind fun y =>
  if ((decide (out.Copies = 0)) && y) = true then
  some (api_Rest.mk out.Number out.Frame out.States out.Sound 1 out.Conflict)
  else
  some out
  else
  ((loop (t3 (ref4_merge_L3 l)) (out, true, 0)) : Option ((api_Rest × Bool))).bind (t2 fun (out4 : api_Rest) (whole : Bool) =>
  (gd (whole == true) false (ref1_Sound out4.Frame)).bind fun y3 =>
  (gd ((whole && y3) == true) 0 (ref4_number out4.Frame)).bind fun y4 =>
  if ((whole && y3) && (decide (y4 = out4.Number))) = true then
  ((loop (t2 (ref4_merge_L4)) (out4.States, 0)) : Option (((Vector Int 64)))).bind (t1 fun (States2 : Vector Int 64) =>
  some (api_Rest.mk out4.Number out4.Frame States2 true 1 out4.Conflict))
  else
  some out4))

noncomputable def ref4_grouped_L2 (order2 : List Int) (x : api_Rest) (at_2 : Int) : Option ((Int) ⊕ (Int)) :=
  (gd ((decide (0 < at_2)) == true) 0 (idx order2 (i64 (at_2 - 1)))).bind fun x2 =>
  if ((decide (0 < at_2)) && (decide (x.Number < x2))) = true then
  some (.inl (i64 (at_2 - 1)))
  else
  some (.inr at_2)

noncomputable def ref4_grouped_L3 (order2 : List Int) (x : api_Rest) (at_4 : Int) : Option ((Int) ⊕ (Int)) :=
  (gd ((decide (0 < at_4)) == true) 0 (idx order2 (i64 (at_4 - 1)))).bind fun x4 =>
  if ((decide (0 < at_4)) && (decide (x.Number < x4))) = true then
  some (.inl (i64 (at_4 - 1)))
  else
  some (.inr at_4)

noncomputable def ref4_grouped_L1 (l : List api_Rest) (order2 : List Int) (by_2 : List (Int × (List api_Rest))) (i : Int) : Option (((List Int) × (List (Int × (List api_Rest))) × Int) ⊕ ((List Int) × (List (Int × (List api_Rest))))) :=
  if (decide (i < (l.length : Int))) = true then
  (((idx l i).bind fun x =>
  (((some (msel (mget kqI by_2 x.Number))).bind (Sum.elim (fun z =>
  if (decide (0 = 0)) = true then
  ((loop (t1 (ref4_grouped_L2 order2 x)) (order2.length : Int)) : Option ((Int))).bind (t1 fun (at_ : Int) =>
  (app order2 ([0] : List Int)).bind fun l2 =>
  (slq l2 (i64 (at_ + 1)) (l2.length : Int)).bind fun u =>
  (slq l2 at_ (l2.length : Int)).bind fun u2 =>
  (idx (cpy l2 (i64 (at_ + 1)).toNat (Int.toNat ((l2.length : Int) - (i64 (at_ + 1)))) at_.toNat (Int.toNat ((l2.length : Int) - at_))) at_).bind fun x3 =>
  some ((cpy l2 (i64 (at_ + 1)).toNat (Int.toNat ((l2.length : Int) - (i64 (at_ + 1)))) at_.toNat (Int.toNat ((l2.length : Int) - at_))).set at_.toNat x.Number))
  else
  some order2) (fun z =>
  if (decide ((z.length : Int) = 0)) = true then
  ((loop (t1 (ref4_grouped_L3 order2 x)) (order2.length : Int)) : Option ((Int))).bind (t1 fun (at_3 : Int) =>
  (app order2 ([0] : List Int)).bind fun l3 =>
  (slq l3 (i64 (at_3 + 1)) (l3.length : Int)).bind fun u3 =>
  (slq l3 at_3 (l3.length : Int)).bind fun u4 =>
  (idx (cpy l3 (i64 (at_3 + 1)).toNat (Int.toNat ((l3.length : Int) - (i64 (at_3 + 1)))) at_3.toNat (Int.toNat ((l3.length : Int) - at_3))) at_3).bind fun x5 =>
  some ((cpy l3 (i64 (at_3 + 1)).toNat (Int.toNat ((l3.length : Int) - (i64 (at_3 + 1)))) at_3.toNat (Int.toNat ((l3.length : Int) - at_3))).set at_3.toNat x.Number))
  else
  some order2))) : Option (((List Int)))).bind (t1 fun (order4 : List Int) =>
  (some (msel (mget kqI by_2 x.Number))).bind (Sum.elim (fun z2 =>
  (app [] ([x] : List api_Rest)).bind fun l4 =>
  some (order4, (mput kqI by_2 x.Number l4))) (fun z2 =>
  (app z2 ([x] : List api_Rest)).bind fun l5 =>
  some (order4, (mput kqI by_2 x.Number l5)))))) : Option (((List Int) × (List (Int × (List api_Rest)))))).bind (t2 fun (order3 : List Int) (by_3 : List (Int × (List api_Rest))) =>
  some (.inl (order3, by_3, (i64 (i + 1)))))
  else
  some (.inr (order2, by_2))

noncomputable def ref4_grouped_L4 (order : List Int) (by_ : List (Int × (List api_Rest))) (out2 : List api_Rest) (i2 : Int) : Option (((List api_Rest) × Int) ⊕ ((List api_Rest))) :=
  if (decide (i2 < (order.length : Int))) = true then
  (idx order i2).bind fun x6 =>
  (some (msel (mget kqI by_ x6))).bind (Sum.elim (fun z3 =>
  (ref4_merge []).bind fun y =>
  (app out2 ([y] : List api_Rest)).bind fun l6 =>
  some (.inl (l6, (i64 (i2 + 1))))) (fun z3 =>
  (ref4_merge z3).bind fun y2 =>
  (app out2 ([y2] : List api_Rest)).bind fun l7 =>
  some (.inl (l7, (i64 (i2 + 1))))))
  else
  some (.inr out2)

noncomputable def ref4_grouped (l : List api_Rest) : Option (List api_Rest) :=
  ((loop (t3 (ref4_grouped_L1 l)) ([], ([] : List (Int × (List api_Rest))), 0)) : Option (((List Int) × (List (Int × (List api_Rest)))))).bind (t2 fun (order : List Int) (by_ : List (Int × (List api_Rest))) =>
  ((loop (t2 (ref4_grouped_L4 order by_)) ([], 0)) : Option (((List api_Rest)))).bind (t1 fun (out : List api_Rest) =>
  some out))

noncomputable def ref4_Rests (p : api_Piece) : Option ((List api_Rest) × Int) :=
  (ref4_CheckPiece p).bind fun y =>
  if (!decide (y = 0)) = true then
  some ([], y)
  else
  (ref4_Halves p).bind fun y2 =>
  (ref4_rests y2).bind fun y3 =>
  (ref4_grouped y3).bind fun y4 =>
  some (y4, 0)

noncomputable def slices_Equal_api_Rest_api_Rest_L1 (s1 : List api_Rest) (s2 : List api_Rest) (i : Int) : Option ((Int) ⊕ (Bool) ⊕ (Unit)) :=
  if (decide (i < (s1.length : Int))) = true then
  (idx s1 i).bind fun x =>
  (idx s2 i).bind fun x2 =>
  if (!(decide (x.Number = x2.Number) && (decide (x.Frame = x2.Frame) && (decide (x.States = x2.States) && ((x.Sound == x2.Sound) && (decide (x.Copies = x2.Copies) && ((x.Conflict == x2.Conflict) && true))))))) = true then
  some (.inr (.inl false))
  else
  some (.inl (i64 (i + 1)))
  else
  some (.inr (.inr ()))

noncomputable def slices_Equal_api_Rest_api_Rest (s1 : List api_Rest) (s2 : List api_Rest) : Option Bool :=
  if (!decide ((s1.length : Int) = (s2.length : Int))) = true then
  some false
  else
  ((loop (t1 (slices_Equal_api_Rest_api_Rest_L1 s1 s2)) 0) : Option ((Bool) ⊕ (Unit))).bind (Sum.elim (fun q' => some q') (t0 (some true)))

noncomputable def ref1_word (data : Int) : Option Int :=
  (ref1_odd data).bind fun y =>
  if y = true then
  some data
  else
  some (i64 (data + 2048))

noncomputable def ref1_checked (f : Vector Int 64) : Option (Vector Int 64) :=
  (ref1_check f).bind fun y =>
  (quo .i64 y 2048).bind fun q =>
  (ref1_word q).bind fun y2 =>
  (rem y 2048).bind fun q2 =>
  (ref1_word q2).bind fun y3 =>
  (vidx f 62).bind fun x =>
  (vidx (vset f 62 (u16 y2)) 63).bind fun x2 =>
  some (vset (vset f 62 (u16 y2)) 63 (u16 y3))

noncomputable def ref1_sealed_L1 (f3 : Vector Int 64) (i : Int) : Option (((Vector Int 64) × Int) ⊕ ((Vector Int 64))) :=
  if (decide (i ≤ 60)) = true then
  (vidx f3 i).bind fun x =>
  (rem (i64 x) 2048).bind fun q =>
  (ref1_word q).bind fun y =>
  (vidx f3 i).bind fun x2 =>
  some (.inl ((vset f3 i (u16 y)), (i64 (i + 1))))
  else
  some (.inr f3)

noncomputable def ref1_sealed (f : Vector Int 64) : Option (Vector Int 64) :=
  ((loop (t2 (ref1_sealed_L1)) (f, 1)) : Option (((Vector Int 64)))).bind (t1 fun (f2 : Vector Int 64) =>
  (ref1_numberOf f2).bind fun y2 =>
  (ref1_syncOf y2).bind fun y3 =>
  (vidx f2 0).bind fun x3 =>
  (ref1_sum (vset f2 0 (u16 y3))).bind fun y4 =>
  (ref1_word y4).bind fun y5 =>
  (vidx (vset f2 0 (u16 y3)) 61).bind fun x4 =>
  (ref1_checked (vset (vset f2 0 (u16 y3)) 61 (u16 y5))).bind fun y6 =>
  some y6)

noncomputable def ref1_New_L1 (data : List Int) (f2 : Vector Int 64) (i : Int) : Option (((Vector Int 64) × Int) ⊕ ((Vector Int 64) × Int) ⊕ ((Vector Int 64))) :=
  if (decide (i < (data.length : Int))) = true then
  (idx data i).bind fun x3 =>
  if ((decide (x3 < 0)) || (decide (2047 < x3))) = true then
  some (.inr (.inl ((#v[0, 0, 0, 0, 0, 0, 0, 0, 0, 0, 0, 0, 0, 0, 0, 0, 0, 0, 0, 0, 0, 0, 0, 0, 0, 0, 0, 0, 0, 0, 0, 0, 0, 0, 0, 0, 0, 0, 0, 0, 0, 0, 0, 0, 0, 0, 0, 0, 0, 0, 0, 0, 0, 0, 0, 0, 0, 0, 0, 0, 0, 0, 0, 0] : Vector Int 64), 9)))
  else
  (vidx f2 (i64 (3 + i))).bind fun x4 =>
  some (.inl ((vset f2 (i64 (3 + i)) (u16 x3)), (i64 (i + 1))))
  else
  some (.inr (.inr f2))

noncomputable def ref1_New (number : Int) (data : List Int) : Option ((Vector Int 64) × Int) :=
  if ((decide (number < 0)) || (decide (4194304 ≤ number))) = true then
  some ((#v[0, 0, 0, 0, 0, 0, 0, 0, 0, 0, 0, 0, 0, 0, 0, 0, 0, 0, 0, 0, 0, 0, 0, 0, 0, 0, 0, 0, 0, 0, 0, 0, 0, 0, 0, 0, 0, 0, 0, 0, 0, 0, 0, 0, 0, 0, 0, 0, 0, 0, 0, 0, 0, 0, 0, 0, 0, 0, 0, 0, 0, 0, 0, 0] : Vector Int 64), 9)
  else
  if (!decide ((data.length : Int) = 58)) = true then
  some ((#v[0, 0, 0, 0, 0, 0, 0, 0, 0, 0, 0, 0, 0, 0, 0, 0, 0, 0, 0, 0, 0, 0, 0, 0, 0, 0, 0, 0, 0, 0, 0, 0, 0, 0, 0, 0, 0, 0, 0, 0, 0, 0, 0, 0, 0, 0, 0, 0, 0, 0, 0, 0, 0, 0, 0, 0, 0, 0, 0, 0, 0, 0, 0, 0] : Vector Int 64), 3)
  else
  (rem number 2048).bind fun q =>
  (quo .i64 number 2048).bind fun q2 =>
  (vidx (#v[0, 0, 0, 0, 0, 0, 0, 0, 0, 0, 0, 0, 0, 0, 0, 0, 0, 0, 0, 0, 0, 0, 0, 0, 0, 0, 0, 0, 0, 0, 0, 0, 0, 0, 0, 0, 0, 0, 0, 0, 0, 0, 0, 0, 0, 0, 0, 0, 0, 0, 0, 0, 0, 0, 0, 0, 0, 0, 0, 0, 0, 0, 0, 0] : Vector Int 64) 1).bind fun x =>
  (vidx (vset (#v[0, 0, 0, 0, 0, 0, 0, 0, 0, 0, 0, 0, 0, 0, 0, 0, 0, 0, 0, 0, 0, 0, 0, 0, 0, 0, 0, 0, 0, 0, 0, 0, 0, 0, 0, 0, 0, 0, 0, 0, 0, 0, 0, 0, 0, 0, 0, 0, 0, 0, 0, 0, 0, 0, 0, 0, 0, 0, 0, 0, 0, 0, 0, 0] : Vector Int 64) 1 (u16 q)) 2).bind fun x2 =>
  ((loop (t2 (ref1_New_L1 data)) ((vset (vset (#v[0, 0, 0, 0, 0, 0, 0, 0, 0, 0, 0, 0, 0, 0, 0, 0, 0, 0, 0, 0, 0, 0, 0, 0, 0, 0, 0, 0, 0, 0, 0, 0, 0, 0, 0, 0, 0, 0, 0, 0, 0, 0, 0, 0, 0, 0, 0, 0, 0, 0, 0, 0, 0, 0, 0, 0, 0, 0, 0, 0, 0, 0, 0, 0] : Vector Int 64) 1 (u16 q)) 2 (u16 q2)), 0)) : Option (((Vector Int 64) × Int) ⊕ ((Vector Int 64)))).bind (Sum.elim (fun q' => some q') (t1 fun (f : Vector Int 64) =>
  (ref1_sealed f).bind fun y =>
  some (y, 0)))

noncomputable def ref1_Wide_L1 (f : Vector Int 64) (i : Int) : Option ((Int) ⊕ (Bool) ⊕ (Unit)) :=
  if (decide (i < 64)) = true then
  (vidx f i).bind fun x =>
  if (decide (4095 < x)) = true then
  some (.inr (.inl true))
  else
  some (.inl (i64 (i + 1)))
  else
  some (.inr (.inr ()))

noncomputable def ref1_Wide (f : Vector Int 64) : Option Bool :=
  ((loop (t1 (ref1_Wide_L1 f)) 0) : Option ((Bool) ⊕ (Unit))).bind (Sum.elim (fun q' => some q') (t0 (some false)))

noncomputable def ref1_Half (f : Vector Int 64) (n : Int) : Option Int :=
  (quo .i64 n 3).bind fun q =>
  (vidx f q).bind fun x =>
  (rem n 3).bind fun q2 =>
  (shr .i64 (i64 x) (i64 (8 - (i64 (q2 * 4))))).bind fun q3 =>
  some (band .i64 q3 15)

noncomputable def ref1_bytes_L1 (f : Vector Int 64) (l : List Int) (out2 : List Int) (i : Int) : Option (((List Int) × Int) ⊕ ((List Int))) :=
  if (decide (i < (l.length : Int))) = true then
  (ref1_Half f (i64 (2 * i))).bind fun y =>
  (ref1_Half f (i64 ((i64 (2 * i)) + 1))).bind fun y2 =>
  (idx out2 i).bind fun x =>
  some (.inl ((out2.set i.toNat (u8 (i64 ((i64 (16 * y)) + y2)))), (i64 (i + 1))))
  else
  some (.inr out2)

noncomputable def ref1_bytes (f : Vector Int 64) : Option (List Int) :=
  (mks 96 0).bind fun l =>
  ((loop (t2 (ref1_bytes_L1 f l)) (l, 0)) : Option (((List Int)))).bind (t1 fun (out : List Int) =>
  some out)

noncomputable def ref1_ToBytes (f : Vector Int 64) : Option ((List Int) × Int) :=
  (ref1_Wide f).bind fun y =>
  if y = true then
  some ([], 9)
  else
  (ref1_bytes f).bind fun y2 =>
  some (y2, 0)

noncomputable def frame_word (data : Int) : Option Int :=
  (frame_odd (u16 data)).bind fun y =>
  if (!y) = true then
  some (bor .u16 (u16 data) 2048)
  else
  some (u16 data)

noncomputable def frame_replaced (f : Vector Int 64) (i : Int) : Option (Vector Int 64) :=
  ((if (decide (i = 0)) = true then
  (frame_numberOf f).bind fun y =>
  (rem y 4).bind fun q =>
  (vidx gv_frame_syncs q).bind fun x =>
  (vidx f 0).bind fun x2 =>
  some (vset f 0 x)
  else
  if (decide (i = 61)) = true then
  (frame_sumOf f).bind fun y2 =>
  (frame_word y2).bind fun y3 =>
  (vidx f i).bind fun x3 =>
  some (vset f i y3)
  else
  if (decide (i = 62)) = true then
  (frame_checkOf f).bind fun y4 =>
  (shr .i64 y4 11).bind fun q2 =>
  (frame_word q2).bind fun y5 =>
  (vidx f i).bind fun x4 =>
  some (vset f i y5)
  else
  if (decide (i = 63)) = true then
  (frame_checkOf f).bind fun y6 =>
  (frame_word (band .i64 y6 2047)).bind fun y7 =>
  (vidx f i).bind fun x5 =>
  some (vset f i y7)
  else
  (frame_sumOf f).bind fun y8 =>
  (vidx f i).bind fun x6 =>
  (frame_data x6).bind fun y9 =>
  (vidx f 61).bind fun x7 =>
  (frame_data x7).bind fun y10 =>
  (frame_word (bxor .i64 (bxor .i64 y8 y9) y10)).bind fun y11 =>
  (vidx f i).bind fun x8 =>
  some (vset f i y11)) : Option (((Vector Int 64)))).bind (t1 fun (f2 : Vector Int 64) =>
  some f2)

noncomputable def frame_Replaced (f : Vector Int 64) (i : Int) : Option ((Vector Int 64) × Bool) :=
  if ((decide (i < 0)) || (decide (64 ≤ i))) = true then
  some ((#v[0, 0, 0, 0, 0, 0, 0, 0, 0, 0, 0, 0, 0, 0, 0, 0, 0, 0, 0, 0, 0, 0, 0, 0, 0, 0, 0, 0, 0, 0, 0, 0, 0, 0, 0, 0, 0, 0, 0, 0, 0, 0, 0, 0, 0, 0, 0, 0, 0, 0, 0, 0, 0, 0, 0, 0, 0, 0, 0, 0, 0, 0, 0, 0] : Vector Int 64), false)
  else
  (vidx f i).bind fun x =>
  (frame_wide (vset f i 0)).bind fun y =>
  if y = true then
  some ((#v[0, 0, 0, 0, 0, 0, 0, 0, 0, 0, 0, 0, 0, 0, 0, 0, 0, 0, 0, 0, 0, 0, 0, 0, 0, 0, 0, 0, 0, 0, 0, 0, 0, 0, 0, 0, 0, 0, 0, 0, 0, 0, 0, 0, 0, 0, 0, 0, 0, 0, 0, 0, 0, 0, 0, 0, 0, 0, 0, 0, 0, 0, 0, 0] : Vector Int 64), false)
  else
  (frame_replaced (vset f i 0) i).bind fun y2 =>
  (frame_sound y2).bind fun y3 =>
  if (!y3) = true then
  some ((#v[0, 0, 0, 0, 0, 0, 0, 0, 0, 0, 0, 0, 0, 0, 0, 0, 0, 0, 0, 0, 0, 0, 0, 0, 0, 0, 0, 0, 0, 0, 0, 0, 0, 0, 0, 0, 0, 0, 0, 0, 0, 0, 0, 0, 0, 0, 0, 0, 0, 0, 0, 0, 0, 0, 0, 0, 0, 0, 0, 0, 0, 0, 0, 0] : Vector Int 64), false)
  else
  some (y2, true)

noncomputable def salvage_mended_L1 (r_ : api_Rest) (lost2 : Int) (place2 : Int) (i : Int) : Option ((Int × Int × Int) ⊕ (Int × Int)) :=
  if (decide (i < 64)) = true then
  (vidx r_.States i).bind fun x =>
  if (decide (x = 0)) = true then
  some (.inl ((i64 (lost2 + 1)), i, (i64 (i + 1))))
  else
  some (.inl (lost2, place2, (i64 (i + 1))))
  else
  some (.inr (lost2, place2))

noncomputable def salvage_mended (r_ : api_Rest) : Option api_Rest :=
  if (r_.Sound || r_.Conflict) = true then
  some r_
  else
  ((loop (t3 (salvage_mended_L1 r_)) (0, 0, 0)) : Option ((Int × Int))).bind (t2 fun (lost : Int) (place : Int) =>
  if (!decide (lost = 1)) = true then
  some r_
  else
  (frame_Replaced r_.Frame place).bind fun y =>
  (gd ((!y.2) == false) false (salvage_soundAs y.1 r_.Number)).bind fun y2 =>
  if ((!y.2) || (!y2)) = true then
  some r_
  else
  (salvage_filled 3).bind fun y3 =>
  (vidx y3 place).bind fun x2 =>
  some (api_Rest.mk r_.Number y.1 (vset y3 place 2) true 0 r_.Conflict))

noncomputable def salvage_Salvage_L1 (l : List api_Piece) (i : Int) : Option ((Int) ⊕ ((List api_Rest) × Int) ⊕ (Unit)) :=
  if (decide (i < (l.length : Int))) = true then
  (idx l i).bind fun x =>
  (salvage_CheckPiece x).bind fun y =>
  if (!decide (y = 0)) = true then
  some (.inr (.inl ([], y)))
  else
  some (.inl (i64 (i + 1)))
  else
  some (.inr (.inr ()))

noncomputable def salvage_Salvage_L2 (l : List api_Piece) (parts2 : List api_Rest) (i2 : Int) : Option (((List api_Rest) × Int) ⊕ ((List api_Rest))) :=
  if (decide (i2 < (l.length : Int))) = true then
  (idx l i2).bind fun x2 =>
  (salvage_halves x2).bind fun y2 =>
  (salvage_rests y2).bind fun y3 =>
  (app parts2 y3).bind fun l2 =>
  some (.inl (l2, (i64 (i2 + 1))))
  else
  some (.inr parts2)

noncomputable def salvage_Salvage_L3 (y4 : (List api_Rest)) (out2 : List api_Rest) (i3 : Int) : Option (((List api_Rest) × Int) ⊕ ((List api_Rest))) :=
  if (decide (i3 < (y4.length : Int))) = true then
  (idx out2 i3).bind fun x5 =>
  (salvage_mended x5).bind fun y5 =>
  (idx out2 i3).bind fun x6 =>
  some (.inl ((out2.set i3.toNat y5), (i64 (i3 + 1))))
  else
  some (.inr out2)

noncomputable def salvage_Salvage (l : List api_Piece) : Option ((List api_Rest) × Int) :=
  if (decide (200 < (l.length : Int))) = true then
  some ([], 3)
  else
  ((loop (t1 (salvage_Salvage_L1 l)) 0) : Option (((List api_Rest) × Int) ⊕ (Unit))).bind (Sum.elim (fun q' => some q') (t0 (((loop (t2 (salvage_Salvage_L2 l)) ([], 0)) : Option (((List api_Rest)))).bind (t1 fun (parts : List api_Rest) =>
  (salvage_grouped parts).bind fun y4 =>
  (gd ((decide (0 < (y4.length : Int))) == true) (api_Rest.mk 0 (Vector.replicate 64 0) (Vector.replicate 64 0) false 0 false) (idx y4 (i64 ((y4.length : Int) - 1)))).bind fun x3 =>
  (gd ((decide (0 < (y4.length : Int))) == true) (api_Rest.mk 0 (Vector.replicate 64 0) (Vector.replicate 64 0) false 0 false) (idx y4 0)).bind fun x4 =>
  if ((decide (0 < (y4.length : Int))) && (decide (100000 < (i64 (x3.Number - x4.Number))))) = true then
  some ([], 3)
  else
  ((loop (t2 (salvage_Salvage_L3 y4)) (y4, 0)) : Option (((List api_Rest)))).bind (t1 fun (out : List api_Rest) =>
  some (out, 0))))))

noncomputable def law4_saved  : Option Bool :=
  (mks 58 0).bind fun l =>
  (ref1_New 9 l).bind fun y =>
  (ref1_ToBytes y.1).bind fun y2 =>
  (app ([7] : List Int) y2.1).bind fun l2 =>
  (salvage_Salvage ([(api_Piece.mk l2 false)] : List api_Piece)).bind fun y3 =>
  (gd (((decide (y3.2 = 0)) && (decide ((y3.1.length : Int) = 1))) == true) (api_Rest.mk 0 (Vector.replicate 64 0) (Vector.replicate 64 0) false 0 false) (idx y3.1 0)).bind fun x =>
  (gd ((((decide (y3.2 = 0)) && (decide ((y3.1.length : Int) = 1))) && (decide (x.Number = 9))) == true) (api_Rest.mk 0 (Vector.replicate 64 0) (Vector.replicate 64 0) false 0 false) (idx y3.1 0)).bind fun x2 =>
  (gd (((((decide (y3.2 = 0)) && (decide ((y3.1.length : Int) = 1))) && (decide (x.Number = 9))) && (decide (x2.Frame = y.1))) == true) (api_Rest.mk 0 (Vector.replicate 64 0) (Vector.replicate 64 0) false 0 false) (idx y3.1 0)).bind fun x3 =>
  (gd ((((((decide (y3.2 = 0)) && (decide ((y3.1.length : Int) = 1))) && (decide (x.Number = 9))) && (decide (x2.Frame = y.1))) && x3.Sound) == true) (api_Rest.mk 0 (Vector.replicate 64 0) (Vector.replicate 64 0) false 0 false) (idx y3.1 0)).bind fun x4 =>
  (gd (((((((decide (y3.2 = 0)) && (decide ((y3.1.length : Int) = 1))) && (decide (x.Number = 9))) && (decide (x2.Frame = y.1))) && x3.Sound) && (decide (x4.Copies = 1))) == true) (api_Rest.mk 0 (Vector.replicate 64 0) (Vector.replicate 64 0) false 0 false) (idx y3.1 0)).bind fun x5 =>
  (gd (((((((decide (y3.2 = 0)) && (decide ((y3.1.length : Int) = 1))) && (decide (x.Number = 9))) && (decide (x2.Frame = y.1))) && x3.Sound) && (decide (x4.Copies = 1))) == true) 0 (vidx x5.States 63)).bind fun x6 =>
  some (((((((decide (y3.2 = 0)) && (decide ((y3.1.length : Int) = 1))) && (decide (x.Number = 9))) && (decide (x2.Frame = y.1))) && x3.Sound) && (decide (x4.Copies = 1))) && (decide (x6 = 3)))

noncomputable def law4_SalvageRestsMatchSpec (p : api_Piece) : Option Bool :=
  (salvage_Rests p).bind fun y =>
  (ref4_Rests p).bind fun y2 =>
  (gd ((decide (y.2 = y2.2)) == true) false (slices_Equal_api_Rest_api_Rest y.1 y2.1)).bind fun y3 =>
  (gd (((decide (y.2 = y2.2)) && y3) == true) false law4_saved).bind fun y4 =>
  some (((decide (y.2 = y2.2)) && y3) && y4)

end Go.Vx
