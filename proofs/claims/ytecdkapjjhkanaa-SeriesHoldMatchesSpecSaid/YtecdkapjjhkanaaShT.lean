/- A text of the proof: a verified executor of the program form, or the contracts of the functions that the law reaches. -/
import Derived.Test.YtecdkapjjhkanaaShLib
set_option linter.all false
namespace Go.Vx
open Go Go.RowKit
set_option linter.unusedVariables false
structure api_Sample where
  At : Int
  N : Int
  Mark : Int
structure api_Series where
  Den : Int
  Samples : List api_Sample
structure api_Line where
  From : Int
  To : Int
  A_ : Int
  B : Int
structure api_Calibration where
  Den : Int
  Lines : List api_Line
  Low : Int
  High : Int
structure api_Ratio where
  Num : Int
  Den : Int
structure ref5_wide where
  neg : Bool
  high : Int
  low : Int
structure series_wide where
  high : Int
  low : Int
structure ref0_Ink where
  out : List Int

noncomputable def series_within (n : Int) (low : Int) (high : Int) : Option Bool :=
  some ((decide (low ≤ n)) && (decide (n ≤ high)))

noncomputable def series_check_L1 (s : api_Series) (i : Int) : Option ((Int) ⊕ (Int × Int) ⊕ (Unit)) :=
  if (decide (i < (s.Samples.length : Int))) = true then
  (idx s.Samples i).bind fun x =>
  (series_within x.At 0 1099511627776).bind fun y2 =>
  (gd ((!y2) == false) false (series_within x.N (-1125899906842624) 1125899906842624)).bind fun y3 =>
  (gd (((!y2) || (!y3)) == false) false (series_within x.Mark 0 4)).bind fun y4 =>
  if (((!y2) || (!y3)) || (!y4)) = true then
  some (.inr (.inl (i, 9)))
  else
  if ((!decide (x.N = 0)) && (decide (x.Mark ≤ 1))) = true then
  some (.inr (.inl (i, 2)))
  else
  (gd ((decide (0 < i)) == true) (api_Sample.mk 0 0 0) (idx s.Samples (i64 (i - 1)))).bind fun x2 =>
  if ((decide (0 < i)) && (decide (x.At ≤ x2.At))) = true then
  some (.inr (.inl (i, 10)))
  else
  some (.inl (i64 (i + 1)))
  else
  some (.inr (.inr ()))

noncomputable def series_check (s : api_Series) : Option (Int × Int) :=
  (series_within s.Den 1 1000000).bind fun y =>
  if (!y) = true then
  some ((-1), 9)
  else
  if (decide (20000 < (s.Samples.length : Int))) = true then
  some ((-1), 3)
  else
  ((loop (t1 (series_check_L1 s)) 0) : Option ((Int × Int) ⊕ (Unit))).bind (Sum.elim (fun v => some v) (t0 (some ((-1), 0))))

noncomputable def series_Check (s : api_Series) : Option Int :=
  (series_check s).bind fun y =>
  some y.2

noncomputable def slices_BinarySearchFunc_api_Sample_api_Sample_int_L1 (x : List api_Sample) (target : Int) (cmp : api_Sample → Int → Option Int) (i2 : Int) (j : Int) : Option ((Int × Int) ⊕ (Int)) :=
  if (decide (i2 < j)) = true then
  (shr .u64 (u64 (i64 (i2 + j))) 1).bind fun q =>
  (idx x (i64 q)).bind fun x2 =>
  (cmp x2 target).bind fun y =>
  if (decide (y < 0)) = true then
  some (.inl ((i64 ((i64 q) + 1)), j))
  else
  some (.inl (i2, (i64 q)))
  else
  some (.inr i2)

noncomputable def slices_BinarySearchFunc_api_Sample_api_Sample_int (x : List api_Sample) (target : Int) (cmp : api_Sample → Int → Option Int) : Option (Int × Bool) :=
  ((loop (t2 (slices_BinarySearchFunc_api_Sample_api_Sample_int_L1 x target cmp)) (0, (x.length : Int))) : Option ((Int))).bind (t1 fun (i : Int) =>
  (gd ((decide (i < (x.length : Int))) == true) (api_Sample.mk 0 0 0) (idx x i)).bind fun x3 =>
  (gd ((decide (i < (x.length : Int))) == true) 0 (cmp x3 target)).bind fun y2 =>
  some (i, ((decide (i < (x.length : Int))) && (decide (y2 = 0)))))

noncomputable def series_latest_1 (x : api_Sample) (at_ : Int) : Option Int :=
  some (i64 (x.At - at_))

noncomputable def series_latest (s : api_Series) (at_ : Int) : Option Int :=
  (slices_BinarySearchFunc_api_Sample_api_Sample_int s.Samples at_ (fun z0 z1 => series_latest_1 z0 z1)).bind fun y =>
  if y.2 = true then
  some y.1
  else
  some (i64 (y.1 - 1))

noncomputable def series_solid (x : api_Sample) : Option Bool :=
  some (decide (3 ≤ x.Mark))

noncomputable def series_hold (s : api_Series) (at_ : Int) (long : Int) : Option (api_Sample × Bool) :=
  (series_latest s at_).bind fun y =>
  (gd ((decide (y < 0)) == false) (api_Sample.mk 0 0 0) (idx s.Samples y)).bind fun x =>
  (gd ((decide (y < 0)) == false) false (series_solid x)).bind fun y2 =>
  (gd (((decide (y < 0)) || (!y2)) == false) (api_Sample.mk 0 0 0) (idx s.Samples y)).bind fun x2 =>
  if (((decide (y < 0)) || (!y2)) || (decide (long < (i64 (at_ - x2.At))))) = true then
  some ((api_Sample.mk 0 0 0), false)
  else
  (idx s.Samples y).bind fun x3 =>
  some (x3, true)

noncomputable def series_Hold (s : api_Series) (at_ : Int) (long : Int) : Option (api_Sample × Bool × Int) :=
  (series_Check s).bind fun y =>
  if (!decide (y = 0)) = true then
  some ((api_Sample.mk 0 0 0), false, y)
  else
  (series_within at_ 0 1099511627776).bind fun y2 =>
  (gd ((!y2) == false) false (series_within long 0 1099511627776)).bind fun y3 =>
  if ((!y2) || (!y3)) = true then
  some ((api_Sample.mk 0 0 0), false, 9)
  else
  (series_hold s at_ long).bind fun y4 =>
  some (y4.1, y4.2, 0)

noncomputable def law5_holds  : Option Bool :=
  (series_Hold (api_Series.mk 1 ([(api_Sample.mk 5 7 4)] : List api_Sample)) 9 4).bind fun y =>
  some ((y.2.1 && (decide (y.2.2 = 0))) && (decide (y.1.At = 5) && (decide (y.1.N = 7) && (decide (y.1.Mark = 4) && true))))

noncomputable def law5_SeriesHoldKnowsLess_L1 (lost : List Int) (Samples2 : List api_Sample) (i : Int) : Option (((List api_Sample) × Int) ⊕ ((List api_Sample))) :=
  if (decide (i < (lost.length : Int))) = true then
  (idx lost i).bind fun x =>
  if ((decide (0 ≤ x)) && (decide (x < (Samples2.length : Int)))) = true then
  (idx Samples2 x).bind fun x2 =>
  (idx Samples2 x).bind fun x3 =>
  some (.inl ((Samples2.set x.toNat (api_Sample.mk x2.At 0 0)), (i64 (i + 1))))
  else
  some (.inl (Samples2, (i64 (i + 1))))
  else
  some (.inr Samples2)

noncomputable def law5_SeriesHoldKnowsLess (s : api_Series) (lost : List Int) (at_ : Int) (long : Int) : Option Bool :=
  (series_Hold s at_ long).bind fun y =>
  if (!decide (y.2.2 = 0)) = true then
  (law5_holds).bind fun y2 =>
  some y2
  else
  (app [] s.Samples).bind fun l =>
  ((loop (t2 (law5_SeriesHoldKnowsLess_L1 lost)) (l, 0)) : Option (((List api_Sample)))).bind (t1 fun (Samples : List api_Sample) =>
  (series_Hold (api_Series.mk s.Den Samples) at_ long).bind fun y3 =>
  (gd (((decide (y3.2.2 = 0)) && ((!y3.2.1) || (y.2.1 && (decide (y.1.At = y3.1.At) && (decide (y.1.N = y3.1.N) && (decide (y.1.Mark = y3.1.Mark) && true)))))) == true) false law5_holds).bind fun y4 =>
  some (((decide (y3.2.2 = 0)) && ((!y3.2.1) || (y.2.1 && (decide (y.1.At = y3.1.At) && (decide (y.1.N = y3.1.N) && (decide (y.1.Mark = y3.1.Mark) && true)))))) && y4))

noncomputable def series_number (l : api_Line) (v : Int) : Option Int :=
  some (i64 ((i64 (l.A_ * v)) + l.B))

noncomputable def series_CheckCalibration_L1 (c_ : api_Calibration) (i : Int) : Option ((Int) ⊕ (Int) ⊕ (Unit)) :=
  if (decide (i < (c_.Lines.length : Int))) = true then
  (idx c_.Lines i).bind fun x =>
  (series_within x.From (-1099511627776) 1099511627776).bind fun y2 =>
  (gd ((!y2) == false) false (series_within x.To (-1099511627776) 1099511627776)).bind fun y3 =>
  (gd ((((!y2) || (!y3)) || (decide (x.To < x.From))) == false) false (series_within x.A_ (-1048576) 1048576)).bind fun y4 =>
  (gd (((((!y2) || (!y3)) || (decide (x.To < x.From))) || (!y4)) == false) false (series_within x.B (-1125899906842624) 1125899906842624)).bind fun y5 =>
  if (((((!y2) || (!y3)) || (decide (x.To < x.From))) || (!y4)) || (!y5)) = true then
  some (.inr (.inl 9))
  else
  (gd ((decide (0 < i)) == true) (api_Line.mk 0 0 0 0) (idx c_.Lines (i64 (i - 1)))).bind fun x2 =>
  if ((decide (0 < i)) && (decide (x.From ≤ x2.To))) = true then
  some (.inr (.inl 10))
  else
  some (.inl (i64 (i + 1)))
  else
  some (.inr (.inr ()))

noncomputable def series_CheckCalibration_L2 (c_ : api_Calibration) (i2 : Int) : Option ((Int) ⊕ (Int) ⊕ (Unit)) :=
  if (decide (i2 < (c_.Lines.length : Int))) = true then
  (idx c_.Lines i2).bind fun x3 =>
  (series_number x3 x3.From).bind fun y6 =>
  (series_within y6 (-1125899906842624) 1125899906842624).bind fun y7 =>
  (gd ((!y7) == false) 0 (series_number x3 x3.To)).bind fun y8 =>
  (gd ((!y7) == false) false (series_within y8 (-1125899906842624) 1125899906842624)).bind fun y9 =>
  if ((!y7) || (!y9)) = true then
  some (.inr (.inl 9))
  else
  some (.inl (i64 (i2 + 1)))
  else
  some (.inr (.inr ()))

noncomputable def series_CheckCalibration (c_ : api_Calibration) : Option Int :=
  (series_within c_.Den 1 1000000).bind fun y =>
  if (!y) = true then
  some 9
  else
  if (decide ((c_.Lines.length : Int) = 0)) = true then
  some 13
  else
  if (decide (50 < (c_.Lines.length : Int))) = true then
  some 3
  else
  ((loop (t1 (series_CheckCalibration_L1 c_)) 0) : Option ((Int) ⊕ (Unit))).bind (Sum.elim (fun v => some v) (t0 (((loop (t1 (series_CheckCalibration_L2 c_)) 0) : Option ((Int) ⊕ (Unit))).bind (Sum.elim (fun v => some v) (t0 ((series_within c_.Low (-1125899906842624) 1125899906842624).bind fun y10 =>
  (gd ((!y10) == false) false (series_within c_.High (-1125899906842624) 1125899906842624)).bind fun y11 =>
  if (((!y10) || (!y11)) || (decide (c_.High < c_.Low))) = true then
  some 9
  else
  some 0))))))

noncomputable def series_floor (a : Int) (b : Int) : Option Int :=
  (quo .i64 a b).bind fun q =>
  (rem a b).bind fun q2 =>
  if ((!decide (q2 = 0)) && (!((decide (a < 0)) == (decide (b < 0))))) = true then
  some (i64 (q - 1))
  else
  some q

noncomputable def series_possible (c_ : api_Calibration) (l : api_Line) : Option (Int × Int × Bool) :=
  ((if (decide (l.A_ = 0)) = true then
  (series_within l.B c_.Low c_.High).bind fun y =>
  some (.inl (l.From, l.To, y))
  else
  if (decide (0 < l.A_)) = true then
  (series_floor (i64 (l.B - c_.Low)) l.A_).bind fun y2 =>
  (series_floor (i64 (c_.High - l.B)) l.A_).bind fun y3 =>
  some (.inr ((max l.From (i64 (-y2))), (min l.To y3)))
  else
  (series_floor (i64 (c_.High - l.B)) (i64 (-l.A_))).bind fun y4 =>
  (series_floor (i64 (l.B - c_.Low)) (i64 (-l.A_))).bind fun y5 =>
  some (.inr ((max l.From (i64 (-y4))), (min l.To y5)))) : Option ((Int × Int × Bool) ⊕ (Int × Int))).bind (Sum.elim (fun v => some v) (t2 fun (low : Int) (high : Int) =>
  some (low, high, (decide (low ≤ high)))))

noncomputable def series_size (n : Int) : Option Int :=
  some (max n (i64 (-n)))

noncomputable def series_Nearest_L2 (n : Int) (x : api_Line) (y3 : Int × Int × Bool) (at_ : Int) (best4 : Int) (least4 : Int) (i2 : Int) : Option ((Int × Int × Int) ⊕ (Int × Int)) :=
  if (decide (i2 < 2)) = true then
  (vidx (#v[(min (max at_ y3.1) y3.2.1), (min (max (i64 (at_ + 1)) y3.1) y3.2.1)] : Vector Int 2) i2).bind fun x2 =>
  (series_number x x2).bind fun y5 =>
  (series_size (i64 (y5 - n))).bind fun y6 =>
  if ((decide (least4 < 0)) || (decide (y6 < least4))) = true then
  some (.inl (x2, y6, (i64 (i2 + 1))))
  else
  some (.inl (best4, least4, (i64 (i2 + 1))))
  else
  some (.inr (best4, least4))

noncomputable def series_Nearest_L1 (c_ : api_Calibration) (n : Int) (best2 : Int) (least2 : Int) (i : Int) : Option ((Int × Int × Int) ⊕ (Int × Int)) :=
  if (decide (i < (c_.Lines.length : Int))) = true then
  (((idx c_.Lines i).bind fun x =>
  (series_possible c_ x).bind fun y3 =>
  if (!y3.2.2) = true then
  some (best2, least2)
  else
  ((if (!decide (x.A_ = 0)) = true then
  (series_floor (i64 (n - x.B)) x.A_).bind fun y4 =>
  some y4
  else
  some y3.1) : Option ((Int))).bind (t1 fun (at_ : Int) =>
  loop (t3 (series_Nearest_L2 n x y3 at_)) (best2, least2, 0))) : Option ((Int × Int))).bind (t2 fun (best3 : Int) (least3 : Int) =>
  some (.inl (best3, least3, (i64 (i + 1)))))
  else
  some (.inr (best2, least2))

noncomputable def series_Nearest (c_ : api_Calibration) (n : Int) : Option (Int × Int) :=
  (series_CheckCalibration c_).bind fun y =>
  if (!decide (y = 0)) = true then
  some (0, y)
  else
  (series_within n (-1125899906842624) 1125899906842624).bind fun y2 =>
  if (!y2) = true then
  some (0, 9)
  else
  ((loop (t3 (series_Nearest_L1 c_ n)) (0, (-1), 0)) : Option ((Int × Int))).bind (t2 fun (best : Int) (least : Int) =>
  if (decide (least < 0)) = true then
  some (0, 4)
  else
  some (best, 0))

noncomputable def series_apply_L1 (c_ : api_Calibration) (v : Int) (i : Int) : Option ((Int) ⊕ (Int × Bool) ⊕ (Unit)) :=
  if (decide (i < (c_.Lines.length : Int))) = true then
  (idx c_.Lines i).bind fun x =>
  (series_within v x.From x.To).bind fun y =>
  if y = true then
  (series_number x v).bind fun y2 =>
  (series_within y2 c_.Low c_.High).bind fun y3 =>
  if y3 = true then
  some (.inr (.inl (y2, true)))
  else
  some (.inl (i64 (i + 1)))
  else
  some (.inl (i64 (i + 1)))
  else
  some (.inr (.inr ()))

noncomputable def series_apply (c_ : api_Calibration) (v : Int) : Option (Int × Bool) :=
  ((loop (t1 (series_apply_L1 c_ v)) 0) : Option ((Int × Bool) ⊕ (Unit))).bind (Sum.elim (fun v => some v) (t0 (some (0, false))))

noncomputable def series_Apply (c_ : api_Calibration) (v : Int) : Option (Int × Bool × Int) :=
  (series_CheckCalibration c_).bind fun y =>
  if (!decide (y = 0)) = true then
  some (0, false, y)
  else
  (series_apply c_ v).bind fun y2 =>
  some (y2.1, y2.2, 0)

noncomputable def law5_SeriesNearestIsNearest (c_ : api_Calibration) (n : Int) (v : Int) : Option Bool :=
  (series_Nearest c_ n).bind fun y =>
  if (!decide (y.2 = 0)) = true then
  (law5_holds).bind fun y2 =>
  some y2
  else
  (series_Apply c_ y.1).bind fun y3 =>
  (series_Apply c_ v).bind fun y4 =>
  if (((!decide (y3.2.2 = 0)) || (!decide (y4.2.2 = 0))) || (!y3.2.1)) = true then
  some false
  else
  if (!y4.2.1) = true then
  (law5_holds).bind fun y5 =>
  some y5
  else
  (gd (((decide ((max (i64 (y3.1 - n)) (i64 (n - y3.1))) < (max (i64 (y4.1 - n)) (i64 (n - y4.1))))) || ((decide ((max (i64 (y3.1 - n)) (i64 (n - y3.1))) = (max (i64 (y4.1 - n)) (i64 (n - y4.1))))) && (decide (y.1 ≤ v)))) == true) false law5_holds).bind fun y6 =>
  some (((decide ((max (i64 (y3.1 - n)) (i64 (n - y3.1))) < (max (i64 (y4.1 - n)) (i64 (n - y4.1))))) || ((decide ((max (i64 (y3.1 - n)) (i64 (n - y3.1))) = (max (i64 (y4.1 - n)) (i64 (n - y4.1))))) && (decide (y.1 ≤ v)))) && y6)

noncomputable def ref5_outside (n : Int) (low : Int) (high : Int) : Option Bool :=
  some ((decide (n < low)) || (decide (high < n)))

noncomputable def ref5_CheckCalibration_L1 (c_ : api_Calibration) (i : Int) : Option ((Int) ⊕ (Int) ⊕ (Unit)) :=
  if (decide (i < (c_.Lines.length : Int))) = true then
  (idx c_.Lines i).bind fun x =>
  (ref5_outside x.From (-1099511627776) 1099511627776).bind fun y2 =>
  (gd (y2 == false) false (ref5_outside x.To (-1099511627776) 1099511627776)).bind fun y3 =>
  (gd (((y2 || y3) || (decide (x.To < x.From))) == false) false (ref5_outside x.A_ (-1048576) 1048576)).bind fun y4 =>
  (gd ((((y2 || y3) || (decide (x.To < x.From))) || y4) == false) false (ref5_outside x.B (-1125899906842624) 1125899906842624)).bind fun y5 =>
  if ((((y2 || y3) || (decide (x.To < x.From))) || y4) || y5) = true then
  some (.inr (.inl 9))
  else
  (gd ((decide (0 < i)) == true) (api_Line.mk 0 0 0 0) (idx c_.Lines (i64 (i - 1)))).bind fun x2 =>
  if ((decide (0 < i)) && (decide (x.From ≤ x2.To))) = true then
  some (.inr (.inl 10))
  else
  some (.inl (i64 (i + 1)))
  else
  some (.inr (.inr ()))

noncomputable def ref5_CheckCalibration_L2 (c_ : api_Calibration) (i2 : Int) : Option ((Int) ⊕ (Int) ⊕ (Unit)) :=
  if (decide (i2 < (c_.Lines.length : Int))) = true then
  (idx c_.Lines i2).bind fun x3 =>
  (ref5_outside (i64 ((i64 (x3.A_ * x3.From)) + x3.B)) (-1125899906842624) 1125899906842624).bind fun y6 =>
  (gd (y6 == false) false (ref5_outside (i64 ((i64 (x3.A_ * x3.To)) + x3.B)) (-1125899906842624) 1125899906842624)).bind fun y7 =>
  if (y6 || y7) = true then
  some (.inr (.inl 9))
  else
  some (.inl (i64 (i2 + 1)))
  else
  some (.inr (.inr ()))

noncomputable def ref5_CheckCalibration (c_ : api_Calibration) : Option Int :=
  (ref5_outside c_.Den 1 1000000).bind fun y =>
  if y = true then
  some 9
  else
  if (decide ((c_.Lines.length : Int) = 0)) = true then
  some 13
  else
  if (decide (50 < (c_.Lines.length : Int))) = true then
  some 3
  else
  ((loop (t1 (ref5_CheckCalibration_L1 c_)) 0) : Option ((Int) ⊕ (Unit))).bind (Sum.elim (fun v => some v) (t0 (((loop (t1 (ref5_CheckCalibration_L2 c_)) 0) : Option ((Int) ⊕ (Unit))).bind (Sum.elim (fun v => some v) (t0 ((ref5_outside c_.Low (-1125899906842624) 1125899906842624).bind fun y8 =>
  (gd (y8 == false) false (ref5_outside c_.High (-1125899906842624) 1125899906842624)).bind fun y9 =>
  if ((y8 || y9) || (decide (c_.High < c_.Low))) = true then
  some 9
  else
  some 0))))))

noncomputable def ref5_apply_L1 (c_ : api_Calibration) (v : Int) (i : Int) : Option ((Int) ⊕ (Int × Bool) ⊕ (Unit)) :=
  if (decide (i < (c_.Lines.length : Int))) = true then
  (idx c_.Lines i).bind fun x =>
  if ((decide (x.From ≤ v)) && (decide (v ≤ x.To))) = true then
  (ref5_outside (i64 ((i64 (x.A_ * v)) + x.B)) c_.Low c_.High).bind fun y =>
  if y = true then
  some (.inr (.inl (0, false)))
  else
  some (.inr (.inl ((i64 ((i64 (x.A_ * v)) + x.B)), true)))
  else
  some (.inl (i64 (i + 1)))
  else
  some (.inr (.inr ()))

noncomputable def ref5_apply (c_ : api_Calibration) (v : Int) : Option (Int × Bool) :=
  ((loop (t1 (ref5_apply_L1 c_ v)) 0) : Option ((Int × Bool) ⊕ (Unit))).bind (Sum.elim (fun v => some v) (t0 (some (0, false))))

noncomputable def ref5_Apply (c_ : api_Calibration) (v : Int) : Option (Int × Bool × Int) :=
  (ref5_CheckCalibration c_).bind fun y =>
  if (!decide (y = 0)) = true then
  some (0, false, y)
  else
  (ref5_apply c_ v).bind fun y2 =>
  some (y2.1, y2.2, 0)

noncomputable def ref5_floor (a : Int) (b : Int) : Option Int :=
  ((if (decide (b < 0)) = true then
  some ((i64 (-a)), (i64 (-b)))
  else
  some (a, b)) : Option ((Int × Int))).bind (t2 fun (a2 : Int) (b2 : Int) =>
  (quo .i64 a2 b2).bind fun q =>
  (rem a2 b2).bind fun q2 =>
  if (decide (q2 < 0)) = true then
  some (i64 (q - 1))
  else
  some q)

noncomputable def ref5_candidates_L2 (l : api_Line) (y : Int) (out4 : List Int) (d : Int) : Option (((List Int) × Int) ⊕ ((List Int))) :=
  if (decide (d ≤ 2)) = true then
  (app out4 ([(min (max (i64 (y + d)) l.From) l.To)] : List Int)).bind fun l2 =>
  some (.inl (l2, (i64 (d + 1))))
  else
  some (.inr out4)

noncomputable def ref5_candidates_L1 (c_ : api_Calibration) (l : api_Line) (n : Int) (out2 : List Int) (i : Int) : Option (((List Int) × Int) ⊕ ((List Int))) :=
  if (decide (i < 3)) = true then
  (((vidx (#v[n, c_.Low, c_.High] : Vector Int 3) i).bind fun x =>
  (ref5_floor (i64 (x - l.B)) l.A_).bind fun y =>
  loop (t2 (ref5_candidates_L2 l y)) (out2, (-1))) : Option (((List Int)))).bind (t1 fun (out3 : List Int) =>
  some (.inl (out3, (i64 (i + 1)))))
  else
  some (.inr out2)

noncomputable def ref5_candidates (c_ : api_Calibration) (l : api_Line) (n : Int) : Option (List Int) :=
  if (decide (l.A_ = 0)) = true then
  some ([l.From, l.To] : List Int)
  else
  ((loop (t2 (ref5_candidates_L1 c_ l n)) (([l.From, l.To] : List Int), 0)) : Option (((List Int)))).bind (t1 fun (out : List Int) =>
  some out)

noncomputable def ref5_apart (a : Int) (b : Int) : Option Int :=
  some (max (i64 (a - b)) (i64 (b - a)))

noncomputable def ref5_Nearest_L2 (c_ : api_Calibration) (n : Int) (y3 : (List Int)) (best4 : Int) (far3 : Int) (some_4 : Bool) (k : Int) : Option ((Int × Int × Bool × Int) ⊕ (Int × Int × Bool)) :=
  if (decide (k < (y3.length : Int))) = true then
  (((idx y3 k).bind fun x2 =>
  (ref5_apply c_ x2).bind fun y4 =>
  if (!y4.2) = true then
  some (best4, far3, some_4)
  else
  (ref5_apart y4.1 n).bind fun y5 =>
  (gd ((((!some_4) || (decide (y5 < far3))) == false) && ((decide (y5 = far3)) == true)) 0 (idx y3 k)).bind fun x3 =>
  if (((!some_4) || (decide (y5 < far3))) || ((decide (y5 = far3)) && (decide (x3 < best4)))) = true then
  (idx y3 k).bind fun x4 =>
  some (x4, y5, true)
  else
  some (best4, far3, some_4)) : Option ((Int × Int × Bool))).bind (t3 fun (best5 : Int) (far4 : Int) (some_5 : Bool) =>
  some (.inl (best5, far4, some_5, (i64 (k + 1)))))
  else
  some (.inr (best4, far3, some_4))

noncomputable def ref5_Nearest_L1 (c_ : api_Calibration) (n : Int) (best2 : Int) (far : Int) (some_2 : Bool) (i : Int) : Option ((Int × Int × Bool × Int) ⊕ (Int × Bool)) :=
  if (decide (i < (c_.Lines.length : Int))) = true then
  (((idx c_.Lines i).bind fun x =>
  (ref5_candidates c_ x n).bind fun y3 =>
  loop (t4 (ref5_Nearest_L2 c_ n y3)) (best2, far, some_2, 0)) : Option ((Int × Int × Bool))).bind (t3 fun (best3 : Int) (far2 : Int) (some_3 : Bool) =>
  some (.inl (best3, far2, some_3, (i64 (i + 1)))))
  else
  some (.inr (best2, some_2))

noncomputable def ref5_Nearest (c_ : api_Calibration) (n : Int) : Option (Int × Int) :=
  (ref5_CheckCalibration c_).bind fun y =>
  if (!decide (y = 0)) = true then
  some (0, y)
  else
  (ref5_outside n (-1125899906842624) 1125899906842624).bind fun y2 =>
  if y2 = true then
  some (0, 9)
  else
  ((loop (t4 (ref5_Nearest_L1 c_ n)) (0, 0, false, 0)) : Option ((Int × Bool))).bind (t2 fun (best : Int) (some_ : Bool) =>
  if (!some_) = true then
  some (0, 4)
  else
  some (best, 0))

noncomputable def series_Grain_L1 (c_ : api_Calibration) (n2 : Int) (i : Int) : Option ((Int × Int) ⊕ (Int)) :=
  if (decide (i < (c_.Lines.length : Int))) = true then
  (idx c_.Lines i).bind fun x =>
  if (decide (x.From < x.To)) = true then
  (series_size x.A_).bind fun y2 =>
  some (.inl ((max n2 y2), (i64 (i + 1))))
  else
  some (.inl (n2, (i64 (i + 1))))
  else
  some (.inr n2)

noncomputable def series_Grain (c_ : api_Calibration) : Option (Int × Int) :=
  (series_CheckCalibration c_).bind fun y =>
  if (!decide (y = 0)) = true then
  some (0, y)
  else
  ((loop (t2 (series_Grain_L1 c_)) (0, 0)) : Option ((Int))).bind (t1 fun (n : Int) =>
  some (n, 0))

noncomputable def ref5_Grain_L1 (c_ : api_Calibration) (most2 : Int) (i : Int) : Option ((Int × Int) ⊕ (Int)) :=
  if (decide (i < (c_.Lines.length : Int))) = true then
  (idx c_.Lines i).bind fun x =>
  if (decide (x.From < x.To)) = true then
  (ref5_apart x.A_ 0).bind fun y2 =>
  some (.inl ((max most2 y2), (i64 (i + 1))))
  else
  some (.inl (most2, (i64 (i + 1))))
  else
  some (.inr most2)

noncomputable def ref5_Grain (c_ : api_Calibration) : Option (Int × Int) :=
  (ref5_CheckCalibration c_).bind fun y =>
  if (!decide (y = 0)) = true then
  some (0, y)
  else
  ((loop (t2 (ref5_Grain_L1 c_)) (0, 0)) : Option ((Int))).bind (t1 fun (most : Int) =>
  some (most, 0))

noncomputable def law5_SeriesCalibrationMatchesSpec (c_ : api_Calibration) (v : Int) (n : Int) : Option Bool :=
  (series_Apply c_ v).bind fun y =>
  (ref5_Apply c_ v).bind fun y2 =>
  (series_CheckCalibration c_).bind fun y3 =>
  (ref5_CheckCalibration c_).bind fun y4 =>
  if ((((!decide (y3 = y4)) || (!decide (y.1 = y2.1))) || (!(y.2.1 == y2.2.1))) || (!decide (y.2.2 = y2.2.2))) = true then
  some false
  else
  (series_Nearest c_ n).bind fun y5 =>
  (ref5_Nearest c_ n).bind fun y6 =>
  if ((!decide (y5.1 = y6.1)) || (!decide (y5.2 = y6.2))) = true then
  some false
  else
  (series_Grain c_).bind fun y7 =>
  (ref5_Grain c_).bind fun y8 =>
  (gd (((decide (y7.1 = y8.1)) && (decide (y7.2 = y8.2))) == true) false law5_holds).bind fun y9 =>
  some (((decide (y7.1 = y8.1)) && (decide (y7.2 = y8.2))) && y9)

noncomputable def ref5_numbered (mark : Int) : Option Bool :=
  some (decide (2 ≤ mark))

noncomputable def ref5_sampleFault (s : api_Sample) : Option Int :=
  (ref5_outside s.At 0 1099511627776).bind fun y =>
  (gd (y == false) false (ref5_outside s.N (-1125899906842624) 1125899906842624)).bind fun y2 =>
  (gd ((y || y2) == false) false (ref5_outside s.Mark 0 4)).bind fun y3 =>
  if ((y || y2) || y3) = true then
  some 9
  else
  (gd ((!decide (s.N = 0)) == true) false (ref5_numbered s.Mark)).bind fun y4 =>
  if ((!decide (s.N = 0)) && (!y4)) = true then
  some 2
  else
  some 0

noncomputable def ref5_fault_L1 (s : api_Series) (i : Int) : Option ((Int) ⊕ (Int × Int) ⊕ (Unit)) :=
  if (decide (i < (s.Samples.length : Int))) = true then
  (idx s.Samples i).bind fun x =>
  (ref5_sampleFault x).bind fun y2 =>
  if (!decide (y2 = 0)) = true then
  some (.inr (.inl (i, y2)))
  else
  (gd ((decide (0 < i)) == true) (api_Sample.mk 0 0 0) (idx s.Samples i)).bind fun x2 =>
  (gd ((decide (0 < i)) == true) (api_Sample.mk 0 0 0) (idx s.Samples (i64 (i - 1)))).bind fun x3 =>
  if ((decide (0 < i)) && (decide (x2.At ≤ x3.At))) = true then
  some (.inr (.inl (i, 10)))
  else
  some (.inl (i64 (i + 1)))
  else
  some (.inr (.inr ()))

noncomputable def ref5_fault (s : api_Series) : Option (Int × Int) :=
  (ref5_outside s.Den 1 1000000).bind fun y =>
  if y = true then
  some ((-1), 9)
  else
  if (decide (20000 < (s.Samples.length : Int))) = true then
  some ((-1), 3)
  else
  ((loop (t1 (ref5_fault_L1 s)) 0) : Option ((Int × Int) ⊕ (Unit))).bind (Sum.elim (fun v => some v) (t0 (some ((-1), 0))))

noncomputable def ref5_Check (s : api_Series) : Option Int :=
  (ref5_fault s).bind fun y =>
  some y.2

noncomputable def ref5_solid (mark : Int) : Option Bool :=
  some (decide (3 ≤ mark))

noncomputable def ref5_Held_L1 (s : api_Series) (at_ : Int) (low2 : Int) (high : Int) : Option ((Int × Int) ⊕ (Int)) :=
  if (decide (low2 < high)) = true then
  (quo .i64 (i64 (low2 + high)) 2).bind fun q =>
  (idx s.Samples q).bind fun x =>
  if (decide (x.At ≤ at_)) = true then
  some (.inl ((i64 (q + 1)), high))
  else
  some (.inl (low2, q))
  else
  some (.inr low2)

noncomputable def ref5_Held (s : api_Series) (at_ : Int) (long : Int) : Option (api_Sample × Bool) :=
  ((loop (t2 (ref5_Held_L1 s at_)) (0, (s.Samples.length : Int))) : Option ((Int))).bind (t1 fun (low : Int) =>
  if (decide (low = 0)) = true then
  some ((api_Sample.mk 0 0 0), false)
  else
  (idx s.Samples (i64 (low - 1))).bind fun x2 =>
  (ref5_solid x2.Mark).bind fun y =>
  if ((!y) || (decide (long < (i64 (at_ - x2.At))))) = true then
  some ((api_Sample.mk 0 0 0), false)
  else
  some (x2, true))

noncomputable def ref5_Hold (s : api_Series) (at_ : Int) (long : Int) : Option (api_Sample × Bool × Int) :=
  (ref5_Check s).bind fun y =>
  if (!decide (y = 0)) = true then
  some ((api_Sample.mk 0 0 0), false, y)
  else
  (ref5_outside at_ 0 1099511627776).bind fun y2 =>
  (gd (y2 == false) false (ref5_outside long 0 1099511627776)).bind fun y3 =>
  if (y2 || y3) = true then
  some ((api_Sample.mk 0 0 0), false, 9)
  else
  (ref5_Held s at_ long).bind fun y4 =>
  some (y4.1, y4.2, 0)

noncomputable def series_solids_L1 (s : api_Series) (out2 : List Int) (i : Int) : Option (((List Int) × Int) ⊕ ((List Int))) :=
  if (decide (i < (s.Samples.length : Int))) = true then
  (idx s.Samples i).bind fun x =>
  (series_solid x).bind fun y =>
  if y = true then
  (app out2 ([i] : List Int)).bind fun l =>
  some (.inl (l, (i64 (i + 1))))
  else
  some (.inl (out2, (i64 (i + 1))))
  else
  some (.inr out2)

noncomputable def series_solids (s : api_Series) : Option (List Int) :=
  ((loop (t2 (series_solids_L1 s)) ([], 0)) : Option (((List Int)))).bind (t1 fun (out : List Int) =>
  some out)

noncomputable def slices_BinarySearchFunc_int_int_int_L1 (x : List Int) (target : Int) (cmp : Int → Int → Option Int) (i2 : Int) (j : Int) : Option ((Int × Int) ⊕ (Int)) :=
  if (decide (i2 < j)) = true then
  (shr .u64 (u64 (i64 (i2 + j))) 1).bind fun q =>
  (idx x (i64 q)).bind fun x2 =>
  (cmp x2 target).bind fun y =>
  if (decide (y < 0)) = true then
  some (.inl ((i64 ((i64 q) + 1)), j))
  else
  some (.inl (i2, (i64 q)))
  else
  some (.inr i2)

noncomputable def slices_BinarySearchFunc_int_int_int (x : List Int) (target : Int) (cmp : Int → Int → Option Int) : Option (Int × Bool) :=
  ((loop (t2 (slices_BinarySearchFunc_int_int_int_L1 x target cmp)) (0, (x.length : Int))) : Option ((Int))).bind (t1 fun (i : Int) =>
  (gd ((decide (i < (x.length : Int))) == true) 0 (idx x i)).bind fun x3 =>
  (gd ((decide (i < (x.length : Int))) == true) 0 (cmp x3 target)).bind fun y2 =>
  some (i, ((decide (i < (x.length : Int))) && (decide (y2 = 0)))))

noncomputable def series_Between_1 (k : Int) (at_ : Int) (c0 : api_Series) : Option Int :=
  (idx c0.Samples k).bind fun x =>
  some (i64 (x.At - at_))

noncomputable def series_divisor_L1 (a3 : Int) (b2 : Int) : Option ((Int × Int) ⊕ (Int)) :=
  if (!decide (b2 = 0)) = true then
  (rem a3 b2).bind fun q =>
  some (.inl (b2, q))
  else
  some (.inr a3)

noncomputable def series_divisor (a : Int) (b : Int) : Option Int :=
  (series_size a).bind fun y =>
  (series_size b).bind fun y2 =>
  ((loop (t2 (series_divisor_L1)) (y, y2)) : Option ((Int))).bind (t1 fun (a2 : Int) =>
  some a2)

noncomputable def series_ratio (num : Int) (den : Int) : Option api_Ratio :=
  (series_divisor num den).bind fun y =>
  (quo .i64 num y).bind fun q =>
  (quo .i64 den y).bind fun q2 =>
  some (api_Ratio.mk q q2)

noncomputable def series_onLine (a : api_Sample) (b : api_Sample) (at_ : Int) : Option api_Ratio :=
  (series_ratio (i64 (at_ - a.At)) (i64 (b.At - a.At))).bind fun y =>
  (series_divisor (i64 (b.N - a.N)) y.Den).bind fun y2 =>
  (quo .i64 y.Den y2).bind fun q =>
  (quo .i64 (i64 (b.N - a.N)) y2).bind fun q2 =>
  some (api_Ratio.mk (i64 ((i64 (a.N * q)) + (i64 (q2 * y.Num)))) q)

noncomputable def series_Between (s : api_Series) (at_ : Int) (long : Int) : Option (api_Ratio × Bool × Int) :=
  (series_Check s).bind fun y =>
  if (!decide (y = 0)) = true then
  some ((api_Ratio.mk 0 0), false, y)
  else
  (series_within at_ 0 1099511627776).bind fun y2 =>
  (gd ((!y2) == false) false (series_within long 0 1099511627776)).bind fun y3 =>
  if ((!y2) || (!y3)) = true then
  some ((api_Ratio.mk 0 0), false, 9)
  else
  (series_solids s).bind fun y4 =>
  (slices_BinarySearchFunc_int_int_int y4 at_ (fun z0 z1 => series_Between_1 z0 z1 s)).bind fun y5 =>
  if y5.2 = true then
  (idx y4 y5.1).bind fun x =>
  (idx s.Samples x).bind fun x2 =>
  some ((api_Ratio.mk x2.N 1), true, 0)
  else
  if ((decide (y5.1 = 0)) || (decide (y5.1 = (y4.length : Int)))) = true then
  some ((api_Ratio.mk 0 0), false, 0)
  else
  (idx y4 (i64 (y5.1 - 1))).bind fun x3 =>
  (idx s.Samples x3).bind fun x4 =>
  (idx y4 y5.1).bind fun x5 =>
  (idx s.Samples x5).bind fun x6 =>
  if (decide (long < (i64 (x6.At - x4.At)))) = true then
  some ((api_Ratio.mk 0 0), false, 0)
  else
  (series_onLine x4 x6 at_).bind fun y6 =>
  some (y6, true, 0)

noncomputable def ref5_Solids_L1 (s : api_Series) (out2 : List Int) (i : Int) : Option (((List Int) × Int) ⊕ ((List Int))) :=
  if (decide (i < (s.Samples.length : Int))) = true then
  (idx s.Samples i).bind fun x =>
  (ref5_solid x.Mark).bind fun y =>
  if y = true then
  (app out2 ([i] : List Int)).bind fun l =>
  some (.inl (l, (i64 (i + 1))))
  else
  some (.inl (out2, (i64 (i + 1))))
  else
  some (.inr out2)

noncomputable def ref5_Solids (s : api_Series) : Option (List Int) :=
  ((loop (t2 (ref5_Solids_L1 s)) ([], 0)) : Option (((List Int)))).bind (t1 fun (out : List Int) =>
  some out)

noncomputable def bits_Mul64 (x : Int) (y : Int) : Option (Int × Int) :=
  (shr .u64 x 32).bind fun q =>
  (shr .u64 y 32).bind fun q2 =>
  (shr .u64 (u64 ((band .u64 x 4294967295) * (band .u64 y 4294967295))) 32).bind fun q3 =>
  (shr .u64 (u64 ((u64 (q * (band .u64 y 4294967295))) + q3)) 32).bind fun q4 =>
  (shr .u64 (u64 ((band .u64 (u64 ((u64 (q * (band .u64 y 4294967295))) + q3)) 4294967295) + (u64 ((band .u64 x 4294967295) * q2)))) 32).bind fun q5 =>
  some ((u64 ((u64 ((u64 (q * q2)) + q4)) + q5)), (u64 (x * y)))

noncomputable def ref5_product (a : Int) (b : Int) : Option ref5_wide :=
  ((if (decide (a < 0)) = true then
  some (i64 (-a))
  else
  some a) : Option ((Int))).bind (t1 fun (a2 : Int) =>
  (bits_Mul64 (u64 a2) (u64 b)).bind fun y =>
  some (ref5_wide.mk (decide (a < 0)) y.1 y.2))

noncomputable def ref5_add (a : ref5_wide) (b : ref5_wide) : Option ref5_wide :=
  if (a.neg == b.neg) = true then
  (bits_Add64 a.low b.low 0).bind fun y =>
  (bits_Add64 a.high b.high y.2).bind fun y2 =>
  some (ref5_wide.mk a.neg y2.1 y.1)
  else
  ((if ((decide (a.high < b.high)) || ((decide (a.high = b.high)) && (decide (a.low < b.low)))) = true then
  some (b, a)
  else
  some (a, b)) : Option ((ref5_wide × ref5_wide))).bind (t2 fun (a2 : ref5_wide) (b2 : ref5_wide) =>
  (bits_Sub64 a2.low b2.low 0).bind fun y3 =>
  (bits_Sub64 a2.high b2.high y3.2).bind fun y4 =>
  some (ref5_wide.mk a2.neg y4.1 y3.1))

noncomputable def bits_Len64 (x : Int) : Option Int :=
  ((if (decide (4294967296 ≤ x)) = true then
  (shr .u64 x 32).bind fun q =>
  some (q, 32)
  else
  some (x, 0)) : Option ((Int × Int))).bind (t2 fun (x2 : Int) (n : Int) =>
  ((if (decide (65536 ≤ x2)) = true then
  (shr .u64 x2 16).bind fun q2 =>
  some (q2, (i64 (n + 16)))
  else
  some (x2, n)) : Option ((Int × Int))).bind (t2 fun (x3 : Int) (n2 : Int) =>
  ((if (decide (256 ≤ x3)) = true then
  (shr .u64 x3 8).bind fun q3 =>
  some (q3, (i64 (n2 + 8)))
  else
  some (x3, n2)) : Option ((Int × Int))).bind (t2 fun (x4 : Int) (n3 : Int) =>
  (sidx [0, 1, 2, 2, 3, 3, 3, 3, 4, 4, 4, 4, 4, 4, 4, 4, 5, 5, 5, 5, 5, 5, 5, 5, 5, 5, 5, 5, 5, 5, 5, 5, 6, 6, 6, 6, 6, 6, 6, 6, 6, 6, 6, 6, 6, 6, 6, 6, 6, 6, 6, 6, 6, 6, 6, 6, 6, 6, 6, 6, 6, 6, 6, 6, 7, 7, 7, 7, 7, 7, 7, 7, 7, 7, 7, 7, 7, 7, 7, 7, 7, 7, 7, 7, 7, 7, 7, 7, 7, 7, 7, 7, 7, 7, 7, 7, 7, 7, 7, 7, 7, 7, 7, 7, 7, 7, 7, 7, 7, 7, 7, 7, 7, 7, 7, 7, 7, 7, 7, 7, 7, 7, 7, 7, 7, 7, 7, 7, 8, 8, 8, 8, 8, 8, 8, 8, 8, 8, 8, 8, 8, 8, 8, 8, 8, 8, 8, 8, 8, 8, 8, 8, 8, 8, 8, 8, 8, 8, 8, 8, 8, 8, 8, 8, 8, 8, 8, 8, 8, 8, 8, 8, 8, 8, 8, 8, 8, 8, 8, 8, 8, 8, 8, 8, 8, 8, 8, 8, 8, 8, 8, 8, 8, 8, 8, 8, 8, 8, 8, 8, 8, 8, 8, 8, 8, 8, 8, 8, 8, 8, 8, 8, 8, 8, 8, 8, 8, 8, 8, 8, 8, 8, 8, 8, 8, 8, 8, 8, 8, 8, 8, 8, 8, 8, 8, 8, 8, 8, 8, 8, 8, 8, 8, 8, 8, 8, 8, 8, 8, 8, 8, 8, 8, 8, 8, 8] (u8 x4)).bind fun b =>
  some (i64 (n3 + (i64 b))))))

noncomputable def bits_LeadingZeros64 (x : Int) : Option Int :=
  (bits_Len64 x).bind fun y =>
  some (i64 (64 - y))

noncomputable def bits_Div64_L1 (q3 : Int) (q4 : Int) (q8 : Int) (q12 : Int) (rhat : Int) : Option ((Int × Int) ⊕ (Int)) :=
  if ((decide (4294967296 ≤ q12)) || (decide ((u64 ((u64 (4294967296 * rhat)) + q8)) < (u64 (q12 * (band .u64 q3 4294967295)))))) = true then
  if (decide (4294967296 ≤ (u64 (rhat + q4)))) = true then
  some (.inr (u64 (q12 - 1)))
  else
  some (.inl ((u64 (q12 - 1)), (u64 (rhat + q4))))
  else
  some (.inr q12)

noncomputable def bits_Div64_L2 (q3 : Int) (q4 : Int) (q7 : Int) (rhat2 : Int) (q02 : Int) : Option ((Int × Int) ⊕ (Int)) :=
  if ((decide (4294967296 ≤ q02)) || (decide ((u64 ((u64 (4294967296 * rhat2)) + (band .u64 q7 4294967295))) < (u64 (q02 * (band .u64 q3 4294967295)))))) = true then
  if (decide (4294967296 ≤ (u64 (rhat2 + q4)))) = true then
  some (.inr (u64 (q02 - 1)))
  else
  some (.inl ((u64 (rhat2 + q4)), (u64 (q02 - 1))))
  else
  some (.inr q02)

noncomputable def bits_Div64 (hi : Int) (lo : Int) (y : Int) : Option (Int × Int) :=
  if (decide (y = 0)) = true then
  none
  else
  if (decide (y ≤ hi)) = true then
  none
  else
  if (decide (hi = 0)) = true then
  (quo .u64 lo y).bind fun q =>
  (rem lo y).bind fun q2 =>
  some (q, q2)
  else
  (bits_LeadingZeros64 y).bind fun y2 =>
  (shl .u64 y (u64 y2)).bind fun q3 =>
  (shr .u64 q3 32).bind fun q4 =>
  (shl .u64 hi (u64 y2)).bind fun q5 =>
  (shr .u64 lo (u64 (64 - (u64 y2)))).bind fun q6 =>
  (shl .u64 lo (u64 y2)).bind fun q7 =>
  (shr .u64 q7 32).bind fun q8 =>
  (quo .u64 (bor .u64 q5 q6) q4).bind fun q9 =>
  ((loop (t2 (bits_Div64_L1 q3 q4 q8)) (q9, (u64 ((bor .u64 q5 q6) - (u64 (q9 * q4)))))) : Option ((Int))).bind (t1 fun (q1 : Int) =>
  (quo .u64 (u64 ((u64 ((u64 ((bor .u64 q5 q6) * 4294967296)) + q8)) - (u64 (q1 * q3)))) q4).bind fun q10 =>
  ((loop (t2 (bits_Div64_L2 q3 q4 q7)) ((u64 ((u64 ((u64 ((u64 ((bor .u64 q5 q6) * 4294967296)) + q8)) - (u64 (q1 * q3)))) - (u64 (q10 * q4)))), q10)) : Option ((Int))).bind (t1 fun (q0 : Int) =>
  (shr .u64 (u64 ((u64 ((u64 ((u64 ((u64 ((u64 ((bor .u64 q5 q6) * 4294967296)) + q8)) - (u64 (q1 * q3)))) * 4294967296)) + (band .u64 q7 4294967295))) - (u64 (q0 * q3)))) (u64 y2)).bind fun q11 =>
  some ((u64 ((u64 (q1 * 4294967296)) + q0)), q11)))

noncomputable def ref5_gcd_L1 (a3 : Int) (b2 : Int) : Option ((Int × Int) ⊕ (Int)) :=
  if (!decide (b2 = 0)) = true then
  (rem a3 b2).bind fun q =>
  some (.inl (b2, q))
  else
  some (.inr a3)

noncomputable def ref5_gcd (a : Int) (b : Int) : Option Int :=
  ((loop (t2 (ref5_gcd_L1)) (a, b)) : Option ((Int))).bind (t1 fun (a2 : Int) =>
  some a2)

noncomputable def ref5_ratio (a : ref5_wide) (den : Int) : Option (api_Ratio × Bool) :=
  if ((decide (a.high = 0)) && (decide (a.low = 0))) = true then
  some ((api_Ratio.mk 0 1), true)
  else
  (rem a.high (u64 den)).bind fun q =>
  (bits_Div64 q a.low (u64 den)).bind fun y =>
  (ref5_gcd den (i64 y.2)).bind fun y2 =>
  (quo .u64 a.high (u64 y2)).bind fun q2 =>
  (rem a.high (u64 y2)).bind fun q3 =>
  (bits_Div64 q3 a.low (u64 y2)).bind fun y3 =>
  (quo .i64 den y2).bind fun q4 =>
  if (((!decide (q2 = 0)) || (decide (4611686018427387904 < y3.1))) || (decide (4611686018427387904 < q4))) = true then
  some ((api_Ratio.mk 0 0), false)
  else
  ((if a.neg = true then
  some (i64 (-(i64 y3.1)))
  else
  some (i64 y3.1)) : Option ((Int))).bind (t1 fun (n : Int) =>
  some ((api_Ratio.mk n q4), true))

noncomputable def ref5_between_L1 (s : api_Series) (at_ : Int) (long : Int) (y : (List Int)) (i : Int) : Option ((Int) ⊕ (api_Ratio × Bool × Bool) ⊕ (Unit)) :=
  if (decide (i < (y.length : Int))) = true then
  (idx y i).bind fun x =>
  (idx s.Samples x).bind fun x2 =>
  if (decide (x2.At = at_)) = true then
  some (.inr (.inl ((api_Ratio.mk x2.N 1), true, true)))
  else
  if (decide (x2.At < at_)) = true then
  some (.inl (i64 (i + 1)))
  else
  if (decide (i = 0)) = true then
  some (.inr (.inr ()))
  else
  (idx y (i64 (i - 1))).bind fun x3 =>
  (idx s.Samples x3).bind fun x4 =>
  if (decide (long < (i64 (x2.At - x4.At)))) = true then
  some (.inr (.inr ()))
  else
  (ref5_product x4.N (i64 (x2.At - at_))).bind fun y2 =>
  (ref5_product x2.N (i64 (at_ - x4.At))).bind fun y3 =>
  (ref5_add y2 y3).bind fun y4 =>
  (ref5_ratio y4 (i64 (x2.At - x4.At))).bind fun y5 =>
  some (.inr (.inl (y5.1, y5.2, y5.2)))
  else
  some (.inr (.inr ()))

noncomputable def ref5_between (s : api_Series) (at_ : Int) (long : Int) : Option (api_Ratio × Bool × Bool) :=
  (ref5_Solids s).bind fun y =>
  ((loop (t1 (ref5_between_L1 s at_ long y)) 0) : Option ((api_Ratio × Bool × Bool) ⊕ (Unit))).bind (Sum.elim (fun v => some v) (t0 (some ((api_Ratio.mk 0 0), false, true))))

noncomputable def ref5_Between (s : api_Series) (at_ : Int) (long : Int) : Option (api_Ratio × Bool × Int) :=
  (ref5_Check s).bind fun y =>
  if (!decide (y = 0)) = true then
  some ((api_Ratio.mk 0 0), false, y)
  else
  (ref5_outside at_ 0 1099511627776).bind fun y2 =>
  (gd (y2 == false) false (ref5_outside long 0 1099511627776)).bind fun y3 =>
  if (y2 || y3) = true then
  some ((api_Ratio.mk 0 0), false, 9)
  else
  (ref5_between s at_ long).bind fun y4 =>
  some (y4.1, y4.2.1, 0)

noncomputable def ref5_Promised (s : api_Series) (at_ : Int) (long : Int) : Option Bool :=
  (ref5_Check s).bind fun y =>
  (gd ((!decide (y = 0)) == false) false (ref5_outside at_ 0 1099511627776)).bind fun y2 =>
  (gd (((!decide (y = 0)) || y2) == false) false (ref5_outside long 0 1099511627776)).bind fun y3 =>
  if (((!decide (y = 0)) || y2) || y3) = true then
  some true
  else
  (ref5_between s at_ long).bind fun y4 =>
  some y4.2.2

noncomputable def law5_SeriesHoldMatchesSpec (s : api_Series) (at_ : Int) (long : Int) : Option Bool :=
  (series_Hold s at_ long).bind fun y =>
  (ref5_Hold s at_ long).bind fun y2 =>
  if (((!(decide (y.1.At = y2.1.At) && (decide (y.1.N = y2.1.N) && (decide (y.1.Mark = y2.1.Mark) && true)))) || (!(y.2.1 == y2.2.1))) || (!decide (y.2.2 = y2.2.2))) = true then
  some false
  else
  (series_Between s at_ long).bind fun y3 =>
  (ref5_Between s at_ long).bind fun y4 =>
  (ref5_Promised s at_ long).bind fun y5 =>
  (gd (((!y5) || (((decide (y3.1.Num = y4.1.Num) && (decide (y3.1.Den = y4.1.Den) && true)) && (y3.2.1 == y4.2.1)) && (decide (y3.2.2 = y4.2.2)))) == true) false law5_holds).bind fun y6 =>
  some (((!y5) || (((decide (y3.1.Num = y4.1.Num) && (decide (y3.1.Den = y4.1.Den) && true)) && (y3.2.1 == y4.2.1)) && (decide (y3.2.2 = y4.2.2)))) && y6)

noncomputable def series_wide_addProduct (w : series_wide) (a : Int) (b : Int) : Option series_wide :=
  (bits_Mul64 (u64 a) (u64 b)).bind fun y =>
  (bits_Add64 w.low y.2 0).bind fun y2 =>
  some (series_wide.mk (u64 (w.high + (u64 (y.1 + y2.2)))) y2.1)

noncomputable def series_wide_less (w : series_wide) (x : series_wide) : Option Bool :=
  some ((decide (w.high < x.high)) || ((decide (w.high = x.high)) && (decide (w.low < x.low))))

noncomputable def series_wide_minus (w : series_wide) (x : series_wide) : Option series_wide :=
  (bits_Sub64 w.low x.low 0).bind fun y =>
  some (series_wide.mk (u64 ((u64 (w.high - x.high)) - y.2)) y.1)

noncomputable def bits_Rem64 (hi : Int) (lo : Int) (y : Int) : Option Int :=
  (rem hi y).bind fun q =>
  (bits_Div64 q lo y).bind fun y2 =>
  some y2.2

noncomputable def series_wide_fraction (w : series_wide) (den : Int) : Option (api_Ratio × Bool) :=
  (bits_Rem64 w.high w.low (u64 den)).bind fun y =>
  (series_divisor (i64 y) den).bind fun y2 =>
  if (decide ((u64 y2) ≤ w.high)) = true then
  some ((api_Ratio.mk 0 0), false)
  else
  (bits_Div64 w.high w.low (u64 y2)).bind fun y3 =>
  (quo .i64 den (i64 (u64 y2))).bind fun q =>
  some ((api_Ratio.mk (i64 y3.1) q), (decide (y3.1 ≤ 4611686018427387904)))

noncomputable def series_Mean_L1 (s : api_Series) (from_ : Int) (to : Int) (long : Int) (plus2 : series_wide) (minus2 : series_wide) (ticks2 : Int) (i : Int) : Option ((series_wide × series_wide × Int × Int) ⊕ (series_wide × series_wide × Int)) :=
  if (decide (i < (s.Samples.length : Int))) = true then
  (idx s.Samples i).bind fun x =>
  ((if (decide ((i64 (i + 1)) < (s.Samples.length : Int))) = true then
  (idx s.Samples (i64 (i + 1))).bind fun x2 =>
  some (min (min to (i64 ((i64 (x.At + long)) + 1))) x2.At)
  else
  some (min to (i64 ((i64 (x.At + long)) + 1)))) : Option ((Int))).bind (t1 fun (end_ : Int) =>
  (series_solid x).bind fun y3 =>
  if ((!y3) || (decide ((i64 (end_ - (max from_ x.At))) ≤ 0))) = true then
  some (.inl (plus2, minus2, ticks2, (i64 (i + 1))))
  else
  if (decide (x.N < 0)) = true then
  (series_wide_addProduct minus2 (i64 (-x.N)) (i64 (end_ - (max from_ x.At)))).bind fun y4 =>
  some (.inl (plus2, y4, (i64 (ticks2 + (i64 (end_ - (max from_ x.At))))), (i64 (i + 1))))
  else
  (series_wide_addProduct plus2 x.N (i64 (end_ - (max from_ x.At)))).bind fun y5 =>
  some (.inl (y5, minus2, (i64 (ticks2 + (i64 (end_ - (max from_ x.At))))), (i64 (i + 1)))))
  else
  some (.inr (plus2, minus2, ticks2))

noncomputable def series_Mean (s : api_Series) (from_ : Int) (to : Int) (long : Int) : Option (api_Ratio × Int × Int) :=
  (series_Check s).bind fun y =>
  if (!decide (y = 0)) = true then
  some ((api_Ratio.mk 0 0), 0, y)
  else
  (gd (((((decide (from_ < 0)) || (decide (to < from_))) || (decide (1099511627776 < to))) || (decide (1073741824 < (i64 (to - from_))))) == false) false (series_within long 0 1099511627776)).bind fun y2 =>
  if (((((decide (from_ < 0)) || (decide (to < from_))) || (decide (1099511627776 < to))) || (decide (1073741824 < (i64 (to - from_))))) || (!y2)) = true then
  some ((api_Ratio.mk 0 0), 0, 9)
  else
  ((loop (t4 (series_Mean_L1 s from_ to long)) ((series_wide.mk 0 0), (series_wide.mk 0 0), 0, 0)) : Option ((series_wide × series_wide × Int))).bind (t3 fun (plus : series_wide) (minus : series_wide) (ticks : Int) =>
  if (decide (ticks = 0)) = true then
  some ((api_Ratio.mk 0 0), 0, 13)
  else
  (series_wide_less plus minus).bind fun y6 =>
  ((if y6 = true then
  some (minus, plus)
  else
  some (plus, minus)) : Option ((series_wide × series_wide))).bind (t2 fun (plus3 : series_wide) (minus3 : series_wide) =>
  (series_wide_minus plus3 minus3).bind fun y7 =>
  (series_wide_fraction y7 ticks).bind fun y8 =>
  if (!y8.2) = true then
  some ((api_Ratio.mk 0 0), 0, 3)
  else
  ((if y6 = true then
  some (i64 (-y8.1.Num))
  else
  some y8.1.Num) : Option ((Int))).bind (t1 fun (Num : Int) =>
  some ((api_Ratio.mk Num y8.1.Den), ticks, 0))))

noncomputable def ref5_Mean_L1 (s : api_Series) (from_ : Int) (to : Int) (long : Int) (sum2 : ref5_wide) (ticks2 : Int) (i : Int) : Option ((ref5_wide × Int × Int) ⊕ (ref5_wide × Int)) :=
  if (decide (i < (s.Samples.length : Int))) = true then
  (idx s.Samples i).bind fun x =>
  ((if (decide ((i64 (i + 1)) < (s.Samples.length : Int))) = true then
  (idx s.Samples (i64 (i + 1))).bind fun x2 =>
  some (min (i64 ((i64 (x.At + long)) + 1)) x2.At)
  else
  some (i64 ((i64 (x.At + long)) + 1))) : Option ((Int))).bind (t1 fun (end_ : Int) =>
  (ref5_solid x.Mark).bind fun y3 =>
  if (y3 && (decide (0 < (i64 ((min end_ to) - (max x.At from_)))))) = true then
  (ref5_product x.N (i64 ((min end_ to) - (max x.At from_)))).bind fun y4 =>
  (ref5_add sum2 y4).bind fun y5 =>
  some (.inl (y5, (i64 (ticks2 + (i64 ((min end_ to) - (max x.At from_))))), (i64 (i + 1))))
  else
  some (.inl (sum2, ticks2, (i64 (i + 1)))))
  else
  some (.inr (sum2, ticks2))

noncomputable def ref5_Mean (s : api_Series) (from_ : Int) (to : Int) (long : Int) : Option (api_Ratio × Int × Int) :=
  (ref5_Check s).bind fun y =>
  if (!decide (y = 0)) = true then
  some ((api_Ratio.mk 0 0), 0, y)
  else
  (gd (((((decide (from_ < 0)) || (decide (to < from_))) || (decide (1099511627776 < to))) || (decide (1073741824 < (i64 (to - from_))))) == false) false (ref5_outside long 0 1099511627776)).bind fun y2 =>
  if (((((decide (from_ < 0)) || (decide (to < from_))) || (decide (1099511627776 < to))) || (decide (1073741824 < (i64 (to - from_))))) || y2) = true then
  some ((api_Ratio.mk 0 0), 0, 9)
  else
  ((loop (t3 (ref5_Mean_L1 s from_ to long)) ((ref5_wide.mk false 0 0), 0, 0)) : Option ((ref5_wide × Int))).bind (t2 fun (sum : ref5_wide) (ticks : Int) =>
  if (decide (ticks = 0)) = true then
  some ((api_Ratio.mk 0 0), 0, 13)
  else
  (ref5_ratio sum ticks).bind fun y6 =>
  if (!y6.2) = true then
  some ((api_Ratio.mk 0 0), 0, 3)
  else
  some (y6.1, ticks, 0))

noncomputable def law5_SeriesMeanMatchesSpec (s : api_Series) (from_ : Int) (to : Int) (long : Int) : Option Bool :=
  (series_Mean s from_ to long).bind fun y =>
  (ref5_Mean s from_ to long).bind fun y2 =>
  (gd ((((decide (y.1.Num = y2.1.Num) && (decide (y.1.Den = y2.1.Den) && true)) && (decide (y.2.1 = y2.2.1))) && (decide (y.2.2 = y2.2.2))) == true) false law5_holds).bind fun y3 =>
  some ((((decide (y.1.Num = y2.1.Num) && (decide (y.1.Den = y2.1.Den) && true)) && (decide (y.2.1 = y2.2.1))) && (decide (y.2.2 = y2.2.2))) && y3)

noncomputable def series_Resample_L1 (s : api_Series) (from_ : Int) (step : Int) (count : Int) (long : Int) (Samples2 : List api_Sample) (i : Int) : Option (((List api_Sample) × Int) ⊕ ((List api_Sample))) :=
  if (decide (i < count)) = true then
  (series_hold s (i64 (from_ + (i64 (i * step)))) long).bind fun y6 =>
  (app Samples2 ([(api_Sample.mk (i64 (from_ + (i64 (i * step)))) y6.1.N y6.1.Mark)] : List api_Sample)).bind fun l =>
  some (.inl (l, (i64 (i + 1))))
  else
  some (.inr Samples2)

noncomputable def series_Resample (s : api_Series) (from_ : Int) (step : Int) (count : Int) (long : Int) : Option (api_Series × Int) :=
  (series_Check s).bind fun y =>
  if (!decide (y = 0)) = true then
  some ((api_Series.mk 0 []), y)
  else
  (series_within from_ 0 1099511627776).bind fun y2 =>
  (gd ((!y2) == false) false (series_within long 0 1099511627776)).bind fun y3 =>
  (gd (((!y2) || (!y3)) == false) false (series_within step 1 1099511627776)).bind fun y4 =>
  (gd ((((!y2) || (!y3)) || (!y4)) == false) false (series_within count 0 20000)).bind fun y5 =>
  if (((((!y2) || (!y3)) || (!y4)) || (!y5)) || ((decide (0 < count)) && (decide (1099511627776 < (i64 (from_ + (i64 ((i64 (count - 1)) * step)))))))) = true then
  some ((api_Series.mk 0 []), 9)
  else
  ((loop (t2 (series_Resample_L1 s from_ step count long)) ([], 0)) : Option (((List api_Sample)))).bind (t1 fun (Samples : List api_Sample) =>
  some ((api_Series.mk s.Den Samples), 0))

noncomputable def istrconv_small (i : Int) : Option Str :=
  if (decide (i < 10)) = true then
  (slc [48, 49, 50, 51, 52, 53, 54, 55, 56, 57, 97, 98, 99, 100, 101, 102, 103, 104, 105, 106, 107, 108, 109, 110, 111, 112, 113, 114, 115, 116, 117, 118, 119, 120, 121, 122] i (i64 (i + 1))).bind fun s =>
  some s
  else
  (slc [48, 48, 48, 49, 48, 50, 48, 51, 48, 52, 48, 53, 48, 54, 48, 55, 48, 56, 48, 57, 49, 48, 49, 49, 49, 50, 49, 51, 49, 52, 49, 53, 49, 54, 49, 55, 49, 56, 49, 57, 50, 48, 50, 49, 50, 50, 50, 51, 50, 52, 50, 53, 50, 54, 50, 55, 50, 56, 50, 57, 51, 48, 51, 49, 51, 50, 51, 51, 51, 52, 51, 53, 51, 54, 51, 55, 51, 56, 51, 57, 52, 48, 52, 49, 52, 50, 52, 51, 52, 52, 52, 53, 52, 54, 52, 55, 52, 56, 52, 57, 53, 48, 53, 49, 53, 50, 53, 51, 53, 52, 53, 53, 53, 54, 53, 55, 53, 56, 53, 57, 54, 48, 54, 49, 54, 50, 54, 51, 54, 52, 54, 53, 54, 54, 54, 55, 54, 56, 54, 57, 55, 48, 55, 49, 55, 50, 55, 51, 55, 52, 55, 53, 55, 54, 55, 55, 55, 56, 55, 57, 56, 48, 56, 49, 56, 50, 56, 51, 56, 52, 56, 53, 56, 54, 56, 55, 56, 56, 56, 57, 57, 48, 57, 49, 57, 50, 57, 51, 57, 52, 57, 53, 57, 54, 57, 55, 57, 56, 57, 57] (i64 (i * 2)) (i64 ((i64 (i * 2)) + 2))).bind fun s2 =>
  some s2

noncomputable def istrconv_AppendUint (dst_ : List Int) (i : Int) (base : Int) : Option (List Int) :=
  if (decide (base = 10)) = true then
  if (decide (i < 100)) = true then
  (istrconv_small (i64 i)).bind fun y =>
  (app dst_ (bytes y)).bind fun l =>
  some l
  else
  (numDigits i).bind fun y2 =>
  (slc (Vector.replicate 24 0).toList 0 y2).bind fun l2 =>
  (fmt10 (Vector.replicate 24 0) (Int.toNat (y2 - 0)) i).bind fun y3 =>
  (slc y3.toList 0 y2).bind fun l3 =>
  (slc y3.toList 0 y2).bind fun l4 =>
  (app dst_ l4).bind fun l5 =>
  some l5
  else
  none

noncomputable def istrconv_AppendInt (dst_ : List Int) (i : Int) (base : Int) : Option (List Int) :=
  ((if (decide (i < 0)) = true then
  (app dst_ ([45] : List Int)).bind fun l =>
  some (l, (u64 (-(u64 i))))
  else
  some (dst_, (u64 i))) : Option (((List Int) × Int))).bind (t2 fun (o : List Int) (u : Int) =>
  (istrconv_AppendUint o u base).bind fun y =>
  some y)

noncomputable def strconv_AppendInt (dst_ : List Int) (i : Int) (base : Int) : Option (List Int) :=
  (istrconv_AppendInt dst_ i base).bind fun y =>
  some y

noncomputable def ref0_Ink_Int (k : ref0_Ink) (n : Int) : Option ref0_Ink :=
  (strconv_AppendInt k.out n 10).bind fun y =>
  (app y ([32] : List Int)).bind fun l =>
  some (ref0_Ink.mk l)

noncomputable def ref0_Ink_Ints_L1 (l : List Int) (out : List Int) (i : Int) : Option (((List Int) × Int) ⊕ (ref0_Ink)) :=
  if (decide (i < (l.length : Int))) = true then
  (idx l i).bind fun x =>
  (ref0_Ink_Int (ref0_Ink.mk out) x).bind fun y2 =>
  some (.inl (y2.out, (i64 (i + 1))))
  else
  some (.inr (ref0_Ink.mk out))

noncomputable def ref0_Ink_Ints (k : ref0_Ink) (l : List Int) : Option ref0_Ink :=
  (ref0_Ink_Int k (l.length : Int)).bind fun y =>
  loop (t2 (ref0_Ink_Ints_L1 l)) (y.out, 0)

noncomputable def ref0_Ink_Sample (k : ref0_Ink) (x : api_Sample) : Option ref0_Ink :=
  (ref0_Ink_Ints k ([x.At, x.N, x.Mark] : List Int)).bind fun y =>
  some y

noncomputable def ref0_Ink_Series_L1 (s : api_Series) (out : List Int) (i : Int) : Option (((List Int) × Int) ⊕ (ref0_Ink)) :=
  if (decide (i < (s.Samples.length : Int))) = true then
  (idx s.Samples i).bind fun x =>
  (ref0_Ink_Sample (ref0_Ink.mk out) x).bind fun y3 =>
  some (.inl (y3.out, (i64 (i + 1))))
  else
  some (.inr (ref0_Ink.mk out))

noncomputable def ref0_Ink_Series (k : ref0_Ink) (s : api_Series) : Option ref0_Ink :=
  (ref0_Ink_Int k s.Den).bind fun y =>
  (ref0_Ink_Int y (s.Samples.length : Int)).bind fun y2 =>
  loop (t2 (ref0_Ink_Series_L1 s)) (y2.out, 0)

noncomputable def ref0_Ink_Errno (k : ref0_Ink) (e : Int) : Option ref0_Ink :=
  (ref0_Ink_Int k e).bind fun y =>
  some y

noncomputable def ref0_Ink_Told (k : ref0_Ink) : Option Str :=
  some (ofBytes k.out)

noncomputable def law5_told (s : api_Series) (e : Int) : Option Str :=
  (ref0_Ink_Series (ref0_Ink.mk []) s).bind fun y =>
  (ref0_Ink_Errno y e).bind fun y2 =>
  (ref0_Ink_Told y2).bind fun y3 =>
  some y3

noncomputable def ref5_Resample_L1 (s : api_Series) (from_ : Int) (step : Int) (count : Int) (long : Int) (Samples2 : List api_Sample) (i : Int) : Option (((List api_Sample) × Int) ⊕ ((List api_Sample))) :=
  if (decide (i < count)) = true then
  (ref5_Held s (i64 (from_ + (i64 (i * step)))) long).bind fun y6 =>
  (app Samples2 ([(api_Sample.mk (i64 (from_ + (i64 (i * step)))) y6.1.N y6.1.Mark)] : List api_Sample)).bind fun l =>
  some (.inl (l, (i64 (i + 1))))
  else
  some (.inr Samples2)

noncomputable def ref5_Resample (s : api_Series) (from_ : Int) (step : Int) (count : Int) (long : Int) : Option (api_Series × Int) :=
  (ref5_Check s).bind fun y =>
  if (!decide (y = 0)) = true then
  some ((api_Series.mk 0 []), y)
  else
  (ref5_outside from_ 0 1099511627776).bind fun y2 =>
  (gd (y2 == false) false (ref5_outside long 0 1099511627776)).bind fun y3 =>
  (gd ((y2 || y3) == false) false (ref5_outside step 1 1099511627776)).bind fun y4 =>
  (gd (((y2 || y3) || y4) == false) false (ref5_outside count 0 20000)).bind fun y5 =>
  if (((y2 || y3) || y4) || y5) = true then
  some ((api_Series.mk 0 []), 9)
  else
  if ((decide (0 < count)) && (decide (1099511627776 < (i64 (from_ + (i64 ((i64 (count - 1)) * step))))))) = true then
  some ((api_Series.mk 0 []), 9)
  else
  ((loop (t2 (ref5_Resample_L1 s from_ step count long)) ([], 0)) : Option (((List api_Sample)))).bind (t1 fun (Samples : List api_Sample) =>
  some ((api_Series.mk s.Den Samples), 0))

noncomputable def law5_SeriesResampleMatchesSpec (s : api_Series) (from_ : Int) (step : Int) (count : Int) (long : Int) : Option Bool :=
  (series_Resample s from_ step count long).bind fun y =>
  (law5_told y.1 y.2).bind fun y2 =>
  (ref5_Resample s from_ step count long).bind fun y3 =>
  (law5_told y3.1 y3.2).bind fun y4 =>
  (gd ((decide (y2 = y4)) == true) false law5_holds).bind fun y5 =>
  some ((decide (y2 = y4)) && y5)

noncomputable def series_both (a : api_Sample) (b : api_Sample) : Option api_Sample :=
  if (decide (b.Mark < a.Mark)) = true then
  some a
  else
  if (decide (a.Mark < b.Mark)) = true then
  some b
  else
  if (!decide (a.N = b.N)) = true then
  some (api_Sample.mk a.At 0 1)
  else
  some a

noncomputable def series_Join_L1 (a : api_Series) (b : api_Series) (i : Int) : Option ((Int) ⊕ (api_Series × Int) ⊕ (Unit)) :=
  if (decide (i < (([a, b] : List api_Series).length : Int))) = true then
  (idx ([a, b] : List api_Series) i).bind fun x =>
  (series_Check x).bind fun y =>
  if (!decide (y = 0)) = true then
  some (.inr (.inl ((api_Series.mk 0 []), y)))
  else
  some (.inl (i64 (i + 1)))
  else
  some (.inr (.inr ()))

noncomputable def series_Join_L2 (Samples2 : List api_Sample) (x2 : List api_Sample) (y2 : List api_Sample) : Option (((List api_Sample) × (List api_Sample) × (List api_Sample)) ⊕ ((List api_Sample))) :=
  if (decide (0 < (i64 ((x2.length : Int) + (y2.length : Int))))) = true then
  (gd (((decide ((y2.length : Int) = 0)) == false) && ((decide (0 < (x2.length : Int))) == true)) (api_Sample.mk 0 0 0) (idx x2 0)).bind fun x3 =>
  (gd (((decide ((y2.length : Int) = 0)) == false) && ((decide (0 < (x2.length : Int))) == true)) (api_Sample.mk 0 0 0) (idx y2 0)).bind fun x4 =>
  if ((decide ((y2.length : Int) = 0)) || ((decide (0 < (x2.length : Int))) && (decide (x3.At < x4.At)))) = true then
  (idx x2 0).bind fun x5 =>
  (slc x2 1 (x2.length : Int)).bind fun l =>
  (app Samples2 ([x5] : List api_Sample)).bind fun l2 =>
  some (.inl (l2, l, y2))
  else
  (gd ((decide ((x2.length : Int) = 0)) == false) (api_Sample.mk 0 0 0) (idx y2 0)).bind fun x6 =>
  (gd ((decide ((x2.length : Int) = 0)) == false) (api_Sample.mk 0 0 0) (idx x2 0)).bind fun x7 =>
  if ((decide ((x2.length : Int) = 0)) || (decide (x6.At < x7.At))) = true then
  (idx y2 0).bind fun x8 =>
  (slc y2 1 (y2.length : Int)).bind fun l3 =>
  (app Samples2 ([x8] : List api_Sample)).bind fun l4 =>
  some (.inl (l4, x2, l3))
  else
  (idx x2 0).bind fun x9 =>
  (idx y2 0).bind fun x10 =>
  (series_both x9 x10).bind fun y3 =>
  (slc x2 1 (x2.length : Int)).bind fun l5 =>
  (slc y2 1 (y2.length : Int)).bind fun l6 =>
  (app Samples2 ([y3] : List api_Sample)).bind fun l7 =>
  some (.inl (l7, l5, l6))
  else
  some (.inr Samples2)

noncomputable def series_Join (a : api_Series) (b : api_Series) : Option (api_Series × Int) :=
  ((loop (t1 (series_Join_L1 a b)) 0) : Option ((api_Series × Int) ⊕ (Unit))).bind (Sum.elim (fun v => some v) (t0 (if (!decide (a.Den = b.Den)) = true then
  some ((api_Series.mk 0 []), 2)
  else
  ((loop (t3 (series_Join_L2)) ([], a.Samples, b.Samples)) : Option (((List api_Sample)))).bind (t1 fun (Samples : List api_Sample) =>
  if (decide (20000 < (Samples.length : Int))) = true then
  some ((api_Series.mk 0 []), 3)
  else
  some ((api_Series.mk a.Den Samples), 0)))))

noncomputable def ref5_pairFault (a : api_Series) (b : api_Series) : Option Int :=
  (ref5_Check a).bind fun y =>
  if (!decide (y = 0)) = true then
  some y
  else
  (ref5_Check b).bind fun y2 =>
  if (!decide (y2 = 0)) = true then
  some y2
  else
  if (!decide (a.Den = b.Den)) = true then
  some 2
  else
  some 0

noncomputable def ref5_both (a : api_Sample) (b : api_Sample) : Option api_Sample :=
  if (decide (b.Mark < a.Mark)) = true then
  some a
  else
  if (decide (a.Mark < b.Mark)) = true then
  some b
  else
  if (!decide (a.N = b.N)) = true then
  some (api_Sample.mk a.At 0 1)
  else
  some a

noncomputable def ref5_Join_L1 (a : api_Series) (b : api_Series) (Samples2 : List api_Sample) (i : Int) (k : Int) : Option (((List api_Sample) × Int × Int) ⊕ ((List api_Sample))) :=
  if ((decide (i < (a.Samples.length : Int))) || (decide (k < (b.Samples.length : Int)))) = true then
  (gd (((decide (k = (b.Samples.length : Int))) == false) && ((decide (i < (a.Samples.length : Int))) == true)) (api_Sample.mk 0 0 0) (idx a.Samples i)).bind fun x =>
  (gd (((decide (k = (b.Samples.length : Int))) == false) && ((decide (i < (a.Samples.length : Int))) == true)) (api_Sample.mk 0 0 0) (idx b.Samples k)).bind fun x2 =>
  if ((decide (k = (b.Samples.length : Int))) || ((decide (i < (a.Samples.length : Int))) && (decide (x.At < x2.At)))) = true then
  (idx a.Samples i).bind fun x3 =>
  (app Samples2 ([x3] : List api_Sample)).bind fun l =>
  some (.inl (l, (i64 (i + 1)), k))
  else
  (gd ((decide (i = (a.Samples.length : Int))) == false) (api_Sample.mk 0 0 0) (idx b.Samples k)).bind fun x4 =>
  (gd ((decide (i = (a.Samples.length : Int))) == false) (api_Sample.mk 0 0 0) (idx a.Samples i)).bind fun x5 =>
  if ((decide (i = (a.Samples.length : Int))) || (decide (x4.At < x5.At))) = true then
  (idx b.Samples k).bind fun x6 =>
  (app Samples2 ([x6] : List api_Sample)).bind fun l2 =>
  some (.inl (l2, i, (i64 (k + 1))))
  else
  (idx a.Samples i).bind fun x7 =>
  (idx b.Samples k).bind fun x8 =>
  (ref5_both x7 x8).bind fun y2 =>
  (app Samples2 ([y2] : List api_Sample)).bind fun l3 =>
  some (.inl (l3, (i64 (i + 1)), (i64 (k + 1))))
  else
  some (.inr Samples2)

noncomputable def ref5_Join (a : api_Series) (b : api_Series) : Option (api_Series × Int) :=
  (ref5_pairFault a b).bind fun y =>
  if (!decide (y = 0)) = true then
  some ((api_Series.mk 0 []), y)
  else
  ((loop (t3 (ref5_Join_L1 a b)) ([], 0, 0)) : Option (((List api_Sample)))).bind (t1 fun (Samples : List api_Sample) =>
  if (decide (20000 < (Samples.length : Int))) = true then
  some ((api_Series.mk 0 []), 3)
  else
  some ((api_Series.mk a.Den Samples), 0))

noncomputable def law5_SeriesJoinMatchesSpec (a : api_Series) (b : api_Series) : Option Bool :=
  (series_Join a b).bind fun y =>
  (law5_told y.1 y.2).bind fun y2 =>
  (ref5_Join a b).bind fun y3 =>
  (law5_told y3.1 y3.2).bind fun y4 =>
  if (!decide (y2 = y4)) = true then
  some false
  else
  if (decide (y.2 = 0)) = true then
  (series_Join b a).bind fun y5 =>
  (law5_told y5.1 y5.2).bind fun y6 =>
  (law5_told y.1 0).bind fun y7 =>
  if (!decide (y6 = y7)) = true then
  some false
  else
  (law5_holds).bind fun y8 =>
  some y8
  else
  (law5_holds).bind fun y9 =>
  some y9

noncomputable def series_Spikes_L1 (s : api_Series) (most : Int) (y3 : (List Int)) (out2 : List Int) (i : Int) : Option (((List Int) × Int) ⊕ ((List Int))) :=
  if (decide ((i64 (i + 3)) ≤ (y3.length : Int))) = true then
  (slc y3 i (i64 (i + 3))).bind fun l =>
  (tov 3 l).bind fun v =>
  (vidx v 0).bind fun x =>
  (idx s.Samples x).bind fun x2 =>
  (vidx v 1).bind fun x3 =>
  (idx s.Samples x3).bind fun x4 =>
  (vidx v 2).bind fun x5 =>
  (idx s.Samples x5).bind fun x6 =>
  (gd ((((decide (most < (i64 (x4.N - x2.N)))) && (decide (most < (i64 (x4.N - x6.N))))) || ((decide (most < (i64 (x2.N - x4.N)))) && (decide (most < (i64 (x6.N - x4.N)))))) == true) 0 (series_size (i64 (x2.N - x6.N)))).bind fun y4 =>
  if ((((decide (most < (i64 (x4.N - x2.N)))) && (decide (most < (i64 (x4.N - x6.N))))) || ((decide (most < (i64 (x2.N - x4.N)))) && (decide (most < (i64 (x6.N - x4.N)))))) && (decide (y4 ≤ most))) = true then
  (vidx v 1).bind fun x7 =>
  (app out2 ([x7] : List Int)).bind fun l2 =>
  some (.inl (l2, (i64 (i + 1))))
  else
  some (.inl (out2, (i64 (i + 1))))
  else
  some (.inr out2)

noncomputable def series_Spikes (s : api_Series) (most : Int) : Option ((List Int) × Int) :=
  (series_Check s).bind fun y =>
  if (!decide (y = 0)) = true then
  some ([], y)
  else
  (series_within most 0 1125899906842624).bind fun y2 =>
  if (!y2) = true then
  some ([], 9)
  else
  (series_solids s).bind fun y3 =>
  ((loop (t2 (series_Spikes_L1 s most y3)) ([], 0)) : Option (((List Int)))).bind (t1 fun (out : List Int) =>
  some (out, 0))

noncomputable def law5_ints (l : List Int) (e : Int) : Option Str :=
  (ref0_Ink_Ints (ref0_Ink.mk []) l).bind fun y =>
  (ref0_Ink_Errno y e).bind fun y2 =>
  (ref0_Ink_Told y2).bind fun y3 =>
  some y3

noncomputable def ref5_Spikes_L1 (s : api_Series) (most : Int) (y3 : (List Int)) (out2 : List Int) (i : Int) : Option (((List Int) × Int) ⊕ ((List Int))) :=
  if (decide ((i64 (i + 1)) < (y3.length : Int))) = true then
  (idx y3 (i64 (i - 1))).bind fun x =>
  (idx s.Samples x).bind fun x2 =>
  (idx y3 i).bind fun x3 =>
  (idx s.Samples x3).bind fun x4 =>
  (idx y3 (i64 (i + 1))).bind fun x5 =>
  (idx s.Samples x5).bind fun x6 =>
  (gd ((((decide (most < (i64 (x4.N - x2.N)))) && (decide (most < (i64 (x4.N - x6.N))))) || ((decide (most < (i64 (x2.N - x4.N)))) && (decide (most < (i64 (x6.N - x4.N)))))) == true) 0 (ref5_apart x2.N x6.N)).bind fun y4 =>
  if ((((decide (most < (i64 (x4.N - x2.N)))) && (decide (most < (i64 (x4.N - x6.N))))) || ((decide (most < (i64 (x2.N - x4.N)))) && (decide (most < (i64 (x6.N - x4.N)))))) && (decide (y4 ≤ most))) = true then
  (idx y3 i).bind fun x7 =>
  (app out2 ([x7] : List Int)).bind fun l =>
  some (.inl (l, (i64 (i + 1))))
  else
  some (.inl (out2, (i64 (i + 1))))
  else
  some (.inr out2)

noncomputable def ref5_Spikes (s : api_Series) (most : Int) : Option ((List Int) × Int) :=
  (ref5_Check s).bind fun y =>
  if (!decide (y = 0)) = true then
  some ([], y)
  else
  (ref5_outside most 0 1125899906842624).bind fun y2 =>
  if y2 = true then
  some ([], 9)
  else
  (ref5_Solids s).bind fun y3 =>
  ((loop (t2 (ref5_Spikes_L1 s most y3)) ([], 1)) : Option (((List Int)))).bind (t1 fun (out : List Int) =>
  some (out, 0))

noncomputable def series_Doubt_L1 (s : api_Series) (l : List Int) (i : Int) : Option ((Int) ⊕ (api_Series × Int) ⊕ (Unit)) :=
  if (decide (i < (l.length : Int))) = true then
  (idx l i).bind fun x =>
  (series_within x 0 (i64 ((s.Samples.length : Int) - 1))).bind fun y2 =>
  if (!y2) = true then
  some (.inr (.inl ((api_Series.mk 0 []), 9)))
  else
  some (.inl (i64 (i + 1)))
  else
  some (.inr (.inr ()))

noncomputable def series_Doubt_L2 (l : List Int) (k : Int) : Option ((Int) ⊕ (api_Series × Int) ⊕ (Unit)) :=
  if (decide (k < (l.length : Int))) = true then
  (idx l k).bind fun x2 =>
  (idx l (i64 (k - 1))).bind fun x3 =>
  if (decide (x2 ≤ x3)) = true then
  some (.inr (.inl ((api_Series.mk 0 []), 10)))
  else
  some (.inl (i64 (k + 1)))
  else
  some (.inr (.inr ()))

noncomputable def series_Doubt_L3 (l : List Int) (Samples2 : List api_Sample) (i2 : Int) : Option (((List api_Sample) × Int) ⊕ ((List api_Sample))) :=
  if (decide (i2 < (l.length : Int))) = true then
  (idx l i2).bind fun x4 =>
  (idx Samples2 x4).bind fun x5 =>
  (series_solid x5).bind fun y4 =>
  if y4 = true then
  (idx Samples2 x4).bind fun x6 =>
  some (.inl ((Samples2.set x4.toNat (api_Sample.mk x6.At x6.N 2)), (i64 (i2 + 1))))
  else
  some (.inl (Samples2, (i64 (i2 + 1))))
  else
  some (.inr Samples2)

noncomputable def series_Doubt (s : api_Series) (l : List Int) : Option (api_Series × Int) :=
  (series_Check s).bind fun y =>
  if (!decide (y = 0)) = true then
  some ((api_Series.mk 0 []), y)
  else
  ((loop (t1 (series_Doubt_L1 s l)) 0) : Option ((api_Series × Int) ⊕ (Unit))).bind (Sum.elim (fun v => some v) (t0 (((loop (t1 (series_Doubt_L2 l)) 1) : Option ((api_Series × Int) ⊕ (Unit))).bind (Sum.elim (fun v => some v) (t0 ((clone s.Samples).bind fun y3 =>
  ((loop (t2 (series_Doubt_L3 l)) (y3, 0)) : Option (((List api_Sample)))).bind (t1 fun (Samples : List api_Sample) =>
  some ((api_Series.mk s.Den Samples), 0))))))))

noncomputable def ref5_Doubt_L1 (s : api_Series) (l : List Int) (i : Int) : Option ((Int) ⊕ (api_Series × Int) ⊕ (Unit)) :=
  if (decide (i < (l.length : Int))) = true then
  (idx l i).bind fun x =>
  (ref5_outside x 0 (i64 ((s.Samples.length : Int) - 1))).bind fun y2 =>
  if y2 = true then
  some (.inr (.inl ((api_Series.mk 0 []), 9)))
  else
  some (.inl (i64 (i + 1)))
  else
  some (.inr (.inr ()))

noncomputable def ref5_Doubt_L2 (l : List Int) (i2 : Int) : Option ((Int) ⊕ (api_Series × Int) ⊕ (Unit)) :=
  if (decide (i2 < (l.length : Int))) = true then
  (idx l i2).bind fun x2 =>
  (idx l (i64 (i2 - 1))).bind fun x3 =>
  if (decide (x2 ≤ x3)) = true then
  some (.inr (.inl ((api_Series.mk 0 []), 10)))
  else
  some (.inl (i64 (i2 + 1)))
  else
  some (.inr (.inr ()))

noncomputable def ref5_Doubt_L3 (l : List Int) (Samples2 : List api_Sample) (i3 : Int) : Option (((List api_Sample) × Int) ⊕ ((List api_Sample))) :=
  if (decide (i3 < (l.length : Int))) = true then
  (idx l i3).bind fun x4 =>
  (idx Samples2 x4).bind fun x5 =>
  (ref5_solid x5.Mark).bind fun y3 =>
  if y3 = true then
  (idx l i3).bind fun x6 =>
  (idx Samples2 x6).bind fun x7 =>
  some (.inl ((Samples2.set x6.toNat (api_Sample.mk x7.At x7.N 2)), (i64 (i3 + 1))))
  else
  some (.inl (Samples2, (i64 (i3 + 1))))
  else
  some (.inr Samples2)

noncomputable def ref5_Doubt (s : api_Series) (l : List Int) : Option (api_Series × Int) :=
  (ref5_Check s).bind fun y =>
  if (!decide (y = 0)) = true then
  some ((api_Series.mk 0 []), y)
  else
  (app [] s.Samples).bind fun l2 =>
  ((loop (t1 (ref5_Doubt_L1 s l)) 0) : Option ((api_Series × Int) ⊕ (Unit))).bind (Sum.elim (fun v => some v) (t0 (((loop (t1 (ref5_Doubt_L2 l)) 1) : Option ((api_Series × Int) ⊕ (Unit))).bind (Sum.elim (fun v => some v) (t0 (((loop (t2 (ref5_Doubt_L3 l)) (l2, 0)) : Option (((List api_Sample)))).bind (t1 fun (Samples : List api_Sample) =>
  some ((api_Series.mk s.Den Samples), 0))))))))

noncomputable def law5_SeriesSpikesMatchSpec (s : api_Series) (most : Int) (l : List Int) : Option Bool :=
  (series_Spikes s most).bind fun y =>
  (law5_ints y.1 y.2).bind fun y2 =>
  (ref5_Spikes s most).bind fun y3 =>
  (law5_ints y3.1 y3.2).bind fun y4 =>
  (gd ((!decide (y2 = y4)) == false) ((api_Series.mk 0 []), 0) (series_Doubt s l)).bind fun y5 =>
  (gd ((!decide (y2 = y4)) == false) [] (law5_told y5.1 y5.2)).bind fun y6 =>
  (gd ((!decide (y2 = y4)) == false) ((api_Series.mk 0 []), 0) (ref5_Doubt s l)).bind fun y7 =>
  (gd ((!decide (y2 = y4)) == false) [] (law5_told y7.1 y7.2)).bind fun y8 =>
  if ((!decide (y2 = y4)) || (!decide (y6 = y8))) = true then
  some false
  else
  if (decide (y.2 = 0)) = true then
  (series_Doubt s y.1).bind fun y9 =>
  (gd ((!decide (y9.2 = 0)) == false) [] (law5_told y9.1 y9.2)).bind fun y10 =>
  (gd ((!decide (y9.2 = 0)) == false) ((api_Series.mk 0 []), 0) (ref5_Doubt s y.1)).bind fun y11 =>
  (gd ((!decide (y9.2 = 0)) == false) [] (law5_told y11.1 y11.2)).bind fun y12 =>
  if ((!decide (y9.2 = 0)) || (!decide (y10 = y12))) = true then
  some false
  else
  (law5_holds).bind fun y13 =>
  some y13
  else
  (law5_holds).bind fun y14 =>
  some y14

noncomputable def series_Calibrate_L1 (c_ : api_Calibration) (y3 : List api_Sample) (Samples2 : List api_Sample) (i : Int) : Option (((List api_Sample) × Int) ⊕ ((List api_Sample))) :=
  if (decide (i < (y3.length : Int))) = true then
  (idx Samples2 i).bind fun x =>
  if (decide (x.Mark < 2)) = true then
  some (.inl (Samples2, (i64 (i + 1))))
  else
  (series_apply c_ x.N).bind fun y4 =>
  ((if (!y4.2) = true then
  some (1, 0)
  else
  some (x.Mark, y4.1)) : Option ((Int × Int))).bind (t2 fun (Mark : Int) (n : Int) =>
  (idx Samples2 i).bind fun x2 =>
  some (.inl ((Samples2.set i.toNat (api_Sample.mk x.At n Mark)), (i64 (i + 1)))))
  else
  some (.inr Samples2)

noncomputable def series_Calibrate (s : api_Series) (c_ : api_Calibration) : Option (api_Series × Int) :=
  (series_Check s).bind fun y =>
  if (!decide (y = 0)) = true then
  some ((api_Series.mk 0 []), y)
  else
  (series_CheckCalibration c_).bind fun y2 =>
  if (!decide (y2 = 0)) = true then
  some ((api_Series.mk 0 []), y2)
  else
  if (!decide (s.Den = 1)) = true then
  some ((api_Series.mk 0 []), 2)
  else
  (clone s.Samples).bind fun y3 =>
  ((loop (t2 (series_Calibrate_L1 c_ y3)) (y3, 0)) : Option (((List api_Sample)))).bind (t1 fun (Samples : List api_Sample) =>
  some ((api_Series.mk c_.Den Samples), 0))

noncomputable def ref5_Meant_L1 (s : api_Series) (c_ : api_Calibration) (Samples2 : List api_Sample) (i : Int) : Option (((List api_Sample) × Int) ⊕ ((List api_Sample))) :=
  if (decide (i < (s.Samples.length : Int))) = true then
  (idx s.Samples i).bind fun x =>
  (((ref5_numbered x.Mark).bind fun y =>
  if y = true then
  (ref5_apply c_ x.N).bind fun y2 =>
  if (!y2.2) = true then
  some (api_Sample.mk x.At y2.1 1)
  else
  some (api_Sample.mk x.At y2.1 x.Mark)
  else
  some x) : Option ((api_Sample))).bind (t1 fun (x2 : api_Sample) =>
  (app Samples2 ([x2] : List api_Sample)).bind fun l =>
  some (.inl (l, (i64 (i + 1)))))
  else
  some (.inr Samples2)

noncomputable def ref5_Meant (s : api_Series) (c_ : api_Calibration) : Option api_Series :=
  ((loop (t2 (ref5_Meant_L1 s c_)) ([], 0)) : Option (((List api_Sample)))).bind (t1 fun (Samples : List api_Sample) =>
  some (api_Series.mk c_.Den Samples))

noncomputable def ref5_Calibrate (s : api_Series) (c_ : api_Calibration) : Option (api_Series × Int) :=
  (ref5_Check s).bind fun y =>
  if (!decide (y = 0)) = true then
  some ((api_Series.mk 0 []), y)
  else
  (ref5_CheckCalibration c_).bind fun y2 =>
  if (!decide (y2 = 0)) = true then
  some ((api_Series.mk 0 []), y2)
  else
  if (!decide (s.Den = 1)) = true then
  some ((api_Series.mk 0 []), 2)
  else
  (ref5_Meant s c_).bind fun y3 =>
  some (y3, 0)

noncomputable def law5_SeriesCalibrateMatchesSpec (s : api_Series) (c_ : api_Calibration) : Option Bool :=
  (series_Calibrate s c_).bind fun y =>
  (law5_told y.1 y.2).bind fun y2 =>
  (ref5_Calibrate s c_).bind fun y3 =>
  (law5_told y3.1 y3.2).bind fun y4 =>
  (gd ((decide (y2 = y4)) == true) false law5_holds).bind fun y5 =>
  some ((decide (y2 = y4)) && y5)

noncomputable def series_combined (op : Int) (a : Int) (b : Int) : Option Int :=
  if (decide (op = 1)) = true then
  some (i64 (a + b))
  else
  if (decide (op = 2)) = true then
  some (i64 (a - b))
  else
  if (decide (op = 3)) = true then
  some (min a b)
  else
  if (decide (op = 4)) = true then
  some (max a b)
  else
  (series_size (i64 (a - b))).bind fun y =>
  some y

noncomputable def series_Combine_L1 (a : api_Series) (b : api_Series) (i : Int) : Option ((Int) ⊕ (api_Series × Int) ⊕ (Unit)) :=
  if (decide (i < (([a, b] : List api_Series).length : Int))) = true then
  (idx ([a, b] : List api_Series) i).bind fun x =>
  (series_Check x).bind fun y =>
  if (!decide (y = 0)) = true then
  some (.inr (.inl ((api_Series.mk 0 []), y)))
  else
  some (.inl (i64 (i + 1)))
  else
  some (.inr (.inr ()))

noncomputable def series_Combine_L2 (a : api_Series) (b : api_Series) (op : Int) (long : Int) (Samples2 : List api_Sample) (i2 : Int) : Option (((List api_Sample) × Int) ⊕ (api_Series × Int) ⊕ ((List api_Sample))) :=
  if (decide (i2 < (a.Samples.length : Int))) = true then
  (idx a.Samples i2).bind fun x2 =>
  (series_hold b x2.At long).bind fun y4 =>
  (((series_solid x2).bind fun y5 =>
  if (y5 && y4.2) = true then
  (series_combined op x2.N y4.1.N).bind fun y6 =>
  some (api_Sample.mk x2.At y6 (min x2.Mark y4.1.Mark))
  else
  some (api_Sample.mk x2.At 0 0)) : Option ((api_Sample))).bind (t1 fun (z : api_Sample) =>
  (series_within z.N (-1125899906842624) 1125899906842624).bind fun y7 =>
  if (!y7) = true then
  some (.inr (.inl ((api_Series.mk 0 []), 9)))
  else
  (app Samples2 ([z] : List api_Sample)).bind fun l =>
  some (.inl (l, (i64 (i2 + 1)))))
  else
  some (.inr (.inr Samples2))

noncomputable def series_Combine (a : api_Series) (b : api_Series) (op : Int) (long : Int) : Option (api_Series × Int) :=
  ((loop (t1 (series_Combine_L1 a b)) 0) : Option ((api_Series × Int) ⊕ (Unit))).bind (Sum.elim (fun v => some v) (t0 (if (!decide (a.Den = b.Den)) = true then
  some ((api_Series.mk 0 []), 2)
  else
  (series_within op 1 5).bind fun y2 =>
  if (!y2) = true then
  some ((api_Series.mk 0 []), 7)
  else
  (series_within long 0 1099511627776).bind fun y3 =>
  if (!y3) = true then
  some ((api_Series.mk 0 []), 9)
  else
  ((loop (t2 (series_Combine_L2 a b op long)) ([], 0)) : Option ((api_Series × Int) ⊕ ((List api_Sample)))).bind (Sum.elim (fun v => some v) (t1 fun (Samples : List api_Sample) =>
  some ((api_Series.mk a.Den Samples), 0))))))

noncomputable def ref5_combined (op : Int) (a : Int) (b : Int) : Option Int :=
  if (decide (op = 1)) = true then
  some (i64 (a + b))
  else
  if (decide (op = 2)) = true then
  some (i64 (a - b))
  else
  if (decide (op = 3)) = true then
  some (min a b)
  else
  if (decide (op = 4)) = true then
  some (max a b)
  else
  (ref5_apart a b).bind fun y =>
  some y

noncomputable def ref5_Combine_L1 (a : api_Series) (b : api_Series) (op : Int) (long : Int) (Samples2 : List api_Sample) (i : Int) : Option (((List api_Sample) × Int) ⊕ (api_Series × Int) ⊕ ((List api_Sample))) :=
  if (decide (i < (a.Samples.length : Int))) = true then
  (idx a.Samples i).bind fun x =>
  (ref5_Held b x.At long).bind fun y4 =>
  (((ref5_solid x.Mark).bind fun y5 =>
  if (y5 && y4.2) = true then
  (ref5_combined op x.N y4.1.N).bind fun y6 =>
  some (api_Sample.mk x.At y6 (min x.Mark y4.1.Mark))
  else
  some (api_Sample.mk x.At 0 0)) : Option ((api_Sample))).bind (t1 fun (z : api_Sample) =>
  (ref5_outside z.N (-1125899906842624) 1125899906842624).bind fun y7 =>
  if y7 = true then
  some (.inr (.inl ((api_Series.mk 0 []), 9)))
  else
  (app Samples2 ([z] : List api_Sample)).bind fun l =>
  some (.inl (l, (i64 (i + 1)))))
  else
  some (.inr (.inr Samples2))

noncomputable def ref5_Combine (a : api_Series) (b : api_Series) (op : Int) (long : Int) : Option (api_Series × Int) :=
  (ref5_pairFault a b).bind fun y =>
  if (!decide (y = 0)) = true then
  some ((api_Series.mk 0 []), y)
  else
  (ref5_outside op 1 5).bind fun y2 =>
  if y2 = true then
  some ((api_Series.mk 0 []), 7)
  else
  (ref5_outside long 0 1099511627776).bind fun y3 =>
  if y3 = true then
  some ((api_Series.mk 0 []), 9)
  else
  ((loop (t2 (ref5_Combine_L1 a b op long)) ([], 0)) : Option ((api_Series × Int) ⊕ ((List api_Sample)))).bind (Sum.elim (fun v => some v) (t1 fun (Samples : List api_Sample) =>
  some ((api_Series.mk a.Den Samples), 0)))

noncomputable def series_steeper (a : Int) (b : Int) (c_ : Int) (d : Int) : Option Bool :=
  (series_wide_addProduct (series_wide.mk 0 0) a d).bind fun y =>
  (series_wide_addProduct (series_wide.mk 0 0) c_ b).bind fun y2 =>
  (series_wide_less y2 y).bind fun y3 =>
  some y3

noncomputable def series_Steepest_L1 (s : api_Series) (long : Int) (y3 : (List Int)) (best2 : Int) (num2 : Int) (den2 : Int) (i : Int) : Option ((Int × Int × Int × Int) ⊕ (Int × Int × Int)) :=
  if (decide (i < (y3.length : Int))) = true then
  (((idx y3 (i64 (i - 1))).bind fun x =>
  (idx s.Samples x).bind fun x2 =>
  (idx y3 i).bind fun x3 =>
  (idx s.Samples x3).bind fun x4 =>
  (series_size (i64 (x4.N - x2.N))).bind fun y4 =>
  (gd (((decide ((i64 (x4.At - x2.At)) ≤ long)) == true) && ((decide (best2 < 0)) == false)) false (series_steeper y4 (i64 (x4.At - x2.At)) num2 den2)).bind fun y5 =>
  if ((decide ((i64 (x4.At - x2.At)) ≤ long)) && ((decide (best2 < 0)) || y5)) = true then
  (idx y3 i).bind fun x5 =>
  some (x5, y4, (i64 (x4.At - x2.At)))
  else
  some (best2, num2, den2)) : Option ((Int × Int × Int))).bind (t3 fun (best3 : Int) (num3 : Int) (den3 : Int) =>
  some (.inl (best3, num3, den3, (i64 (i + 1)))))
  else
  some (.inr (best2, num2, den2))

noncomputable def series_Steepest (s : api_Series) (long : Int) : Option (api_Ratio × Int × Int) :=
  (series_Check s).bind fun y =>
  if (!decide (y = 0)) = true then
  some ((api_Ratio.mk 0 0), 0, y)
  else
  (series_within long 0 1099511627776).bind fun y2 =>
  if (!y2) = true then
  some ((api_Ratio.mk 0 0), 0, 9)
  else
  (series_solids s).bind fun y3 =>
  ((loop (t4 (series_Steepest_L1 s long y3)) ((-1), 0, 1, 1)) : Option ((Int × Int × Int))).bind (t3 fun (best : Int) (num : Int) (den : Int) =>
  if (decide (best < 0)) = true then
  some ((api_Ratio.mk 0 0), 0, 13)
  else
  (series_ratio num den).bind fun y6 =>
  some (y6, best, 0))

noncomputable def ref5_steeper (a : Int) (b : Int) (c_ : Int) (d : Int) : Option Bool :=
  (ref5_product a d).bind fun y =>
  (ref5_product c_ b).bind fun y2 =>
  some ((decide (y2.high < y.high)) || ((decide (y.high = y2.high)) && (decide (y2.low < y.low))))

noncomputable def ref5_Steepest_L1 (s : api_Series) (long : Int) (y3 : (List Int)) (num2 : Int) (den2 : Int) (at_2 : Int) (i : Int) : Option ((Int × Int × Int × Int) ⊕ (Int × Int × Int)) :=
  if (decide (i < (y3.length : Int))) = true then
  (((idx y3 (i64 (i - 1))).bind fun x =>
  (idx s.Samples x).bind fun x2 =>
  (idx y3 i).bind fun x3 =>
  (idx s.Samples x3).bind fun x4 =>
  if (decide (long < (i64 (x4.At - x2.At)))) = true then
  some (num2, den2, at_2)
  else
  (gd ((decide (den2 = 0)) == false) 0 (ref5_apart x4.N x2.N)).bind fun y4 =>
  (gd ((decide (den2 = 0)) == false) false (ref5_steeper y4 (i64 (x4.At - x2.At)) num2 den2)).bind fun y5 =>
  if ((decide (den2 = 0)) || y5) = true then
  (ref5_apart x4.N x2.N).bind fun y6 =>
  (idx y3 i).bind fun x5 =>
  some (y6, (i64 (x4.At - x2.At)), x5)
  else
  some (num2, den2, at_2)) : Option ((Int × Int × Int))).bind (t3 fun (num3 : Int) (den3 : Int) (at_3 : Int) =>
  some (.inl (num3, den3, at_3, (i64 (i + 1)))))
  else
  some (.inr (num2, den2, at_2))

noncomputable def ref5_Steepest (s : api_Series) (long : Int) : Option (api_Ratio × Int × Int) :=
  (ref5_Check s).bind fun y =>
  if (!decide (y = 0)) = true then
  some ((api_Ratio.mk 0 0), 0, y)
  else
  (ref5_outside long 0 1099511627776).bind fun y2 =>
  if y2 = true then
  some ((api_Ratio.mk 0 0), 0, 9)
  else
  (ref5_Solids s).bind fun y3 =>
  ((loop (t4 (ref5_Steepest_L1 s long y3)) (0, 0, 0, 1)) : Option ((Int × Int × Int))).bind (t3 fun (num : Int) (den : Int) (at_ : Int) =>
  if (decide (den = 0)) = true then
  some ((api_Ratio.mk 0 0), 0, 13)
  else
  (ref5_gcd den num).bind fun y7 =>
  (quo .i64 num y7).bind fun q =>
  (quo .i64 den y7).bind fun q2 =>
  some ((api_Ratio.mk q q2), at_, 0))

noncomputable def law5_SeriesCombineMatchesSpec (a : api_Series) (b : api_Series) (op : Int) (long : Int) : Option Bool :=
  (series_Combine a b op long).bind fun y =>
  (law5_told y.1 y.2).bind fun y2 =>
  (ref5_Combine a b op long).bind fun y3 =>
  (law5_told y3.1 y3.2).bind fun y4 =>
  if (!decide (y2 = y4)) = true then
  some false
  else
  (series_Steepest a long).bind fun y5 =>
  (ref5_Steepest a long).bind fun y6 =>
  (gd ((((decide (y5.1.Num = y6.1.Num) && (decide (y5.1.Den = y6.1.Den) && true)) && (decide (y5.2.1 = y6.2.1))) && (decide (y5.2.2 = y6.2.2))) == true) false law5_holds).bind fun y7 =>
  some ((((decide (y5.1.Num = y6.1.Num) && (decide (y5.1.Den = y6.1.Den) && true)) && (decide (y5.2.1 = y6.2.1))) && (decide (y5.2.2 = y6.2.2))) && y7)

noncomputable def series_sorted_int (l : List Int) : Option (List Int) :=
  (clone l).bind fun y =>
  (sortI y).bind fun y2 =>
  some y2

noncomputable def series_Median_L2 (s : api_Series) (l : List Int) (near2 : List Int) (i2 : Int) : Option (((List Int) × Int) ⊕ ((List Int))) :=
  if (decide (i2 < (l.length : Int))) = true then
  (idx l i2).bind fun x2 =>
  (idx s.Samples x2).bind fun x3 =>
  (app near2 ([x3.N] : List Int)).bind fun l2 =>
  some (.inl (l2, (i64 (i2 + 1))))
  else
  some (.inr near2)

noncomputable def series_Median_L1 (s : api_Series) (width : Int) (y4 : (List Int)) (Samples2 : List api_Sample) (i : Int) : Option (((List api_Sample) × Int) ⊕ ((List api_Sample))) :=
  if (decide (i < (y4.length : Int))) = true then
  (idx y4 i).bind fun x =>
  (((quo .i64 width 2).bind fun q2 =>
  (quo .i64 width 2).bind fun q3 =>
  (slc y4 (max 0 (i64 (i - q2))) (min (y4.length : Int) (i64 ((i64 (i + q3)) + 1)))).bind fun l =>
  loop (t2 (series_Median_L2 s l)) ([], 0)) : Option (((List Int)))).bind (t1 fun (near : List Int) =>
  (series_sorted_int near).bind fun y5 =>
  (quo .i64 (i64 ((near.length : Int) - 1)) 2).bind fun q4 =>
  (idx y5 q4).bind fun x4 =>
  (idx Samples2 x).bind fun x5 =>
  some (.inl ((Samples2.set x.toNat (api_Sample.mk x5.At x4 x5.Mark)), (i64 (i + 1)))))
  else
  some (.inr Samples2)

noncomputable def series_Median (s : api_Series) (width : Int) : Option (api_Series × Int) :=
  (series_Check s).bind fun y =>
  if (!decide (y = 0)) = true then
  some ((api_Series.mk 0 []), y)
  else
  (series_within width 1 101).bind fun y2 =>
  (gd ((!y2) == false) 0 (rem width 2)).bind fun q =>
  if ((!y2) || (decide (q = 0))) = true then
  some ((api_Series.mk 0 []), 1)
  else
  (clone s.Samples).bind fun y3 =>
  (series_solids s).bind fun y4 =>
  ((loop (t2 (series_Median_L1 s width y4)) (y3, 0)) : Option (((List api_Sample)))).bind (t1 fun (Samples : List api_Sample) =>
  some ((api_Series.mk s.Den Samples), 0))

noncomputable def ref5_Sorted_L2 (out4 : List Int) (k : Int) : Option (((List Int) × Int) ⊕ ((List Int))) :=
  (gd ((decide (0 < k)) == true) 0 (idx out4 k)).bind fun x =>
  (gd ((decide (0 < k)) == true) 0 (idx out4 (i64 (k - 1)))).bind fun x2 =>
  if ((decide (0 < k)) && (decide (x < x2))) = true then
  (idx out4 (i64 (k - 1))).bind fun x3 =>
  (idx out4 k).bind fun x4 =>
  (idx out4 k).bind fun x5 =>
  (idx (out4.set k.toNat x3) (i64 (k - 1))).bind fun x6 =>
  some (.inl (((out4.set k.toNat x3).set (i64 (k - 1)).toNat x4), (i64 (k - 1))))
  else
  some (.inr out4)

noncomputable def ref5_Sorted_L1 (out2 : List Int) (i : Int) : Option (((List Int) × Int) ⊕ ((List Int))) :=
  if (decide (i < (out2.length : Int))) = true then
  ((loop (t2 (ref5_Sorted_L2)) (out2, i)) : Option (((List Int)))).bind (t1 fun (out3 : List Int) =>
  some (.inl (out3, (i64 (i + 1)))))
  else
  some (.inr out2)

noncomputable def ref5_Sorted (l : List Int) : Option (List Int) :=
  (app [] l).bind fun l2 =>
  ((loop (t2 (ref5_Sorted_L1)) (l2, 1)) : Option (((List Int)))).bind (t1 fun (out : List Int) =>
  some out)

noncomputable def ref5_Median_L2 (s : api_Series) (width : Int) (y3 : (List Int)) (i : Int) (some_2 : List Int) (k : Int) : Option (((List Int) × Int) ⊕ ((List Int))) :=
  (gd ((decide (k < (y3.length : Int))) == true) 0 (quo .i64 width 2)).bind fun q3 =>
  if ((decide (k < (y3.length : Int))) && (decide (k ≤ (i64 (i + q3))))) = true then
  (idx y3 k).bind fun x =>
  (idx s.Samples x).bind fun x2 =>
  (app some_2 ([x2.N] : List Int)).bind fun l2 =>
  some (.inl (l2, (i64 (k + 1))))
  else
  some (.inr some_2)

noncomputable def ref5_Median_L1 (s : api_Series) (width : Int) (y3 : (List Int)) (Samples2 : List api_Sample) (i : Int) : Option (((List api_Sample) × Int) ⊕ ((List api_Sample))) :=
  if (decide (i < (y3.length : Int))) = true then
  (((quo .i64 width 2).bind fun q2 =>
  loop (t2 (ref5_Median_L2 s width y3 i)) ([], (max 0 (i64 (i - q2))))) : Option (((List Int)))).bind (t1 fun (some_ : List Int) =>
  (idx y3 i).bind fun x3 =>
  (ref5_Sorted some_).bind fun y4 =>
  (quo .i64 (i64 ((some_.length : Int) - 1)) 2).bind fun q4 =>
  (idx y4 q4).bind fun x4 =>
  (idx Samples2 x3).bind fun x5 =>
  some (.inl ((Samples2.set x3.toNat (api_Sample.mk x5.At x4 x5.Mark)), (i64 (i + 1)))))
  else
  some (.inr Samples2)

noncomputable def ref5_Median (s : api_Series) (width : Int) : Option (api_Series × Int) :=
  (ref5_Check s).bind fun y =>
  if (!decide (y = 0)) = true then
  some ((api_Series.mk 0 []), y)
  else
  (ref5_outside width 1 101).bind fun y2 =>
  (gd (y2 == false) 0 (rem width 2)).bind fun q =>
  if (y2 || (decide (q = 0))) = true then
  some ((api_Series.mk 0 []), 1)
  else
  (ref5_Solids s).bind fun y3 =>
  (app [] s.Samples).bind fun l =>
  ((loop (t2 (ref5_Median_L1 s width y3)) (l, 0)) : Option (((List api_Sample)))).bind (t1 fun (Samples : List api_Sample) =>
  some ((api_Series.mk s.Den Samples), 0))

noncomputable def series_Range_L1 (s : api_Series) (y2 : (List Int)) (l2 : List Int) (i : Int) : Option (((List Int) × Int) ⊕ ((List Int))) :=
  if (decide (i < (y2.length : Int))) = true then
  (idx y2 i).bind fun x =>
  (idx s.Samples x).bind fun x2 =>
  (app l2 ([x2.N] : List Int)).bind fun l3 =>
  some (.inl (l3, (i64 (i + 1))))
  else
  some (.inr l2)

noncomputable def series_Range (s : api_Series) : Option (Int × Int × Int) :=
  (series_Check s).bind fun y =>
  if (!decide (y = 0)) = true then
  some (0, 0, y)
  else
  (((series_solids s).bind fun y2 =>
  loop (t2 (series_Range_L1 s y2)) ([], 0)) : Option (((List Int)))).bind (t1 fun (l : List Int) =>
  if (decide ((l.length : Int) = 0)) = true then
  some (0, 0, 13)
  else
  (series_sorted_int l).bind fun y3 =>
  (idx y3 0).bind fun x3 =>
  (idx y3 (i64 ((y3.length : Int) - 1))).bind fun x4 =>
  some (x3, x4, 0))

noncomputable def law5_SeriesMedianMatchesSpec (s : api_Series) (width : Int) : Option Bool :=
  (series_Median s width).bind fun y =>
  (law5_told y.1 y.2).bind fun y2 =>
  (ref5_Median s width).bind fun y3 =>
  (law5_told y3.1 y3.2).bind fun y4 =>
  if (!decide (y2 = y4)) = true then
  some false
  else
  if (decide (y.2 = 0)) = true then
  (series_Range s).bind fun y5 =>
  (series_Range y.1).bind fun y6 =>
  if ((!decide (y5.2.2 = y6.2.2)) || ((decide (y5.2.2 = 0)) && ((decide (y6.1 < y5.1)) || (decide (y5.2.1 < y6.2.1))))) = true then
  some false
  else
  (law5_holds).bind fun y7 =>
  some y7
  else
  (law5_holds).bind fun y8 =>
  some y8

noncomputable def series_Marks_L1 (s : api_Series) (out2 : Vector Int 5) (i : Int) : Option (((Vector Int 5) × Int) ⊕ ((Vector Int 5))) :=
  if (decide (i < (s.Samples.length : Int))) = true then
  (idx s.Samples i).bind fun x =>
  (vidx out2 x.Mark).bind fun x2 =>
  (vidx out2 x.Mark).bind fun x3 =>
  some (.inl ((vset out2 x.Mark (i64 (x2 + 1))), (i64 (i + 1))))
  else
  some (.inr out2)

noncomputable def series_Marks (s : api_Series) : Option ((Vector Int 5) × Int) :=
  (series_Check s).bind fun y =>
  if (!decide (y = 0)) = true then
  some ((Vector.replicate 5 0), y)
  else
  ((loop (t2 (series_Marks_L1 s)) ((Vector.replicate 5 0), 0)) : Option (((Vector Int 5)))).bind (t1 fun (out : Vector Int 5) =>
  some (out, 0))

noncomputable def ref5_Marks_L1 (s : api_Series) (out2 : Vector Int 5) (i : Int) : Option (((Vector Int 5) × Int) ⊕ ((Vector Int 5))) :=
  if (decide (i < (s.Samples.length : Int))) = true then
  (idx s.Samples i).bind fun x =>
  (vidx out2 x.Mark).bind fun x2 =>
  (vidx out2 x.Mark).bind fun x3 =>
  some (.inl ((vset out2 x.Mark (i64 (x2 + 1))), (i64 (i + 1))))
  else
  some (.inr out2)

noncomputable def ref5_Marks (s : api_Series) : Option ((Vector Int 5) × Int) :=
  (ref5_Check s).bind fun y =>
  if (!decide (y = 0)) = true then
  some ((Vector.replicate 5 0), y)
  else
  ((loop (t2 (ref5_Marks_L1 s)) ((Vector.replicate 5 0), 0)) : Option (((Vector Int 5)))).bind (t1 fun (out : Vector Int 5) =>
  some (out, 0))

noncomputable def ref5_Range_L1 (s : api_Series) (y2 : (List Int)) (low2 : Int) (high2 : Int) (i : Int) : Option ((Int × Int × Int) ⊕ (Int × Int)) :=
  if (decide (i < (y2.length : Int))) = true then
  (idx y2 i).bind fun x5 =>
  (idx s.Samples x5).bind fun x6 =>
  (idx y2 i).bind fun x7 =>
  (idx s.Samples x7).bind fun x8 =>
  some (.inl ((min low2 x6.N), (max high2 x8.N), (i64 (i + 1))))
  else
  some (.inr (low2, high2))

noncomputable def ref5_Range (s : api_Series) : Option (Int × Int × Int) :=
  (ref5_Check s).bind fun y =>
  if (!decide (y = 0)) = true then
  some (0, 0, y)
  else
  (ref5_Solids s).bind fun y2 =>
  if (decide ((y2.length : Int) = 0)) = true then
  some (0, 0, 13)
  else
  (idx y2 0).bind fun x =>
  (idx s.Samples x).bind fun x2 =>
  (idx y2 0).bind fun x3 =>
  (idx s.Samples x3).bind fun x4 =>
  ((loop (t3 (ref5_Range_L1 s y2)) (x2.N, x4.N, 0)) : Option ((Int × Int))).bind (t2 fun (low : Int) (high : Int) =>
  some (low, high, 0))

noncomputable def series_Part_L1 (s : api_Series) (from_ : Int) (to : Int) (Samples2 : List api_Sample) (i : Int) : Option (((List api_Sample) × Int) ⊕ ((List api_Sample))) :=
  if (decide (i < (s.Samples.length : Int))) = true then
  (idx s.Samples i).bind fun x =>
  (series_within x.At from_ (i64 (to - 1))).bind fun y2 =>
  if y2 = true then
  (app Samples2 ([x] : List api_Sample)).bind fun l =>
  some (.inl (l, (i64 (i + 1))))
  else
  some (.inl (Samples2, (i64 (i + 1))))
  else
  some (.inr Samples2)

noncomputable def series_Part (s : api_Series) (from_ : Int) (to : Int) : Option (api_Series × Int) :=
  (series_Check s).bind fun y =>
  if (!decide (y = 0)) = true then
  some ((api_Series.mk 0 []), y)
  else
  if (((decide (from_ < 0)) || (decide (to < from_))) || (decide (1099511627777 < to))) = true then
  some ((api_Series.mk 0 []), 9)
  else
  ((loop (t2 (series_Part_L1 s from_ to)) ([], 0)) : Option (((List api_Sample)))).bind (t1 fun (Samples : List api_Sample) =>
  some ((api_Series.mk s.Den Samples), 0))

noncomputable def ref5_Part_L1 (s : api_Series) (from_ : Int) (to : Int) (Samples2 : List api_Sample) (i : Int) : Option (((List api_Sample) × Int) ⊕ ((List api_Sample))) :=
  if (decide (i < (s.Samples.length : Int))) = true then
  (idx s.Samples i).bind fun x =>
  if ((decide (from_ ≤ x.At)) && (decide (x.At < to))) = true then
  (app Samples2 ([x] : List api_Sample)).bind fun l =>
  some (.inl (l, (i64 (i + 1))))
  else
  some (.inl (Samples2, (i64 (i + 1))))
  else
  some (.inr Samples2)

noncomputable def ref5_Part (s : api_Series) (from_ : Int) (to : Int) : Option (api_Series × Int) :=
  (ref5_Check s).bind fun y =>
  if (!decide (y = 0)) = true then
  some ((api_Series.mk 0 []), y)
  else
  if (((decide (from_ < 0)) || (decide (to < from_))) || (decide (1099511627777 < to))) = true then
  some ((api_Series.mk 0 []), 9)
  else
  ((loop (t2 (ref5_Part_L1 s from_ to)) ([], 0)) : Option (((List api_Sample)))).bind (t1 fun (Samples : List api_Sample) =>
  some ((api_Series.mk s.Den Samples), 0))

noncomputable def law5_SeriesCheckMatchesSpec (s : api_Series) (from_ : Int) (to : Int) : Option Bool :=
  (series_Marks s).bind fun y =>
  (ref5_Marks s).bind fun y2 =>
  (series_Check s).bind fun y3 =>
  (ref5_Check s).bind fun y4 =>
  if (((!decide (y3 = y4)) || (!(decide (y.1 = y2.1)))) || (!decide (y.2 = y2.2))) = true then
  some false
  else
  (series_Range s).bind fun y5 =>
  (ref5_Range s).bind fun y6 =>
  (gd ((((decide (y5.1 = y6.1)) && (decide (y5.2.1 = y6.2.1))) && (decide (y5.2.2 = y6.2.2))) == true) ((api_Series.mk 0 []), 0) (series_Part s from_ to)).bind fun y7 =>
  (gd ((((decide (y5.1 = y6.1)) && (decide (y5.2.1 = y6.2.1))) && (decide (y5.2.2 = y6.2.2))) == true) [] (law5_told y7.1 y7.2)).bind fun y8 =>
  (gd ((((decide (y5.1 = y6.1)) && (decide (y5.2.1 = y6.2.1))) && (decide (y5.2.2 = y6.2.2))) == true) ((api_Series.mk 0 []), 0) (ref5_Part s from_ to)).bind fun y9 =>
  (gd ((((decide (y5.1 = y6.1)) && (decide (y5.2.1 = y6.2.1))) && (decide (y5.2.2 = y6.2.2))) == true) [] (law5_told y9.1 y9.2)).bind fun y10 =>
  (gd (((((decide (y5.1 = y6.1)) && (decide (y5.2.1 = y6.2.1))) && (decide (y5.2.2 = y6.2.2))) && (decide (y8 = y10))) == true) false law5_holds).bind fun y11 =>
  some (((((decide (y5.1 = y6.1)) && (decide (y5.2.1 = y6.2.1))) && (decide (y5.2.2 = y6.2.2))) && (decide (y8 = y10))) && y11)

noncomputable def cmp_isNaN_int (x : Int) : Option Bool :=
  some (!decide (x = x))

noncomputable def cmp_Less_int (x : Int) (y : Int) : Option Bool :=
  (cmp_isNaN_int x).bind fun y2 =>
  (gd (y2 == true) false (cmp_isNaN_int y)).bind fun y3 =>
  some ((y2 && (!y3)) || (decide (x < y)))

noncomputable def slices_insertionSortOrdered_int_L2 (a : Int) (o3 : List Int) (j : Int) : Option (((List Int) × Int) ⊕ ((List Int))) :=
  (gd ((decide (a < j)) == true) 0 (idx o3 j)).bind fun x =>
  (gd ((decide (a < j)) == true) 0 (idx o3 (i64 (j - 1)))).bind fun x2 =>
  (gd ((decide (a < j)) == true) false (cmp_Less_int x x2)).bind fun y =>
  if ((decide (a < j)) && y) = true then
  (idx o3 (i64 (j - 1))).bind fun x3 =>
  (idx o3 j).bind fun x4 =>
  (idx o3 j).bind fun x5 =>
  (idx (o3.set j.toNat x3) (i64 (j - 1))).bind fun x6 =>
  some (.inl (((o3.set j.toNat x3).set (i64 (j - 1)).toNat x4), (i64 (j - 1))))
  else
  some (.inr o3)

noncomputable def slices_insertionSortOrdered_int_L1 (a : Int) (b : Int) (o : List Int) (i : Int) : Option (((List Int) × Int) ⊕ ((List Int))) :=
  if (decide (i < b)) = true then
  ((loop (t2 (slices_insertionSortOrdered_int_L2 a)) (o, i)) : Option (((List Int)))).bind (t1 fun (o2 : List Int) =>
  some (.inl (o2, (i64 (i + 1)))))
  else
  some (.inr o)

noncomputable def slices_insertionSortOrdered_int (data : List Int) (a : Int) (b : Int) : Option (List Int) :=
  loop (t2 (slices_insertionSortOrdered_int_L1 a b)) (data, (i64 (a + 1)))

noncomputable def slices_siftDownOrdered_int_L1 (hi : Int) (first : Int) (o : List Int) (root : Int) : Option (((List Int) × Int) ⊕ ((List Int))) :=
  if (decide (hi ≤ (i64 ((i64 (2 * root)) + 1)))) = true then
  some (.inr o)
  else
  (((gd ((decide ((i64 ((i64 ((i64 (2 * root)) + 1)) + 1)) < hi)) == true) 0 (idx o (i64 (first + (i64 ((i64 (2 * root)) + 1)))))).bind fun x =>
  (gd ((decide ((i64 ((i64 ((i64 (2 * root)) + 1)) + 1)) < hi)) == true) 0 (idx o (i64 ((i64 (first + (i64 ((i64 (2 * root)) + 1)))) + 1)))).bind fun x2 =>
  (gd ((decide ((i64 ((i64 ((i64 (2 * root)) + 1)) + 1)) < hi)) == true) false (cmp_Less_int x x2)).bind fun y =>
  if ((decide ((i64 ((i64 ((i64 (2 * root)) + 1)) + 1)) < hi)) && y) = true then
  some (i64 ((i64 ((i64 (2 * root)) + 1)) + 1))
  else
  some (i64 ((i64 (2 * root)) + 1))) : Option ((Int))).bind (t1 fun (child : Int) =>
  (idx o (i64 (first + root))).bind fun x3 =>
  (idx o (i64 (first + child))).bind fun x4 =>
  (cmp_Less_int x3 x4).bind fun y2 =>
  if (!y2) = true then
  some (.inr o)
  else
  (idx o (i64 (first + child))).bind fun x5 =>
  (idx o (i64 (first + root))).bind fun x6 =>
  (idx o (i64 (first + root))).bind fun x7 =>
  (idx (o.set (i64 (first + root)).toNat x5) (i64 (first + child))).bind fun x8 =>
  some (.inl (((o.set (i64 (first + root)).toNat x5).set (i64 (first + child)).toNat x6), child)))

noncomputable def slices_siftDownOrdered_int (data : List Int) (lo : Int) (hi : Int) (first : Int) : Option (List Int) :=
  loop (t2 (slices_siftDownOrdered_int_L1 hi first)) (data, lo)

noncomputable def slices_heapSortOrdered_int_L1 (a : Int) (b : Int) (o2 : List Int) (i : Int) : Option (((List Int) × Int) ⊕ ((List Int))) :=
  if (decide (0 ≤ i)) = true then
  (slices_siftDownOrdered_int o2 i (i64 (b - a)) a).bind fun y =>
  some (.inl (y, (i64 (i - 1))))
  else
  some (.inr o2)

noncomputable def slices_heapSortOrdered_int_L2 (a : Int) (o3 : List Int) (i2 : Int) : Option (((List Int) × Int) ⊕ ((List Int))) :=
  if (decide (0 ≤ i2)) = true then
  (idx o3 (i64 (a + i2))).bind fun x =>
  (idx o3 a).bind fun x2 =>
  (idx o3 a).bind fun x3 =>
  (idx (o3.set a.toNat x) (i64 (a + i2))).bind fun x4 =>
  (slices_siftDownOrdered_int ((o3.set a.toNat x).set (i64 (a + i2)).toNat x2) 0 i2 a).bind fun y2 =>
  some (.inl (y2, (i64 (i2 - 1))))
  else
  some (.inr o3)

noncomputable def slices_heapSortOrdered_int (data : List Int) (a : Int) (b : Int) : Option (List Int) :=
  (((quo .i64 (i64 ((i64 (b - a)) - 1)) 2).bind fun q =>
  loop (t2 (slices_heapSortOrdered_int_L1 a b)) (data, q)) : Option (((List Int)))).bind (t1 fun (o : List Int) =>
  loop (t2 (slices_heapSortOrdered_int_L2 a)) (o, (i64 ((i64 (b - a)) - 1))))

noncomputable def bits_Len (x : Int) : Option Int :=
  (bits_Len64 x).bind fun y =>
  some y

noncomputable def slices_nextPowerOfTwo (length : Int) : Option Int :=
  (bits_Len (u64 length)).bind fun y =>
  (shl .u64 1 y).bind fun q =>
  some q

noncomputable def slices_xorshift_Next (r_ : Int) : Option (Int × Int) :=
  (shl .u64 r_ 13).bind fun q =>
  (shr .u64 (bxor .u64 r_ q) 7).bind fun q2 =>
  (shl .u64 (bxor .u64 (bxor .u64 r_ q) q2) 17).bind fun q3 =>
  some ((bxor .u64 (bxor .u64 (bxor .u64 r_ q) q2) q3), (bxor .u64 (bxor .u64 (bxor .u64 r_ q) q2) q3))

noncomputable def slices_breakPatternsOrdered_int_L1 (a : Int) (b : Int) (y : Int) (o : List Int) (random : Int) (idx_ : Int) : Option (((List Int) × Int × Int) ⊕ ((List Int))) :=
  (quo .i64 (i64 (b - a)) 4).bind fun q2 =>
  if (decide (idx_ ≤ (i64 ((i64 (a + (i64 (q2 * 2)))) + 1)))) = true then
  (slices_xorshift_Next random).bind fun y2 =>
  ((if (decide ((i64 (b - a)) ≤ (i64 (band .u64 y2.1 (u64 (y - 1)))))) = true then
  some (i64 ((i64 (band .u64 y2.1 (u64 (y - 1)))) - (i64 (b - a))))
  else
  some (i64 (band .u64 y2.1 (u64 (y - 1))))) : Option ((Int))).bind (t1 fun (other : Int) =>
  (idx o (i64 (a + other))).bind fun x =>
  (idx o idx_).bind fun x2 =>
  (idx o idx_).bind fun x3 =>
  (idx (o.set idx_.toNat x) (i64 (a + other))).bind fun x4 =>
  some (.inl (((o.set idx_.toNat x).set (i64 (a + other)).toNat x2), y2.2, (i64 (idx_ + 1)))))
  else
  some (.inr o)

noncomputable def slices_breakPatternsOrdered_int (data : List Int) (a : Int) (b : Int) : Option (List Int) :=
  if (decide (8 ≤ (i64 (b - a)))) = true then
  (slices_nextPowerOfTwo (i64 (b - a))).bind fun y =>
  (quo .i64 (i64 (b - a)) 4).bind fun q =>
  loop (t3 (slices_breakPatternsOrdered_int_L1 a b y)) (data, (u64 (i64 (b - a))), (i64 ((i64 (a + (i64 (q * 2)))) - 1)))
  else
  some data

noncomputable def slices_order2Ordered_int (data : List Int) (a : Int) (b : Int) (swaps : Int) : Option (Int × Int × Int) :=
  (idx data b).bind fun x =>
  (idx data a).bind fun x2 =>
  (cmp_Less_int x x2).bind fun y =>
  if y = true then
  some (b, a, (i64 (swaps + 1)))
  else
  some (a, b, swaps)

noncomputable def slices_medianOrdered_int (data : List Int) (a : Int) (b : Int) (c_ : Int) (swaps : Int) : Option (Int × Int) :=
  (slices_order2Ordered_int data a b swaps).bind fun y =>
  (slices_order2Ordered_int data y.2.1 c_ y.2.2).bind fun y2 =>
  (slices_order2Ordered_int data y.1 y2.1 y2.2.2).bind fun y3 =>
  some (y3.2.1, y3.2.2)

noncomputable def slices_medianAdjacentOrdered_int (data : List Int) (a : Int) (swaps : Int) : Option (Int × Int) :=
  (slices_medianOrdered_int data (i64 (a - 1)) a (i64 (a + 1)) swaps).bind fun y =>
  some (y.1, y.2)

noncomputable def slices_choosePivotOrdered_int (data : List Int) (a : Int) (b : Int) : Option (Int × Int) :=
  (quo .i64 (i64 (b - a)) 4).bind fun q =>
  (quo .i64 (i64 (b - a)) 4).bind fun q2 =>
  (quo .i64 (i64 (b - a)) 4).bind fun q3 =>
  ((if (decide (8 ≤ (i64 (b - a)))) = true then
  ((if (decide (50 ≤ (i64 (b - a)))) = true then
  (slices_medianAdjacentOrdered_int data (i64 (a + (i64 (q * 1)))) 0).bind fun y =>
  (slices_medianAdjacentOrdered_int data (i64 (a + (i64 (q2 * 2)))) y.2).bind fun y2 =>
  (slices_medianAdjacentOrdered_int data (i64 (a + (i64 (q3 * 3)))) y2.2).bind fun y3 =>
  some (y3.2, y.1, y2.1, y3.1)
  else
  some (0, (i64 (a + (i64 (q * 1)))), (i64 (a + (i64 (q2 * 2)))), (i64 (a + (i64 (q3 * 3)))))) : Option ((Int × Int × Int × Int))).bind (t4 fun (swaps2 : Int) (i : Int) (j2 : Int) (k : Int) =>
  (slices_medianOrdered_int data i j2 k swaps2).bind fun y4 =>
  some (y4.2, y4.1))
  else
  some (0, (i64 (a + (i64 (q2 * 2)))))) : Option ((Int × Int))).bind (t2 fun (swaps : Int) (j : Int) =>
  if (decide (swaps = 0)) = true then
  some (j, 1)
  else
  if (decide (swaps = 12)) = true then
  some (j, 2)
  else
  some (j, 0))

noncomputable def slices_reverseRangeOrdered_int_L1 (o : List Int) (i : Int) (j : Int) : Option (((List Int) × Int × Int) ⊕ ((List Int))) :=
  if (decide (i < j)) = true then
  (idx o j).bind fun x =>
  (idx o i).bind fun x2 =>
  (idx o i).bind fun x3 =>
  (idx (o.set i.toNat x) j).bind fun x4 =>
  some (.inl (((o.set i.toNat x).set j.toNat x2), (i64 (i + 1)), (i64 (j - 1))))
  else
  some (.inr o)

noncomputable def slices_reverseRangeOrdered_int (data : List Int) (a : Int) (b : Int) : Option (List Int) :=
  loop (t3 (slices_reverseRangeOrdered_int_L1)) (data, a, (i64 (b - 1)))

noncomputable def slices_partitionEqualOrdered_int_L2 (a : Int) (o2 : List Int) (j : Int) (i4 : Int) : Option ((Int) ⊕ (Int)) :=
  (gd ((decide (i4 ≤ j)) == true) 0 (idx o2 a)).bind fun x5 =>
  (gd ((decide (i4 ≤ j)) == true) 0 (idx o2 i4)).bind fun x6 =>
  (gd ((decide (i4 ≤ j)) == true) false (cmp_Less_int x5 x6)).bind fun y =>
  if ((decide (i4 ≤ j)) && (!y)) = true then
  some (.inl (i64 (i4 + 1)))
  else
  some (.inr i4)

noncomputable def slices_partitionEqualOrdered_int_L3 (a : Int) (o2 : List Int) (i3 : Int) (j3 : Int) : Option ((Int) ⊕ (Int)) :=
  (gd ((decide (i3 ≤ j3)) == true) 0 (idx o2 a)).bind fun x7 =>
  (gd ((decide (i3 ≤ j3)) == true) 0 (idx o2 j3)).bind fun x8 =>
  (gd ((decide (i3 ≤ j3)) == true) false (cmp_Less_int x7 x8)).bind fun y2 =>
  if ((decide (i3 ≤ j3)) && y2) = true then
  some (.inl (i64 (j3 - 1)))
  else
  some (.inr j3)

noncomputable def slices_partitionEqualOrdered_int_L1 (a : Int) (o2 : List Int) (i2 : Int) (j : Int) : Option (((List Int) × Int × Int) ⊕ ((List Int) × Int)) :=
  ((loop (t1 (slices_partitionEqualOrdered_int_L2 a o2 j)) i2) : Option ((Int))).bind (t1 fun (i3 : Int) =>
  ((loop (t1 (slices_partitionEqualOrdered_int_L3 a o2 i3)) j) : Option ((Int))).bind (t1 fun (j2 : Int) =>
  if (decide (j2 < i3)) = true then
  some (.inr (o2, i3))
  else
  (idx o2 j2).bind fun x9 =>
  (idx o2 i3).bind fun x10 =>
  (idx o2 i3).bind fun x11 =>
  (idx (o2.set i3.toNat x9) j2).bind fun x12 =>
  some (.inl (((o2.set i3.toNat x9).set j2.toNat x10), (i64 (i3 + 1)), (i64 (j2 - 1))))))

noncomputable def slices_partitionEqualOrdered_int (data : List Int) (a : Int) (b : Int) (pivot : Int) : Option (Int × (List Int)) :=
  (idx data pivot).bind fun x =>
  (idx data a).bind fun x2 =>
  (idx data a).bind fun x3 =>
  (idx (data.set a.toNat x) pivot).bind fun x4 =>
  ((loop (t3 (slices_partitionEqualOrdered_int_L1 a)) (((data.set a.toNat x).set pivot.toNat x2), (i64 (a + 1)), (i64 (b - 1)))) : Option (((List Int) × Int))).bind (t2 fun (o : List Int) (i : Int) =>
  some (i, o))

noncomputable def slices_partitionOrdered_int_L1 (data : List Int) (a : Int) (b : Int) (pivot : Int) (x : Int) (x2 : Int) (i2 : Int) : Option ((Int) ⊕ (Int)) :=
  (gd ((decide (i2 ≤ (i64 (b - 1)))) == true) 0 (idx ((data.set a.toNat x).set pivot.toNat x2) i2)).bind fun x5 =>
  (gd ((decide (i2 ≤ (i64 (b - 1)))) == true) 0 (idx ((data.set a.toNat x).set pivot.toNat x2) a)).bind fun x6 =>
  (gd ((decide (i2 ≤ (i64 (b - 1)))) == true) false (cmp_Less_int x5 x6)).bind fun y =>
  if ((decide (i2 ≤ (i64 (b - 1)))) && y) = true then
  some (.inl (i64 (i2 + 1)))
  else
  some (.inr i2)

noncomputable def slices_partitionOrdered_int_L2 (data : List Int) (a : Int) (pivot : Int) (x : Int) (x2 : Int) (i : Int) (j2 : Int) : Option ((Int) ⊕ (Int)) :=
  (gd ((decide (i ≤ j2)) == true) 0 (idx ((data.set a.toNat x).set pivot.toNat x2) j2)).bind fun x7 =>
  (gd ((decide (i ≤ j2)) == true) 0 (idx ((data.set a.toNat x).set pivot.toNat x2) a)).bind fun x8 =>
  (gd ((decide (i ≤ j2)) == true) false (cmp_Less_int x7 x8)).bind fun y2 =>
  if ((decide (i ≤ j2)) && (!y2)) = true then
  some (.inl (i64 (j2 - 1)))
  else
  some (.inr j2)

noncomputable def slices_partitionOrdered_int_L4 (a : Int) (o2 : List Int) (j4 : Int) (i5 : Int) : Option ((Int) ⊕ (Int)) :=
  (gd ((decide (i5 ≤ j4)) == true) 0 (idx o2 i5)).bind fun x17 =>
  (gd ((decide (i5 ≤ j4)) == true) 0 (idx o2 a)).bind fun x18 =>
  (gd ((decide (i5 ≤ j4)) == true) false (cmp_Less_int x17 x18)).bind fun y3 =>
  if ((decide (i5 ≤ j4)) && y3) = true then
  some (.inl (i64 (i5 + 1)))
  else
  some (.inr i5)

noncomputable def slices_partitionOrdered_int_L5 (a : Int) (o2 : List Int) (i4 : Int) (j6 : Int) : Option ((Int) ⊕ (Int)) :=
  (gd ((decide (i4 ≤ j6)) == true) 0 (idx o2 j6)).bind fun x19 =>
  (gd ((decide (i4 ≤ j6)) == true) 0 (idx o2 a)).bind fun x20 =>
  (gd ((decide (i4 ≤ j6)) == true) false (cmp_Less_int x19 x20)).bind fun y4 =>
  if ((decide (i4 ≤ j6)) && (!y4)) = true then
  some (.inl (i64 (j6 - 1)))
  else
  some (.inr j6)

noncomputable def slices_partitionOrdered_int_L3 (a : Int) (o2 : List Int) (i3 : Int) (j4 : Int) : Option (((List Int) × Int × Int) ⊕ ((List Int) × Int)) :=
  ((loop (t1 (slices_partitionOrdered_int_L4 a o2 j4)) i3) : Option ((Int))).bind (t1 fun (i4 : Int) =>
  ((loop (t1 (slices_partitionOrdered_int_L5 a o2 i4)) j4) : Option ((Int))).bind (t1 fun (j5 : Int) =>
  if (decide (j5 < i4)) = true then
  some (.inr (o2, j5))
  else
  (idx o2 j5).bind fun x21 =>
  (idx o2 i4).bind fun x22 =>
  (idx o2 i4).bind fun x23 =>
  (idx (o2.set i4.toNat x21) j5).bind fun x24 =>
  some (.inl (((o2.set i4.toNat x21).set j5.toNat x22), (i64 (i4 + 1)), (i64 (j5 - 1))))))

noncomputable def slices_partitionOrdered_int (data : List Int) (a : Int) (b : Int) (pivot : Int) : Option (Int × Bool × (List Int)) :=
  (idx data pivot).bind fun x =>
  (idx data a).bind fun x2 =>
  (idx data a).bind fun x3 =>
  (idx (data.set a.toNat x) pivot).bind fun x4 =>
  ((loop (t1 (slices_partitionOrdered_int_L1 data a b pivot x x2)) (i64 (a + 1))) : Option ((Int))).bind (t1 fun (i : Int) =>
  ((loop (t1 (slices_partitionOrdered_int_L2 data a pivot x x2 i)) (i64 (b - 1))) : Option ((Int))).bind (t1 fun (j : Int) =>
  if (decide (j < i)) = true then
  (idx ((data.set a.toNat x).set pivot.toNat x2) a).bind fun x9 =>
  (idx ((data.set a.toNat x).set pivot.toNat x2) j).bind fun x10 =>
  (idx ((data.set a.toNat x).set pivot.toNat x2) j).bind fun x11 =>
  (idx (((data.set a.toNat x).set pivot.toNat x2).set j.toNat x9) a).bind fun x12 =>
  some (j, true, ((((data.set a.toNat x).set pivot.toNat x2).set j.toNat x9).set a.toNat x10))
  else
  (idx ((data.set a.toNat x).set pivot.toNat x2) j).bind fun x13 =>
  (idx ((data.set a.toNat x).set pivot.toNat x2) i).bind fun x14 =>
  (idx ((data.set a.toNat x).set pivot.toNat x2) i).bind fun x15 =>
  (idx (((data.set a.toNat x).set pivot.toNat x2).set i.toNat x13) j).bind fun x16 =>
  ((loop (t3 (slices_partitionOrdered_int_L3 a)) (((((data.set a.toNat x).set pivot.toNat x2).set i.toNat x13).set j.toNat x14), (i64 (i + 1)), (i64 (j - 1)))) : Option (((List Int) × Int))).bind (t2 fun (o : List Int) (j3 : Int) =>
  (idx o a).bind fun x25 =>
  (idx o j3).bind fun x26 =>
  (idx o j3).bind fun x27 =>
  (idx (o.set j3.toNat x25) a).bind fun x28 =>
  some (j3, false, ((o.set j3.toNat x25).set a.toNat x26)))))

noncomputable def bits_Len32 (x : Int) : Option Int :=
  ((if (decide (65536 ≤ x)) = true then
  (shr .u32 x 16).bind fun q =>
  some (q, 16)
  else
  some (x, 0)) : Option ((Int × Int))).bind (t2 fun (x2 : Int) (n : Int) =>
  ((if (decide (256 ≤ x2)) = true then
  (shr .u32 x2 8).bind fun q2 =>
  some (q2, (i64 (n + 8)))
  else
  some (x2, n)) : Option ((Int × Int))).bind (t2 fun (x3 : Int) (n2 : Int) =>
  (sidx [0, 1, 2, 2, 3, 3, 3, 3, 4, 4, 4, 4, 4, 4, 4, 4, 5, 5, 5, 5, 5, 5, 5, 5, 5, 5, 5, 5, 5, 5, 5, 5, 6, 6, 6, 6, 6, 6, 6, 6, 6, 6, 6, 6, 6, 6, 6, 6, 6, 6, 6, 6, 6, 6, 6, 6, 6, 6, 6, 6, 6, 6, 6, 6, 7, 7, 7, 7, 7, 7, 7, 7, 7, 7, 7, 7, 7, 7, 7, 7, 7, 7, 7, 7, 7, 7, 7, 7, 7, 7, 7, 7, 7, 7, 7, 7, 7, 7, 7, 7, 7, 7, 7, 7, 7, 7, 7, 7, 7, 7, 7, 7, 7, 7, 7, 7, 7, 7, 7, 7, 7, 7, 7, 7, 7, 7, 7, 7, 8, 8, 8, 8, 8, 8, 8, 8, 8, 8, 8, 8, 8, 8, 8, 8, 8, 8, 8, 8, 8, 8, 8, 8, 8, 8, 8, 8, 8, 8, 8, 8, 8, 8, 8, 8, 8, 8, 8, 8, 8, 8, 8, 8, 8, 8, 8, 8, 8, 8, 8, 8, 8, 8, 8, 8, 8, 8, 8, 8, 8, 8, 8, 8, 8, 8, 8, 8, 8, 8, 8, 8, 8, 8, 8, 8, 8, 8, 8, 8, 8, 8, 8, 8, 8, 8, 8, 8, 8, 8, 8, 8, 8, 8, 8, 8, 8, 8, 8, 8, 8, 8, 8, 8, 8, 8, 8, 8, 8, 8, 8, 8, 8, 8, 8, 8, 8, 8, 8, 8, 8, 8, 8, 8, 8, 8, 8, 8] (u8 x3)).bind fun b =>
  some (i64 (n2 + (i64 b)))))

noncomputable def istrconv_isPowerOfTwo (x : Int) : Option Bool :=
  some (decide ((band .i64 x (i64 (x - 1))) = 0))

noncomputable def istrconv_log10Pow2 (x : Int) : Option Int :=
  (shr .i64 (i64 (x * 78913)) 18).bind fun q =>
  some q

noncomputable def istrconv_bool2_int (b : Bool) : Option Int :=
  if b = true then
  some 1
  else
  some 0
end Go.Vx
