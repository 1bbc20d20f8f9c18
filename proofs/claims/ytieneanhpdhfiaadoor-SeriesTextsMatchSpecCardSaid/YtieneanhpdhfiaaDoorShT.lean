/- A text of the proof: a verified executor of the program form, or the contracts of the functions that the law reaches. -/
import Derived.Test.YtieneanhpdhfiaaDoorShLib
set_option linter.all false
namespace Go.Vx
open Go Go.RowKit
set_option linter.unusedVariables false
structure api_Sample where
  At : Int
  N : Int
  Mark : Int
structure api_Series where
  Den : Int
  Samples : List api_Sample
structure strings_Builder where
  addr : Unit
  buf : List Int
structure ref0_Ink where
  out : List Int

noncomputable def ZO (n : Int) (low : Int) (high : Int) : Option Bool :=
  some ((decide (low ≤ n)) && (decide (n ≤ high)))

noncomputable def Qt (s : api_Series) (i : Int) : Option ((Int) ⊕ (Int × Int) ⊕ (Unit)) :=
  if (decide (i < (s.Samples.length : Int))) = true then
  (idx s.Samples i).bind fun x =>
  (ZO x.At 0 1099511627776).bind fun y2 =>
  (gd ((!y2) == false) false (ZO x.N (-1125899906842624) 1125899906842624)).bind fun y3 =>
  (gd (((!y2) || (!y3)) == false) false (ZO x.Mark 0 4)).bind fun y4 =>
  if (((!y2) || (!y3)) || (!y4)) = true then
  some (.inr (.inl (i, 9)))
  else
  if ((!decide (x.N = 0)) && (decide (x.Mark ≤ 1))) = true then
  some (.inr (.inl (i, 2)))
  else
  (gd ((decide (0 < i)) == true) (api_Sample.mk 0 0 0) (idx s.Samples (i64 (i - 1)))).bind fun x2 =>
  if ((decide (0 < i)) && (decide (x.At ≤ x2.At))) = true then
  some (.inr (.inl (i, 10)))
  else
  some (.inl (i64 (i + 1)))
  else
  some (.inr (.inr ()))

noncomputable def QJ (s : api_Series) : Option (Int × Int) :=
  (ZO s.Den 1 1000000).bind fun y =>
  if (!y) = true then
  some ((-1), 9)
  else
  if (decide (20000 < (s.Samples.length : Int))) = true then
  some ((-1), 3)
  else
  ((loop (t1 (Qt s)) 0) : Option ((Int × Int) ⊕ (Unit))).bind (Sum.elim (fun q' => some q') (t0 (some ((-1), 0))))

noncomputable def QL (s : api_Series) : Option Int :=
  (QJ s).bind fun y =>
  some y.2

def gv_series_markWords : Vector Str 5 := #v[[108, 111, 115, 116], [119, 114, 111, 110, 103], [100, 111, 117, 98, 116, 102, 117, 108], [109, 101, 110, 100, 101, 100], [103, 111, 111, 100]]

noncomputable def Z7 (s : api_Series) (buf2 : List Int) (i : Int) : Option (((List Int) × Int) ⊕ ((List Int))) :=
  if (decide (i < (s.Samples.length : Int))) = true then
  (((idx s.Samples i).bind fun x =>
  (itoa x.At).bind fun y3 =>
  (Za4 gv_series_markWords x.Mark).bind fun x2 =>
  (cat y3 [32]).bind fun s4 =>
  (cat s4 x2).bind fun s5 =>
  (app buf2 (bytes s5)).bind fun l2 =>
  if (decide (2 ≤ x.Mark)) = true then
  (itoa x.N).bind fun y4 =>
  (cat [32] y4).bind fun s6 =>
  (app l2 (bytes s6)).bind fun l3 =>
  (app l3 (bytes [10])).bind fun l4 =>
  some l4
  else
  (app l2 (bytes [10])).bind fun l5 =>
  some l5) : Option (((List Int)))).bind (t1 fun (buf3 : List Int) =>
  some (.inl (buf3, (i64 (i + 1)))))
  else
  some (.inr buf2)

noncomputable def Q9 (s : api_Series) : Option (Str × Int) :=
  (QL s).bind fun y =>
  if (!decide (y = 0)) = true then
  some ([], y)
  else
  (itoa s.Den).bind fun y2 =>
  (cat [115, 101, 114, 105, 101, 115, 32] y2).bind fun s2 =>
  (cat s2 [10]).bind fun s3 =>
  (app [] (bytes s3)).bind fun l =>
  ((loop (t2 (Z7 s)) (l, 0)) : Option (((List Int)))).bind (t1 fun (buf : List Int) =>
  (ofB buf).bind fun z =>
  some (z, 0))

noncomputable def Qc (n : Int) (low : Int) (high : Int) : Option Bool :=
  some ((decide (n < low)) || (decide (high < n)))

noncomputable def ZX (mark : Int) : Option Bool :=
  some (decide (2 ≤ mark))

noncomputable def Qk (s : api_Sample) : Option Int :=
  (Qc s.At 0 1099511627776).bind fun y =>
  (gd (y == false) false (Qc s.N (-1125899906842624) 1125899906842624)).bind fun y2 =>
  (gd ((y || y2) == false) false (Qc s.Mark 0 4)).bind fun y3 =>
  if ((y || y2) || y3) = true then
  some 9
  else
  (gd ((!decide (s.N = 0)) == true) false (ZX s.Mark)).bind fun y4 =>
  if ((!decide (s.N = 0)) && (!y4)) = true then
  some 2
  else
  some 0

noncomputable def QR (s : api_Series) (i : Int) : Option ((Int) ⊕ (Int × Int) ⊕ (Unit)) :=
  if (decide (i < (s.Samples.length : Int))) = true then
  (idx s.Samples i).bind fun x =>
  (Qk x).bind fun y2 =>
  if (!decide (y2 = 0)) = true then
  some (.inr (.inl (i, y2)))
  else
  (gd ((decide (0 < i)) == true) (api_Sample.mk 0 0 0) (idx s.Samples i)).bind fun x2 =>
  (gd ((decide (0 < i)) == true) (api_Sample.mk 0 0 0) (idx s.Samples (i64 (i - 1)))).bind fun x3 =>
  if ((decide (0 < i)) && (decide (x2.At ≤ x3.At))) = true then
  some (.inr (.inl (i, 10)))
  else
  some (.inl (i64 (i + 1)))
  else
  some (.inr (.inr ()))

noncomputable def Xd (s : api_Series) : Option (Int × Int) :=
  (Qc s.Den 1 1000000).bind fun y =>
  if y = true then
  some ((-1), 9)
  else
  if (decide (20000 < (s.Samples.length : Int))) = true then
  some ((-1), 3)
  else
  ((loop (t1 (QR s)) 0) : Option ((Int × Int) ⊕ (Unit))).bind (Sum.elim (fun q' => some q') (t0 (some ((-1), 0))))

noncomputable def XH (s : api_Series) : Option Int :=
  (Xd s).bind fun y =>
  some y.2

noncomputable def QZ  : Option (Vector Str 5) :=
  some (#v[[108, 111, 115, 116], [119, 114, 111, 110, 103], [100, 111, 117, 98, 116, 102, 117, 108], [109, 101, 110, 100, 101, 100], [103, 111, 111, 100]] : Vector Str 5)

noncomputable def X9 (x : api_Sample) : Option Str :=
  (itoa x.At).bind fun y =>
  (cat y [32]).bind fun s =>
  (QZ).bind fun y2 =>
  (Za4 y2 x.Mark).bind fun x2 =>
  (cat s x2).bind fun s2 =>
  (ZX x.Mark).bind fun y3 =>
  if y3 = true then
  (itoa x.N).bind fun y4 =>
  (cat [32] y4).bind fun s3 =>
  (cat s2 s3).bind fun s4 =>
  (cat s4 [10]).bind fun s5 =>
  some s5
  else
  (cat s2 [10]).bind fun s6 =>
  some s6

noncomputable def QN (s : api_Series) (out2 : List Int) (i : Int) : Option (((List Int) × Int) ⊕ ((List Int))) :=
  if (decide (i < (s.Samples.length : Int))) = true then
  (idx s.Samples i).bind fun x =>
  (X9 x).bind fun y3 =>
  (app out2 (bytes y3)).bind fun l2 =>
  some (.inl (l2, (i64 (i + 1))))
  else
  some (.inr out2)

noncomputable def XT (s : api_Series) : Option (Str × Int) :=
  (XH s).bind fun y =>
  if (!decide (y = 0)) = true then
  some ([], y)
  else
  (itoa s.Den).bind fun y2 =>
  (cat [115, 101, 114, 105, 101, 115, 32] y2).bind fun s2 =>
  (cat s2 [10]).bind fun s3 =>
  (app ([] : List Int) (bytes s3)).bind fun l =>
  ((loop (t2 (QN s)) (l, 0)) : Option (((List Int)))).bind (t1 fun (out : List Int) =>
  some ((ZI out), 0))

noncomputable def Zp (s : Str) (prefix_ : Str) : Option Bool :=
  (gd ((decide ((prefix_.length : Int) ≤ (s.length : Int))) == true) [] (slc s 0 (prefix_.length : Int))).bind fun s2 =>
  some ((decide ((prefix_.length : Int) ≤ (s.length : Int))) && (decide (s2 = prefix_)))

noncomputable def ZA (s : Str) (prefix_ : Str) : Option (Str × Bool) :=
  (Zp s prefix_).bind fun y =>
  if (!y) = true then
  some (s, false)
  else
  (slc s (prefix_.length : Int) (s.length : Int)).bind fun s2 =>
  some (s2, true)

noncomputable def ZD (s : Str) (prefix_ : Str) : Option (Str × Bool) :=
  (ZA s prefix_).bind fun y =>
  some (y.1, y.2)

noncomputable def Zy (s : Str) (prefix_ : Str) : Option Str :=
  (Zp s prefix_).bind fun y =>
  if y = true then
  (slc s (prefix_.length : Int) (s.length : Int)).bind fun s2 =>
  some s2
  else
  some s

noncomputable def Z3 (s : Str) (prefix_ : Str) : Option Str :=
  (Zy s prefix_).bind fun y =>
  some y

noncomputable def Zr (s : Str) : Option (Int × Bool) :=
  (ZcC s).bind fun y =>
  (gd ((!y.2) == true) [] (Z3 s [45])).bind fun y2 =>
  (gd (((!y.2) && (decide ((y2.length : Int) ≤ 18))) == true) [] (itoa y.1)).bind fun y3 =>
  some (y.1, (((!y.2) && (decide ((y2.length : Int) ≤ 18))) && (decide (y3 = s))))

noncomputable def ZH (y : List Str) (y2 : Int × Bool) (i : Int) : Option ((Int) ⊕ (api_Sample × Bool) ⊕ (Unit)) :=
  if (decide (i < 5)) = true then
  (Za4 gv_series_markWords i).bind fun x2 =>
  (idx y 1).bind fun x3 =>
  if (!decide (x2 = x3)) = true then
  some (.inl (i64 (i + 1)))
  else
  if (decide (i < 2)) = true then
  some (.inr (.inl ((api_Sample.mk y2.1 0 i), (decide ((y.length : Int) = 2)))))
  else
  if (!decide ((y.length : Int) = 3)) = true then
  some (.inr (.inl ((api_Sample.mk y2.1 0 i), false)))
  else
  (idx y 2).bind fun x4 =>
  (Zr x4).bind fun y3 =>
  some (.inr (.inl ((api_Sample.mk y2.1 y3.1 i), y3.2)))
  else
  some (.inr (.inr ()))

noncomputable def ZC (line : Str) : Option (api_Sample × Bool) :=
  (ZaE line [32]).bind fun y =>
  (idx y 0).bind fun x =>
  (Zr x).bind fun y2 =>
  if ((!y2.2) || (decide ((y.length : Int) < 2))) = true then
  some ((api_Sample.mk 0 0 0), false)
  else
  ((loop (t1 (ZH y y2)) 0) : Option ((api_Sample × Bool) ⊕ (Unit))).bind (Sum.elim (fun q' => some q') (t0 (some ((api_Sample.mk 0 0 0), false))))

noncomputable def ZQ (text2 : Str) (Den2 : Int) (Samples2 : List api_Sample) (i : Int) : Option ((Str × Int × (List api_Sample) × Int) ⊕ (api_Series × Int × Int) ⊕ (Int × (List api_Sample))) :=
  if ((!decide (text2 = [])) || (decide (i = 0))) = true then
  (Zd4 text2 [10]).bind fun y =>
  ((if (decide (i = 0)) = true then
  (ZD y.1 [115, 101, 114, 105, 101, 115, 32]).bind fun y2 =>
  (Zr y2.1).bind fun y3 =>
  some (y3.1, Samples2, ((y.2.2 && y2.2) && y3.2))
  else
  (ZC y.1).bind fun y4 =>
  (app Samples2 ([y4.1] : List api_Sample)).bind fun l =>
  some (Den2, l, (y.2.2 && y4.2))) : Option ((Int × (List api_Sample) × Bool))).bind (t3 fun (Den3 : Int) (Samples3 : List api_Sample) (ok : Bool) =>
  if (!ok) = true then
  some (.inr (.inl ((api_Series.mk 0 []), i, 6)))
  else
  some (.inl (y.2.1, Den3, Samples3, (i64 (i + 1)))))
  else
  some (.inr (.inr (Den2, Samples2)))

noncomputable def Z9 (text : Str) : Option (api_Series × Int × Int) :=
  if (decide (1000000 < (text.length : Int))) = true then
  some ((api_Series.mk 0 []), 0, 3)
  else
  ((loop (t4 (ZQ)) (text, 0, [], 0)) : Option ((api_Series × Int × Int) ⊕ (Int × (List api_Sample)))).bind (Sum.elim (fun q' => some q') (t2 fun (Den : Int) (Samples : List api_Sample) =>
  (QJ (api_Series.mk Den Samples)).bind fun y5 =>
  if (!decide (y5.2 = 0)) = true then
  some ((api_Series.mk 0 []), (i64 (y5.1 + 1)), y5.2)
  else
  some ((api_Series.mk Den Samples), 0, 0)))

noncomputable def Xk (s : Str) (out2 : List Str) (from_2 : Int) (i : Int) : Option (((List Str) × Int × Int) ⊕ ((List Str) × Int)) :=
  if (decide (i < (s.length : Int))) = true then
  (JR s i).bind fun b =>
  if (decide (b = 10)) = true then
  (slc s from_2 i).bind fun s2 =>
  (app out2 ([s2] : List Str)).bind fun l =>
  some (.inl (l, (i64 (i + 1)), (i64 (i + 1))))
  else
  some (.inl (out2, from_2, (i64 (i + 1))))
  else
  some (.inr (out2, from_2))

noncomputable def XS (s : Str) : Option ((List Str) × Bool) :=
  ((loop (t3 (Xk s)) ([], 0, 0)) : Option (((List Str) × Int))).bind (t2 fun (out : List Str) (from_ : Int) =>
  if (decide (from_ < (s.length : Int))) = true then
  (slc s from_ (s.length : Int)).bind fun s3 =>
  (app out ([s3] : List Str)).bind fun l2 =>
  some (l2, false)
  else
  some (out, true))

noncomputable def Xj (s : Str) (out2 : List Str) (from_ : Int) (i : Int) : Option (((List Str) × Int × Int) ⊕ ((List Str))) :=
  if (decide (i ≤ (s.length : Int))) = true then
  (gd ((decide (i = (s.length : Int))) == false) 0 (JR s i)).bind fun b =>
  if ((decide (i = (s.length : Int))) || (decide (b = 32))) = true then
  (slc s from_ i).bind fun s2 =>
  (app out2 ([s2] : List Str)).bind fun l =>
  some (.inl (l, (i64 (i + 1)), (i64 (i + 1))))
  else
  some (.inl (out2, from_, (i64 (i + 1))))
  else
  some (.inr out2)

noncomputable def QY (s : Str) : Option (List Str) :=
  ((loop (t3 (Xj s)) ([], 0, 0)) : Option (((List Str)))).bind (t1 fun (out : List Str) =>
  some out)

noncomputable def Z2 (s2 : Str) (n2 : Int) (i : Int) : Option ((Int × Int) ⊕ (Int × Bool) ⊕ (Int)) :=
  if (decide (i < (s2.length : Int))) = true then
  (JR s2 i).bind fun b3 =>
  (gd ((decide (b3 < 48)) == false) 0 (JR s2 i)).bind fun b4 =>
  if ((decide (b3 < 48)) || (decide (57 < b4))) = true then
  some (.inr (.inl (0, false)))
  else
  (JR s2 i).bind fun b5 =>
  some (.inl ((i64 ((i64 (10 * n2)) + (i64 (u8 (b5 - 48))))), (i64 (i + 1))))
  else
  some (.inr (.inr n2))

noncomputable def ZY (s : Str) (most : Int) : Option (Int × Bool) :=
  (gd ((!decide (s = [])) == true) 0 (JR s 0)).bind fun b =>
  ((if ((!decide (s = [])) && (decide (b = 45))) = true then
  (slc s 1 (s.length : Int)).bind fun s3 =>
  some s3
  else
  some s) : Option ((Str))).bind (t1 fun (s2 : Str) =>
  (gd (((decide (s2 = [])) || (decide (most < (s2.length : Int)))) == false) 0 (JR s2 0)).bind fun b2 =>
  if (((decide (s2 = [])) || (decide (most < (s2.length : Int)))) || ((decide (b2 = 48)) && ((decide (1 < (s2.length : Int))) || ((!decide (s = [])) && (decide (b = 45)))))) = true then
  some (0, false)
  else
  ((loop (t2 (Z2 s2)) (0, 0)) : Option ((Int × Bool) ⊕ (Int))).bind (Sum.elim (fun q' => some q') (t1 fun (n : Int) =>
  if ((!decide (s = [])) && (decide (b = 45))) = true then
  some ((i64 (-n)), true)
  else
  some (n, true))))

noncomputable def Zz (y : (List Str)) (mark2 : Int) (i : Int) : Option ((Int × Int) ⊕ (Int)) :=
  if (decide (i < 5)) = true then
  (QZ).bind fun y3 =>
  (Za4 y3 i).bind fun x2 =>
  (idx y 1).bind fun x3 =>
  if (decide (x2 = x3)) = true then
  some (.inl (i, (i64 (i + 1))))
  else
  some (.inl (mark2, (i64 (i + 1))))
  else
  some (.inr mark2)

noncomputable def QQ (s : Str) : Option (api_Sample × Bool) :=
  (QY s).bind fun y =>
  if (decide ((y.length : Int) < 2)) = true then
  some ((api_Sample.mk 0 0 0), false)
  else
  (idx y 0).bind fun x =>
  (ZY x 18).bind fun y2 =>
  ((loop (t2 (Zz y)) ((-1), 0)) : Option ((Int))).bind (t1 fun (mark : Int) =>
  if ((!y2.2) || (decide (mark < 0))) = true then
  some ((api_Sample.mk 0 0 0), false)
  else
  (ZX mark).bind fun y4 =>
  if (!y4) = true then
  some ((api_Sample.mk y2.1 0 mark), (decide ((y.length : Int) = 2)))
  else
  if (!decide ((y.length : Int) = 3)) = true then
  some ((api_Sample.mk 0 0 0), false)
  else
  (idx y 2).bind fun x4 =>
  (ZY x4 18).bind fun y5 =>
  some ((api_Sample.mk y2.1 y5.1 mark), y5.2))

noncomputable def Qw (y : (List Str) × Bool) (Den2 : Int) (Samples2 : List api_Sample) (i : Int) : Option ((Int × (List api_Sample) × Int) ⊕ (api_Series × Int × Int) ⊕ (Int × (List api_Sample))) :=
  if (decide (i < (y.1.length : Int))) = true then
  ((if (decide (i = 0)) = true then
  (idx y.1 0).bind fun x =>
  (QY x).bind fun y2 =>
  (gd ((decide ((y2.length : Int) = 2)) == true) [] (idx y2 0)).bind fun x2 =>
  ((if ((decide ((y2.length : Int) = 2)) && (decide (x2 = [115, 101, 114, 105, 101, 115]))) = true then
  (idx y2 1).bind fun x3 =>
  (ZY x3 18).bind fun y3 =>
  some (y3.1, y3.2)
  else
  some (Den2, ((decide ((y2.length : Int) = 2)) && (decide (x2 = [115, 101, 114, 105, 101, 115]))))) : Option ((Int × Bool))).bind (t2 fun (Den4 : Int) (is : Bool) =>
  some (Den4, Samples2, ((y.2 || (decide ((i64 (i + 1)) < (y.1.length : Int)))) && is)))
  else
  (idx y.1 i).bind fun x4 =>
  (QQ x4).bind fun y4 =>
  (app Samples2 ([y4.1] : List api_Sample)).bind fun l =>
  some (Den2, l, ((y.2 || (decide ((i64 (i + 1)) < (y.1.length : Int)))) && y4.2))) : Option ((Int × (List api_Sample) × Bool))).bind (t3 fun (Den3 : Int) (Samples3 : List api_Sample) (fine : Bool) =>
  if (!fine) = true then
  some (.inr (.inl ((api_Series.mk 0 []), i, 6)))
  else
  some (.inl (Den3, Samples3, (i64 (i + 1)))))
  else
  some (.inr (.inr (Den2, Samples2)))

noncomputable def XK (text : Str) : Option (api_Series × Int × Int) :=
  if (decide (1000000 < (text.length : Int))) = true then
  some ((api_Series.mk 0 []), 0, 3)
  else
  (XS text).bind fun y =>
  if (decide ((y.1.length : Int) = 0)) = true then
  some ((api_Series.mk 0 []), 0, 6)
  else
  ((loop (t3 (Qw y)) (0, [], 0)) : Option ((api_Series × Int × Int) ⊕ (Int × (List api_Sample)))).bind (Sum.elim (fun q' => some q') (t2 fun (Den : Int) (Samples : List api_Sample) =>
  (Xd (api_Series.mk Den Samples)).bind fun y5 =>
  if (!decide (y5.2 = 0)) = true then
  some ((api_Series.mk 0 []), (i64 (y5.1 + 1)), y5.2)
  else
  some ((api_Series.mk Den Samples), 0, 0)))

noncomputable def QG (i : Int) : Option Str :=
  if (decide (i < 10)) = true then
  (slc [48, 49, 50, 51, 52, 53, 54, 55, 56, 57, 97, 98, 99, 100, 101, 102, 103, 104, 105, 106, 107, 108, 109, 110, 111, 112, 113, 114, 115, 116, 117, 118, 119, 120, 121, 122] i (i64 (i + 1))).bind fun s =>
  some s
  else
  (slc [48, 48, 48, 49, 48, 50, 48, 51, 48, 52, 48, 53, 48, 54, 48, 55, 48, 56, 48, 57, 49, 48, 49, 49, 49, 50, 49, 51, 49, 52, 49, 53, 49, 54, 49, 55, 49, 56, 49, 57, 50, 48, 50, 49, 50, 50, 50, 51, 50, 52, 50, 53, 50, 54, 50, 55, 50, 56, 50, 57, 51, 48, 51, 49, 51, 50, 51, 51, 51, 52, 51, 53, 51, 54, 51, 55, 51, 56, 51, 57, 52, 48, 52, 49, 52, 50, 52, 51, 52, 52, 52, 53, 52, 54, 52, 55, 52, 56, 52, 57, 53, 48, 53, 49, 53, 50, 53, 51, 53, 52, 53, 53, 53, 54, 53, 55, 53, 56, 53, 57, 54, 48, 54, 49, 54, 50, 54, 51, 54, 52, 54, 53, 54, 54, 54, 55, 54, 56, 54, 57, 55, 48, 55, 49, 55, 50, 55, 51, 55, 52, 55, 53, 55, 54, 55, 55, 55, 56, 55, 57, 56, 48, 56, 49, 56, 50, 56, 51, 56, 52, 56, 53, 56, 54, 56, 55, 56, 56, 56, 57, 57, 48, 57, 49, 57, 50, 57, 51, 57, 52, 57, 53, 57, 54, 57, 55, 57, 56, 57, 57] (i64 (i * 2)) (i64 ((i64 (i * 2)) + 2))).bind fun s2 =>
  some s2

noncomputable def ZT (dst_ : List Int) (i : Int) (base : Int) : Option (List Int) :=
  if (decide (base = 10)) = true then
  if (decide (i < 100)) = true then
  (QG (i64 i)).bind fun y =>
  (app dst_ (bytes y)).bind fun l =>
  some l
  else
  (Jc i).bind fun y2 =>
  (slc (Vector.replicate 24 0).toList 0 y2).bind fun l2 =>
  (Zb0 (Vector.replicate 24 0) (Int.toNat (y2 - 0)) i).bind fun y3 =>
  (slc y3.toList 0 y2).bind fun l3 =>
  (slc y3.toList 0 y2).bind fun l4 =>
  (app dst_ l4).bind fun l5 =>
  some l5
  else
  none

noncomputable def Qr (dst_ : List Int) (i : Int) (base : Int) : Option (List Int) :=
  ((if (decide (i < 0)) = true then
  (app dst_ ([45] : List Int)).bind fun l =>
  some (l, (u64 (-(u64 i))))
  else
  some (dst_, (u64 i))) : Option (((List Int) × Int))).bind (t2 fun (o : List Int) (u : Int) =>
  (ZT o u base).bind fun y =>
  some y)

noncomputable def Z8 (dst_ : List Int) (i : Int) (base : Int) : Option (List Int) :=
  (Qr dst_ i base).bind fun y =>
  some y

noncomputable def ZU (k : ref0_Ink) (n : Int) : Option ref0_Ink :=
  (Z8 k.out n 10).bind fun y =>
  (app y ([32] : List Int)).bind fun l =>
  some (ref0_Ink.mk l)

noncomputable def QI (l : List Int) (out : List Int) (i : Int) : Option (((List Int) × Int) ⊕ (ref0_Ink)) :=
  if (decide (i < (l.length : Int))) = true then
  (idx l i).bind fun x =>
  (ZU (ref0_Ink.mk out) x).bind fun y2 =>
  some (.inl (y2.out, (i64 (i + 1))))
  else
  some (.inr (ref0_Ink.mk out))

noncomputable def QS (k : ref0_Ink) (l : List Int) : Option ref0_Ink :=
  (ZU k (l.length : Int)).bind fun y =>
  loop (t2 (QI l)) (y.out, 0)

noncomputable def Qu (k : ref0_Ink) (x : api_Sample) : Option ref0_Ink :=
  (QS k ([x.At, x.N, x.Mark] : List Int)).bind fun y =>
  some y

noncomputable def Qs (s : api_Series) (out : List Int) (i : Int) : Option (((List Int) × Int) ⊕ (ref0_Ink)) :=
  if (decide (i < (s.Samples.length : Int))) = true then
  (idx s.Samples i).bind fun x =>
  (Qu (ref0_Ink.mk out) x).bind fun y3 =>
  some (.inl (y3.out, (i64 (i + 1))))
  else
  some (.inr (ref0_Ink.mk out))

noncomputable def Qv (k : ref0_Ink) (s : api_Series) : Option ref0_Ink :=
  (ZU k s.Den).bind fun y =>
  (ZU y (s.Samples.length : Int)).bind fun y2 =>
  loop (t2 (Qs s)) (y2.out, 0)

noncomputable def Q5 (k : ref0_Ink) (e : Int) : Option ref0_Ink :=
  (ZU k e).bind fun y =>
  some y

noncomputable def Xi (k : ref0_Ink) : Option Str :=
  some (ZI k.out)

noncomputable def Q0 (s : api_Series) (e : Int) : Option Str :=
  (Qv (ref0_Ink.mk []) s).bind fun y =>
  (Q5 y e).bind fun y2 =>
  (Xi y2).bind fun y3 =>
  some y3

noncomputable def Zf (x : List api_Sample) (target : Int) (cmp : api_Sample → Int → Option Int) (i2 : Int) (j : Int) : Option ((Int × Int) ⊕ (Int)) :=
  if (decide (i2 < j)) = true then
  (shr .u64 (u64 (i64 (i2 + j))) 1).bind fun q =>
  (idx x (i64 q)).bind fun x2 =>
  (cmp x2 target).bind fun y =>
  if (decide (y < 0)) = true then
  some (.inl ((i64 ((i64 q) + 1)), j))
  else
  some (.inl (i2, (i64 q)))
  else
  some (.inr i2)

noncomputable def Zh (x : List api_Sample) (target : Int) (cmp : api_Sample → Int → Option Int) : Option (Int × Bool) :=
  ((loop (t2 (Zf x target cmp)) (0, (x.length : Int))) : Option ((Int))).bind (t1 fun (i : Int) =>
  (gd ((decide (i < (x.length : Int))) == true) (api_Sample.mk 0 0 0) (idx x i)).bind fun x3 =>
  (gd ((decide (i < (x.length : Int))) == true) 0 (cmp x3 target)).bind fun y2 =>
  some (i, ((decide (i < (x.length : Int))) && (decide (y2 = 0)))))

noncomputable def ZS (x : api_Sample) (at_ : Int) : Option Int :=
  some (i64 (x.At - at_))

noncomputable def QP (s : api_Series) (at_ : Int) : Option Int :=
  (Zh s.Samples at_ (fun z0 z1 => ZS z0 z1)).bind fun y =>
  if y.2 = true then
  some y.1
  else
  some (i64 (y.1 - 1))

noncomputable def XB (x : api_Sample) : Option Bool :=
  some (decide (3 ≤ x.Mark))

noncomputable def Xp (s : api_Series) (at_ : Int) (long : Int) : Option (api_Sample × Bool) :=
  (QP s at_).bind fun y =>
  (gd ((decide (y < 0)) == false) (api_Sample.mk 0 0 0) (idx s.Samples y)).bind fun x =>
  (gd ((decide (y < 0)) == false) false (XB x)).bind fun y2 =>
  (gd (((decide (y < 0)) || (!y2)) == false) (api_Sample.mk 0 0 0) (idx s.Samples y)).bind fun x2 =>
  if (((decide (y < 0)) || (!y2)) || (decide (long < (i64 (at_ - x2.At))))) = true then
  some ((api_Sample.mk 0 0 0), false)
  else
  (idx s.Samples y).bind fun x3 =>
  some (x3, true)

noncomputable def Xs (s : api_Series) (at_ : Int) (long : Int) : Option (api_Sample × Bool × Int) :=
  (QL s).bind fun y =>
  if (!decide (y = 0)) = true then
  some ((api_Sample.mk 0 0 0), false, y)
  else
  (ZO at_ 0 1099511627776).bind fun y2 =>
  (gd ((!y2) == false) false (ZO long 0 1099511627776)).bind fun y3 =>
  if ((!y2) || (!y3)) = true then
  some ((api_Sample.mk 0 0 0), false, 9)
  else
  (Xp s at_ long).bind fun y4 =>
  some (y4.1, y4.2, 0)

noncomputable def Xe  : Option Bool :=
  (Xs (api_Series.mk 1 ([(api_Sample.mk 5 7 4)] : List api_Sample)) 9 4).bind fun y =>
  some ((y.2.1 && (decide (y.2.2 = 0))) && (decide (y.1.At = 5) && (decide (y.1.N = 7) && (decide (y.1.Mark = 4) && true))))

noncomputable def ZJ (s : api_Series) (text : Str) : Option Bool :=
  (Q9 s).bind fun y =>
  (XT s).bind fun y2 =>
  if ((!decide (y.1 = y2.1)) || (!decide (y.2 = y2.2))) = true then
  some false
  else
  (Z9 text).bind fun y3 =>
  (XK text).bind fun y4 =>
  (Q0 y3.1 y3.2.2).bind fun y5 =>
  (Q0 y4.1 y4.2.2).bind fun y6 =>
  if ((!decide (y5 = y6)) || (!decide (y3.2.1 = y4.2.1))) = true then
  some false
  else
  if (decide (y.2 = 0)) = true then
  (Z9 y.1).bind fun y7 =>
  (Q0 y7.1 y7.2.2).bind fun y8 =>
  (Q0 s 0).bind fun y9 =>
  if ((!decide (y8 = y9)) || (!decide (y7.2.1 = 0))) = true then
  some false
  else
  (Xe).bind fun y10 =>
  some y10
  else
  (Xe).bind fun y11 =>
  some y11
end Go.Vx
