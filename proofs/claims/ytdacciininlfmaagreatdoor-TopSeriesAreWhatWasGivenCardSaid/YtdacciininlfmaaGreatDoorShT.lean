/- A text of the proof: a verified executor of the program form, or the contracts of the functions that the law reaches. -/
import Derived.Test.YtdacciininlfmaaGreatDoorShLib
set_option linter.all false
namespace Go.Vx
open Go Go.RowKit
set_option linter.unusedVariables false
structure api_Part where
  Frame : Int
  Word : Int
  Low : Int
  Bits : Int
structure api_Param where
  Name : Str
  Kind : Int
  Parts : List api_Part
  First : Int
  Every : Int
  Times : Int
  Step : Int
  Names : List Str
structure api_Map where
  Version : Int
  Params : List api_Param
structure api_Line where
  From : Int
  To : Int
  A_ : Int
  B : Int
structure api_Calibration where
  Den : Int
  Lines : List api_Line
  Low : Int
  High : Int
structure api_Place where
  Frame : Int
  Word : Int
  Low : Int
  Bits : Int
structure api_Cell where
  Param : Int
  Index : Int
  Frame : Int
  Places : List api_Place
structure layout_bit where
  frame : Int
  word : Int
  bit : Int
structure layout_number where
  low : Int
  high : Int
  encode : Fv (Int → Option Int)
  decode : Fv (Int → Option (Int × Bool))
structure api_Rest where
  Number : Int
  Frame : Vector Int 64
  States : Vector Int 64
  Sound : Bool
  Copies : Int
  Conflict : Bool
structure api_Sample where
  At : Int
  N : Int
  Mark : Int
structure api_Series where
  Den : Int
  Samples : List api_Sample

noncomputable def Jx (x : Int) : Option Int :=
  (shr .u16 x 8).bind fun q =>
  (Zhx [0, 1, 1, 2, 1, 2, 2, 3, 1, 2, 2, 3, 2, 3, 3, 4, 1, 2, 2, 3, 2, 3, 3, 4, 2, 3, 3, 4, 3, 4, 4, 5, 1, 2, 2, 3, 2, 3, 3, 4, 2, 3, 3, 4, 3, 4, 4, 5, 2, 3, 3, 4, 3, 4, 4, 5, 3, 4, 4, 5, 4, 5, 5, 6, 1, 2, 2, 3, 2, 3, 3, 4, 2, 3, 3, 4, 3, 4, 4, 5, 2, 3, 3, 4, 3, 4, 4, 5, 3, 4, 4, 5, 4, 5, 5, 6, 2, 3, 3, 4, 3, 4, 4, 5, 3, 4, 4, 5, 4, 5, 5, 6, 3, 4, 4, 5, 4, 5, 5, 6, 4, 5, 5, 6, 5, 6, 6, 7, 1, 2, 2, 3, 2, 3, 3, 4, 2, 3, 3, 4, 3, 4, 4, 5, 2, 3, 3, 4, 3, 4, 4, 5, 3, 4, 4, 5, 4, 5, 5, 6, 2, 3, 3, 4, 3, 4, 4, 5, 3, 4, 4, 5, 4, 5, 5, 6, 3, 4, 4, 5, 4, 5, 5, 6, 4, 5, 5, 6, 5, 6, 6, 7, 2, 3, 3, 4, 3, 4, 4, 5, 3, 4, 4, 5, 4, 5, 5, 6, 3, 4, 4, 5, 4, 5, 5, 6, 4, 5, 5, 6, 5, 6, 6, 7, 3, 4, 4, 5, 4, 5, 5, 6, 4, 5, 5, 6, 5, 6, 6, 7, 4, 5, 5, 6, 5, 6, 6, 7, 5, 6, 6, 7, 6, 7, 7, 8] q).bind fun b =>
  (Zhx [0, 1, 1, 2, 1, 2, 2, 3, 1, 2, 2, 3, 2, 3, 3, 4, 1, 2, 2, 3, 2, 3, 3, 4, 2, 3, 3, 4, 3, 4, 4, 5, 1, 2, 2, 3, 2, 3, 3, 4, 2, 3, 3, 4, 3, 4, 4, 5, 2, 3, 3, 4, 3, 4, 4, 5, 3, 4, 4, 5, 4, 5, 5, 6, 1, 2, 2, 3, 2, 3, 3, 4, 2, 3, 3, 4, 3, 4, 4, 5, 2, 3, 3, 4, 3, 4, 4, 5, 3, 4, 4, 5, 4, 5, 5, 6, 2, 3, 3, 4, 3, 4, 4, 5, 3, 4, 4, 5, 4, 5, 5, 6, 3, 4, 4, 5, 4, 5, 5, 6, 4, 5, 5, 6, 5, 6, 6, 7, 1, 2, 2, 3, 2, 3, 3, 4, 2, 3, 3, 4, 3, 4, 4, 5, 2, 3, 3, 4, 3, 4, 4, 5, 3, 4, 4, 5, 4, 5, 5, 6, 2, 3, 3, 4, 3, 4, 4, 5, 3, 4, 4, 5, 4, 5, 5, 6, 3, 4, 4, 5, 4, 5, 5, 6, 4, 5, 5, 6, 5, 6, 6, 7, 2, 3, 3, 4, 3, 4, 4, 5, 3, 4, 4, 5, 4, 5, 5, 6, 3, 4, 4, 5, 4, 5, 5, 6, 4, 5, 5, 6, 5, 6, 6, 7, 3, 4, 4, 5, 4, 5, 5, 6, 4, 5, 5, 6, 5, 6, 6, 7, 4, 5, 5, 6, 5, 6, 6, 7, 5, 6, 6, 7, 6, 7, 7, 8] (XJ .u16 x 255)).bind fun b2 =>
  some (i64 (u8 (b + b2)))

noncomputable def J4 (w : Int) : Option Bool :=
  (gd ((decide (w ≤ 4095)) == true) 0 (Jx w)).bind fun y =>
  (gd ((decide (w ≤ 4095)) == true) 0 (rem y 2)).bind fun q =>
  some ((decide (w ≤ 4095)) && (decide (q = 1)))

noncomputable def QQ (data : Int) : Option Int :=
  (J4 (u16 data)).bind fun y =>
  if (!y) = true then
  some (bor .u16 (u16 data) 2048)
  else
  some (u16 data)

noncomputable def Xv (w : Int) : Option Int :=
  some (i64 (XJ .u16 w 2047))

noncomputable def QP (f : Vector Int 64) : Option Int :=
  (ZI f 1).bind fun x =>
  (Xv x).bind fun y =>
  (ZI f 2).bind fun x2 =>
  (Xv x2).bind fun y2 =>
  (shl .i64 y2 11).bind fun q =>
  some (bor .i64 y q)

def gv_frame_syncs : Vector Int 4 := #v[583, 1464, 2631, 3512]

noncomputable def XP (f : Vector Int 64) (n2 : Int) (i : Int) : Option ((Int × Int) ⊕ (Int)) :=
  if (decide (i < 60)) = true then
  (ZI f (i64 (i + 1))).bind fun x =>
  (Xv x).bind fun y =>
  some (.inl ((ZhK .i64 n2 y), (i64 (i + 1))))
  else
  some (.inr n2)

noncomputable def JB (f : Vector Int 64) : Option Int :=
  ((loop (t2 (XP f)) (0, 0)) : Option ((Int))).bind (t1 fun (n : Int) =>
  some n)

noncomputable def QJ (f : Vector Int 64) (i : Int) (n4 : Int) (k : Int) : Option ((Int × Int) ⊕ (Int)) :=
  if (decide (0 ≤ k)) = true then
  (shl .i64 n4 1).bind fun q =>
  (ZI f i).bind fun x =>
  (shr .u16 x k).bind fun q2 =>
  if (!((!decide ((XJ .i64 n4 2097152) = 0)) == (decide ((XJ .u16 q2 1) = 1)))) = true then
  some (.inl ((ZhK .i64 (XJ .i64 q 4194303) 2097167), (i64 (k - 1))))
  else
  some (.inl ((XJ .i64 q 4194303), (i64 (k - 1))))
  else
  some (.inr n4)

noncomputable def Q2 (f : Vector Int 64) (n2 : Int) (i : Int) : Option ((Int × Int) ⊕ (Int)) :=
  if (decide (i < 62)) = true then
  ((loop (t2 (QJ f i)) (n2, 11)) : Option ((Int))).bind (t1 fun (n3 : Int) =>
  some (.inl (n3, (i64 (i + 1)))))
  else
  some (.inr n2)

noncomputable def XE (f : Vector Int 64) : Option Int :=
  ((loop (t2 (Q2 f)) (0, 0)) : Option ((Int))).bind (t1 fun (n : Int) =>
  some n)

noncomputable def JF (f : Vector Int 64) : Option (Vector Int 64) :=
  (QP f).bind fun y =>
  (rem y 4).bind fun q =>
  (ZI gv_frame_syncs q).bind fun x =>
  (ZI f 0).bind fun x2 =>
  (JB (Qd f 0 x)).bind fun y2 =>
  (QQ y2).bind fun y3 =>
  (ZI (Qd f 0 x) 61).bind fun x3 =>
  (XE (Qd (Qd f 0 x) 61 y3)).bind fun y4 =>
  (shr .i64 y4 11).bind fun q2 =>
  (QQ q2).bind fun y5 =>
  (QQ (XJ .i64 y4 2047)).bind fun y6 =>
  (ZI (Qd (Qd f 0 x) 61 y3) 62).bind fun x4 =>
  (ZI (Qd (Qd (Qd f 0 x) 61 y3) 62 y5) 63).bind fun x5 =>
  some (Qd (Qd (Qd (Qd f 0 x) 61 y3) 62 y5) 63 y6)

noncomputable def Jf (data : List Int) (f2 : Vector Int 64) (i : Int) : Option (((Vector Int 64) × Int) ⊕ ((Vector Int 64) × Int) ⊕ ((Vector Int 64))) :=
  if (decide (i < (data.length : Int))) = true then
  (idx data i).bind fun x3 =>
  if ((decide (x3 < 0)) || (decide (2047 < x3))) = true then
  some (.inr (.inl ((#v[0, 0, 0, 0, 0, 0, 0, 0, 0, 0, 0, 0, 0, 0, 0, 0, 0, 0, 0, 0, 0, 0, 0, 0, 0, 0, 0, 0, 0, 0, 0, 0, 0, 0, 0, 0, 0, 0, 0, 0, 0, 0, 0, 0, 0, 0, 0, 0, 0, 0, 0, 0, 0, 0, 0, 0, 0, 0, 0, 0, 0, 0, 0, 0] : Vector Int 64), 9)))
  else
  (QQ x3).bind fun y3 =>
  (ZI f2 (i64 (3 + i))).bind fun x4 =>
  some (.inl ((Qd f2 (i64 (3 + i)) y3), (i64 (i + 1))))
  else
  some (.inr (.inr f2))

noncomputable def J7 (number : Int) (data : List Int) : Option ((Vector Int 64) × Int) :=
  if ((decide (number < 0)) || (decide (4194304 ≤ number))) = true then
  some ((#v[0, 0, 0, 0, 0, 0, 0, 0, 0, 0, 0, 0, 0, 0, 0, 0, 0, 0, 0, 0, 0, 0, 0, 0, 0, 0, 0, 0, 0, 0, 0, 0, 0, 0, 0, 0, 0, 0, 0, 0, 0, 0, 0, 0, 0, 0, 0, 0, 0, 0, 0, 0, 0, 0, 0, 0, 0, 0, 0, 0, 0, 0, 0, 0] : Vector Int 64), 9)
  else
  if (!decide ((data.length : Int) = 58)) = true then
  some ((#v[0, 0, 0, 0, 0, 0, 0, 0, 0, 0, 0, 0, 0, 0, 0, 0, 0, 0, 0, 0, 0, 0, 0, 0, 0, 0, 0, 0, 0, 0, 0, 0, 0, 0, 0, 0, 0, 0, 0, 0, 0, 0, 0, 0, 0, 0, 0, 0, 0, 0, 0, 0, 0, 0, 0, 0, 0, 0, 0, 0, 0, 0, 0, 0] : Vector Int 64), 3)
  else
  (QQ (XJ .i64 number 2047)).bind fun y =>
  (shr .i64 number 11).bind fun q =>
  (QQ q).bind fun y2 =>
  (ZI (Vector.replicate 64 (0 : Int)) 1).bind fun x =>
  (ZI (Qd (Vector.replicate 64 0) 1 y) 2).bind fun x2 =>
  ((loop (t2 (Jf data)) ((Qd (Qd (Vector.replicate 64 0) 1 y) 2 y2), 0)) : Option (((Vector Int 64) × Int) ⊕ ((Vector Int 64)))).bind (Sum.elim (fun q' => some q') (t1 fun (f : Vector Int 64) =>
  (JF f).bind fun y4 =>
  some (y4, 0)))

noncomputable def ZcF  : Option Bool :=
  (mks 58 0).bind fun l =>
  (idx l 0).bind fun x =>
  (J7 2050 (l.set (Int.toNat 0) 5)).bind fun y =>
  (gd ((decide (y.2 = 0)) == true) 0 (ZI y.1 0)).bind fun x2 =>
  (gd (((decide (y.2 = 0)) && (decide (x2 = 2631))) == true) 0 (ZI y.1 1)).bind fun x3 =>
  (gd ((((decide (y.2 = 0)) && (decide (x2 = 2631))) && (decide (x3 = 2))) == true) 0 (ZI y.1 2)).bind fun x4 =>
  (gd (((((decide (y.2 = 0)) && (decide (x2 = 2631))) && (decide (x3 = 2))) && (decide (x4 = 1))) == true) 0 (ZI y.1 3)).bind fun x5 =>
  some (((((decide (y.2 = 0)) && (decide (x2 = 2631))) && (decide (x3 = 2))) && (decide (x4 = 1))) && (decide (x5 = 2053)))

noncomputable def Z6 (n : Int) (low : Int) (high : Int) : Option Bool :=
  some ((decide (low ≤ n)) && (decide (n ≤ high)))

noncomputable def Za3 (c_ : Int) : Option Bool :=
  some (!((((decide (97 ≤ c_)) && (decide (c_ ≤ 122))) || ((decide (48 ≤ c_)) && (decide (c_ ≤ 57)))) || (decide (c_ = 45))))

noncomputable def J9 (s : Str) : Option Bool :=
  (gd (((decide ((s.length : Int) < 1)) || (decide (30 < (s.length : Int)))) == false) 0 (Zhx s 0)).bind fun b =>
  (gd ((((decide ((s.length : Int) < 1)) || (decide (30 < (s.length : Int)))) || (decide (b < 97))) == false) 0 (Zhx s 0)).bind fun b2 =>
  if ((((decide ((s.length : Int) < 1)) || (decide (30 < (s.length : Int)))) || (decide (b < 97))) || (decide (122 < b2))) = true then
  some false
  else
  (ZaL s (fun z0 => Za3 z0)).bind fun y =>
  some (!y)

noncomputable def XI (p : api_Param) (n2 : Int) (i : Int) : Option ((Int × Int) ⊕ (Int)) :=
  if (decide (i < (p.Parts.length : Int))) = true then
  (idx p.Parts i).bind fun x =>
  some (.inl ((i64 (n2 + x.Bits)), (i64 (i + 1))))
  else
  some (.inr n2)

noncomputable def Xb (p : api_Param) : Option Int :=
  ((loop (t2 (XI p)) (0, 0)) : Option ((Int))).bind (t1 fun (n : Int) =>
  some n)

noncomputable def Qj (s : List Int) (v : Int) (i : Int) : Option ((Int) ⊕ (Int) ⊕ (Unit)) :=
  if (decide (i < (s.length : Int))) = true then
  (idx s i).bind fun x =>
  if (decide (v = x)) = true then
  some (.inr (.inl i))
  else
  some (.inl (i64 (i + 1)))
  else
  some (.inr (.inr ()))

noncomputable def X8 (s : List Int) (v : Int) : Option Int :=
  ((loop (t1 (Qj s v)) 0) : Option ((Int) ⊕ (Unit))).bind (Sum.elim (fun q' => some q') (t0 (some (-1))))

noncomputable def QH (s : List Int) (v : Int) : Option Bool :=
  (X8 s v).bind fun y =>
  some (decide (0 ≤ y))

noncomputable def Qm (p : api_Param) (i : Int) : Option ((Int) ⊕ (Int) ⊕ (Unit)) :=
  if (decide (i < (p.Parts.length : Int))) = true then
  (idx p.Parts i).bind fun x =>
  (Z6 x.Frame 0 15).bind fun y =>
  (gd ((!y) == false) false (Z6 x.Word 4 60)).bind fun y2 =>
  (gd (((!y) || (!y2)) == false) false (Z6 x.Low 0 10)).bind fun y3 =>
  (gd ((((!y) || (!y2)) || (!y3)) == false) false (Z6 x.Bits 1 (i64 (11 - x.Low)))).bind fun y4 =>
  if ((((!y) || (!y2)) || (!y3)) || (!y4)) = true then
  some (.inr (.inl 9))
  else
  some (.inl (i64 (i + 1)))
  else
  some (.inr (.inr ()))

noncomputable def Xf (p : api_Param) (i2 : Int) : Option ((Int) ⊕ (Int) ⊕ (Unit)) :=
  if (decide (i2 < (p.Parts.length : Int))) = true then
  (idx p.Parts i2).bind fun x2 =>
  if ((decide (60 < p.Step)) || (decide (60 < (i64 (x2.Word + (i64 ((i64 (p.Times - 1)) * p.Step))))))) = true then
  some (.inr (.inl 9))
  else
  some (.inl (i64 (i2 + 1)))
  else
  some (.inr (.inr ()))

noncomputable def Jc (p : api_Param) : Option Int :=
  if (decide ((p.Parts.length : Int) = 0)) = true then
  some 13
  else
  if (decide (8 < (p.Parts.length : Int))) = true then
  some 3
  else
  ((loop (t1 (Qm p)) 0) : Option ((Int) ⊕ (Unit))).bind (Sum.elim (fun q' => some q') (t0 ((Xb p).bind fun y5 =>
  if (decide (40 < y5)) = true then
  some 3
  else
  (QH ([1, 2, 4, 8, 16] : List Int) p.Every).bind fun y6 =>
  (gd ((!y6) == false) false (Z6 p.First 0 (i64 (p.Every - 1)))).bind fun y7 =>
  (gd (((!y6) || (!y7)) == false) false (Z6 p.Times 1 57)).bind fun y8 =>
  if (((((!y6) || (!y7)) || (!y8)) || (decide (p.Step < 0))) || (!((decide (p.Step = 0)) == (decide (p.Times = 1))))) = true then
  some 9
  else
  ((loop (t1 (Xf p)) 0) : Option ((Int) ⊕ (Unit))).bind (Sum.elim (fun q' => some q') (t0 (some 0))))))

noncomputable def ZZ (s : List Str) (v : Str) (i : Int) : Option ((Int) ⊕ (Int) ⊕ (Unit)) :=
  if (decide (i < (s.length : Int))) = true then
  (idx s i).bind fun x =>
  if (decide (v = x)) = true then
  some (.inr (.inl i))
  else
  some (.inl (i64 (i + 1)))
  else
  some (.inr (.inr ()))

noncomputable def QS (s : List Str) (v : Str) : Option Int :=
  ((loop (t1 (ZZ s v)) 0) : Option ((Int) ⊕ (Unit))).bind (Sum.elim (fun q' => some q') (t0 (some (-1))))

noncomputable def Qc (s : List Str) (v : Str) : Option Bool :=
  (QS s v).bind fun y =>
  some (decide (0 ≤ y))

noncomputable def Xd (p : api_Param) (i : Int) : Option ((Int) ⊕ (Int) ⊕ (Unit)) :=
  if (decide (i < (p.Names.length : Int))) = true then
  (idx p.Names i).bind fun x =>
  (J9 x).bind fun y2 =>
  if (!y2) = true then
  some (.inr (.inl 8))
  else
  (slc p.Names 0 i).bind fun l =>
  (Qc l x).bind fun y3 =>
  if y3 = true then
  some (.inr (.inl 5))
  else
  some (.inl (i64 (i + 1)))
  else
  some (.inr (.inr ()))

noncomputable def Jb (p : api_Param) : Option Int :=
  (Xb p).bind fun y =>
  (gd ((decide (p.Kind = 4)) == true) 0 (rem y 4)).bind fun q =>
  if ((((decide (p.Kind = 4)) && (!decide (q = 0))) || ((decide (p.Kind = 5)) && (!decide (y = 1)))) || (((decide (p.Kind = 2)) || (decide (p.Kind = 3))) && (decide (y = 1)))) = true then
  some 2
  else
  if (!decide (p.Kind = 6)) = true then
  if (decide (0 < (p.Names.length : Int))) = true then
  some 2
  else
  some 0
  else
  if (decide ((p.Names.length : Int) = 0)) = true then
  some 13
  else
  (gd ((decide (64 < (p.Names.length : Int))) == false) 0 (shl .i64 1 y)).bind fun q2 =>
  if ((decide (64 < (p.Names.length : Int))) || (decide (q2 < (p.Names.length : Int)))) = true then
  some 3
  else
  ((loop (t1 (Xd p)) 0) : Option ((Int) ⊕ (Unit))).bind (Sum.elim (fun q' => some q') (t0 (some 0)))

noncomputable def ZV (s : List api_Part) (f : api_Part → Option Bool) (i : Int) : Option ((Int) ⊕ (Int) ⊕ (Unit)) :=
  if (decide (i < (s.length : Int))) = true then
  (idx s i).bind fun x =>
  (f x).bind fun y =>
  if y = true then
  some (.inr (.inl i))
  else
  some (.inl (i64 (i + 1)))
  else
  some (.inr (.inr ()))

noncomputable def Qe (s : List api_Part) (f : api_Part → Option Bool) : Option Int :=
  ((loop (t1 (ZV s f)) 0) : Option ((Int) ⊕ (Unit))).bind (Sum.elim (fun q' => some q') (t0 (some (-1))))

noncomputable def ZW (s : List api_Part) (f : api_Part → Option Bool) : Option Bool :=
  (Qe s f).bind fun y =>
  some (decide (0 ≤ y))

noncomputable def X6 (x : api_Part) (c0 : Int) : Option Bool :=
  some (decide (16 ≤ (i64 (c0 + x.Frame))))

noncomputable def QK (p : api_Param) (out2 : List Int) (f : Int) : Option (((List Int) × Int) ⊕ ((List Int))) :=
  if (decide (f < 16)) = true then
  (((ZW p.Parts (fun z0 => X6 z0 f)).bind fun y =>
  if (!y) = true then
  (app out2 ([f] : List Int)).bind fun l =>
  some l
  else
  some out2) : Option (((List Int)))).bind (t1 fun (out3 : List Int) =>
  some (.inl (out3, (i64 (f + p.Every)))))
  else
  some (.inr out2)

noncomputable def Zae (p : api_Param) : Option (List Int) :=
  ((loop (t2 (QK p)) ([], p.First)) : Option (((List Int)))).bind (t1 fun (out : List Int) =>
  some out)

noncomputable def Zay (p : api_Param) (x : api_Part) (f : Int) (j : Int) : Option api_Place :=
  some (api_Place.mk (i64 (f + x.Frame)) (i64 (x.Word + (i64 (j * p.Step)))) x.Low x.Bits)

noncomputable def Qv (p : api_Param) (x : Int) (i2 : Int) (Places2 : List api_Place) (i3 : Int) : Option (((List api_Place) × Int) ⊕ ((List api_Place))) :=
  if (decide (i3 < (p.Parts.length : Int))) = true then
  (idx p.Parts i3).bind fun x2 =>
  (Zay p x2 x i2).bind fun y2 =>
  (app Places2 ([y2] : List api_Place)).bind fun l =>
  some (.inl (l, (i64 (i3 + 1))))
  else
  some (.inr Places2)

noncomputable def Zbq (number : Int) (p : api_Param) (x : Int) (out4 : List api_Cell) (i2 : Int) : Option (((List api_Cell) × Int) ⊕ ((List api_Cell))) :=
  if (decide (i2 < p.Times)) = true then
  ((loop (t2 (Qv p x i2)) ([], 0)) : Option (((List api_Place)))).bind (t1 fun (Places : List api_Place) =>
  (app out4 ([(api_Cell.mk number (out4.length : Int) x Places)] : List api_Cell)).bind fun l2 =>
  some (.inl (l2, (i64 (i2 + 1)))))
  else
  some (.inr out4)

noncomputable def Xr (number : Int) (p : api_Param) (y : (List Int)) (out2 : List api_Cell) (i : Int) : Option (((List api_Cell) × Int) ⊕ ((List api_Cell))) :=
  if (decide (i < (y.length : Int))) = true then
  (((idx y i).bind fun x =>
  loop (t2 (Zbq number p x)) (out2, 0)) : Option (((List api_Cell)))).bind (t1 fun (out3 : List api_Cell) =>
  some (.inl (out3, (i64 (i + 1)))))
  else
  some (.inr out2)

noncomputable def Xg (number : Int) (p : api_Param) : Option (List api_Cell) :=
  (((Zae p).bind fun y =>
  loop (t2 (Xr number p y)) ([], 0)) : Option (((List api_Cell)))).bind (t1 fun (out : List api_Cell) =>
  some out)

def kq_layout_bit (a b : layout_bit) : Bool := (decide (a.frame = b.frame) && (decide (a.word = b.word) && (decide (a.bit = b.bit) && true)))

noncomputable def Jy (x : api_Place) (out2 : List layout_bit) (i : Int) : Option (((List layout_bit) × Int) ⊕ ((List layout_bit))) :=
  if (decide (i < x.Bits)) = true then
  (app out2 ([(layout_bit.mk x.Frame x.Word (i64 (x.Low + i)))] : List layout_bit)).bind fun l =>
  some (.inl (l, (i64 (i + 1))))
  else
  some (.inr out2)

noncomputable def ZaV (x : api_Place) : Option (List layout_bit) :=
  ((loop (t2 (Jy x)) ([], 0)) : Option (((List layout_bit)))).bind (t1 fun (out : List layout_bit) =>
  some out)

noncomputable def XQ (owner : Int) (y : (List layout_bit)) (o4 : List (layout_bit × Int)) (i2 : Int) : Option (((List (layout_bit × Int)) × Int) ⊕ (Bool × (List (layout_bit × Int))) ⊕ ((List (layout_bit × Int)))) :=
  if (decide (i2 < (y.length : Int))) = true then
  (idx y i2).bind fun x2 =>
  (some (ZaW kq_layout_bit o4 x2)).bind fun o5 =>
  if o5.isSome = true then
  some (.inr (.inl (false, o4)))
  else
  some (.inl ((ZfG kq_layout_bit o4 x2 owner), (i64 (i2 + 1))))
  else
  some (.inr (.inr o4))

noncomputable def XO (owner : Int) (l : List api_Place) (o2 : List (layout_bit × Int)) (i : Int) : Option (((List (layout_bit × Int)) × Int) ⊕ (Bool × (List (layout_bit × Int))) ⊕ ((List (layout_bit × Int)))) :=
  if (decide (i < (l.length : Int))) = true then
  (((idx l i).bind fun x =>
  (ZaV x).bind fun y =>
  loop (t2 (XQ owner y)) (o2, 0)) : Option ((Bool × (List (layout_bit × Int))) ⊕ ((List (layout_bit × Int))))).bind (Sum.elim (fun q' => some (.inr (.inl q'))) (t1 fun (o3 : List (layout_bit × Int)) =>
  some (.inl (o3, (i64 (i + 1))))))
  else
  some (.inr (.inr o2))

noncomputable def Zbg (taken : List (layout_bit × Int)) (owner : Int) (l : List api_Place) : Option (Bool × (List (layout_bit × Int))) :=
  ((loop (t2 (XO owner l)) (taken, 0)) : Option ((Bool × (List (layout_bit × Int))) ⊕ ((List (layout_bit × Int))))).bind (Sum.elim (fun q' => some q') (t1 fun (o : List (layout_bit × Int)) =>
  some (true, o)))

noncomputable def QF (y5 : (List api_Cell)) (taken : List (layout_bit × Int)) (i : Int) : Option (((List (layout_bit × Int)) × Int) ⊕ (Int) ⊕ (Unit)) :=
  if (decide (i < (y5.length : Int))) = true then
  (idx y5 i).bind fun x =>
  (Zbg taken 0 x.Places).bind fun y6 =>
  if (!y6.1) = true then
  some (.inr (.inl 5))
  else
  some (.inl (y6.2, (i64 (i + 1))))
  else
  some (.inr (.inr ()))

noncomputable def Xq (p : api_Param) : Option Int :=
  (J9 p.Name).bind fun y =>
  if (!y) = true then
  some 8
  else
  (Z6 p.Kind 1 6).bind fun y2 =>
  if (!y2) = true then
  some 7
  else
  (Jc p).bind fun y3 =>
  if (!decide (y3 = 0)) = true then
  some y3
  else
  (Jb p).bind fun y4 =>
  if (!decide (y4 = 0)) = true then
  some y4
  else
  (Xg 0 p).bind fun y5 =>
  ((loop (t2 (QF y5)) (([] : List (layout_bit × Int)), 0)) : Option ((Int) ⊕ (Unit))).bind (Sum.elim (fun q' => some q') (t0 (if (decide ((y5.length : Int) = 0)) = true then
  some 13
  else
  some 0)))

noncomputable def Zv (s : List api_Param) (f : api_Param → Option Bool) (i : Int) : Option ((Int) ⊕ (Int) ⊕ (Unit)) :=
  if (decide (i < (s.length : Int))) = true then
  (idx s i).bind fun x =>
  (f x).bind fun y =>
  if y = true then
  some (.inr (.inl i))
  else
  some (.inl (i64 (i + 1)))
  else
  some (.inr (.inr ()))

noncomputable def ZB (s : List api_Param) (f : api_Param → Option Bool) : Option Int :=
  ((loop (t1 (Zv s f)) 0) : Option ((Int) ⊕ (Unit))).bind (Sum.elim (fun q' => some q') (t0 (some (-1))))

noncomputable def ZM (s : List api_Param) (f : api_Param → Option Bool) : Option Bool :=
  (ZB s f).bind fun y =>
  some (decide (0 ≤ y))

noncomputable def Zbv (q : api_Param) (c0 : api_Param) : Option Bool :=
  some (decide (q.Name = c0.Name))

noncomputable def JS (m : api_Map) (i : Int) : Option ((Int) ⊕ (Int × Int) ⊕ (Unit)) :=
  if (decide (i < (m.Params.length : Int))) = true then
  (idx m.Params i).bind fun x =>
  (Xq x).bind fun y2 =>
  if (!decide (y2 = 0)) = true then
  some (.inr (.inl (i, y2)))
  else
  (slc m.Params 0 i).bind fun l =>
  (ZM l (fun z0 => Zbv z0 x)).bind fun y3 =>
  if y3 = true then
  some (.inr (.inl (i, 5)))
  else
  some (.inl (i64 (i + 1)))
  else
  some (.inr (.inr ()))

noncomputable def X2 (m : api_Map) (cells : Int) (i2 : Int) : Option ((Int × Int) ⊕ (Int × Int) ⊕ (Unit)) :=
  if (decide (i2 < (m.Params.length : Int))) = true then
  (idx m.Params i2).bind fun x2 =>
  (Zae x2).bind fun y4 =>
  if (decide (4000 < (i64 (cells + (i64 ((y4.length : Int) * x2.Times)))))) = true then
  some (.inr (.inl (i2, 3)))
  else
  some (.inl ((i64 (cells + (i64 ((y4.length : Int) * x2.Times)))), (i64 (i2 + 1))))
  else
  some (.inr (.inr ()))

noncomputable def X1 (i3 : Int) (y5 : (List api_Cell)) (taken3 : List (layout_bit × Int)) (i4 : Int) : Option (((List (layout_bit × Int)) × Int) ⊕ (Int × Int) ⊕ ((List (layout_bit × Int)))) :=
  if (decide (i4 < (y5.length : Int))) = true then
  (idx y5 i4).bind fun x4 =>
  (Zbg taken3 i3 x4.Places).bind fun y6 =>
  if (!y6.1) = true then
  some (.inr (.inl (i3, 5)))
  else
  some (.inl (y6.2, (i64 (i4 + 1))))
  else
  some (.inr (.inr taken3))

noncomputable def X5 (m : api_Map) (taken : List (layout_bit × Int)) (i3 : Int) : Option (((List (layout_bit × Int)) × Int) ⊕ (Int × Int) ⊕ (Unit)) :=
  if (decide (i3 < (m.Params.length : Int))) = true then
  (((idx m.Params i3).bind fun x3 =>
  (Xg i3 x3).bind fun y5 =>
  loop (t2 (X1 i3 y5)) (taken, 0)) : Option ((Int × Int) ⊕ ((List (layout_bit × Int))))).bind (Sum.elim (fun q' => some (.inr (.inl q'))) (t1 fun (taken2 : List (layout_bit × Int)) =>
  some (.inl (taken2, (i64 (i3 + 1))))))
  else
  some (.inr (.inr ()))

noncomputable def JG (m : api_Map) : Option (Int × Int) :=
  (Z6 m.Version 0 2047).bind fun y =>
  if (!y) = true then
  some ((-1), 9)
  else
  if (decide (200 < (m.Params.length : Int))) = true then
  some ((-1), 3)
  else
  ((loop (t1 (JS m)) 0) : Option ((Int × Int) ⊕ (Unit))).bind (Sum.elim (fun q' => some q') (t0 (((loop (t2 (X2 m)) (0, 0)) : Option ((Int × Int) ⊕ (Unit))).bind (Sum.elim (fun q' => some q') (t0 (((loop (t2 (X5 m)) (([] : List (layout_bit × Int)), 0)) : Option ((Int × Int) ⊕ (Unit))).bind (Sum.elim (fun q' => some q') (t0 (some ((-1), 0))))))))))

noncomputable def Zce (m : api_Map) (out2 : List api_Cell) (i : Int) : Option (((List api_Cell) × Int) ⊕ ((List api_Cell))) :=
  if (decide (i < (m.Params.length : Int))) = true then
  (idx m.Params i).bind fun x =>
  (Xg i x).bind fun y =>
  (app out2 y).bind fun l =>
  some (.inl (l, (i64 (i + 1))))
  else
  some (.inr out2)

noncomputable def ZaC (m : api_Map) : Option (List api_Cell) :=
  ((loop (t2 (Zce m)) ([], 0)) : Option (((List api_Cell)))).bind (t1 fun (out : List api_Cell) =>
  some out)

noncomputable def JM (m : api_Map) : Option ((List api_Cell) × Int) :=
  (JG m).bind fun y =>
  if (!decide (y.2 = 0)) = true then
  some ([], y.2)
  else
  (ZaC m).bind fun y2 =>
  some (y2, 0)

noncomputable def ZaZ (m : api_Map) (name : Str) (i : Int) : Option ((Int) ⊕ (Int) ⊕ (Unit)) :=
  if (decide (i < (m.Params.length : Int))) = true then
  (idx m.Params i).bind fun x =>
  if (decide (x.Name = name)) = true then
  some (.inr (.inl i))
  else
  some (.inl (i64 (i + 1)))
  else
  some (.inr (.inr ()))

noncomputable def Zat (m : api_Map) (name : Str) : Option Int :=
  ((loop (t1 (ZaZ m name)) 0) : Option ((Int) ⊕ (Unit))).bind (Sum.elim (fun q' => some q') (t0 (some (-1))))

noncomputable def Qp (n : Int) (low : Int) (high : Int) : Option Bool :=
  some ((decide (n < low)) || (decide (high < n)))

noncomputable def Q8 (c_ : api_Calibration) (i : Int) : Option ((Int) ⊕ (Int) ⊕ (Unit)) :=
  if (decide (i < (c_.Lines.length : Int))) = true then
  (idx c_.Lines i).bind fun x =>
  (Qp x.From (-1099511627776) 1099511627776).bind fun y2 =>
  (gd (y2 == false) false (Qp x.To (-1099511627776) 1099511627776)).bind fun y3 =>
  (gd (((y2 || y3) || (decide (x.To < x.From))) == false) false (Qp x.A_ (-1048576) 1048576)).bind fun y4 =>
  (gd ((((y2 || y3) || (decide (x.To < x.From))) || y4) == false) false (Qp x.B (-1125899906842624) 1125899906842624)).bind fun y5 =>
  if ((((y2 || y3) || (decide (x.To < x.From))) || y4) || y5) = true then
  some (.inr (.inl 9))
  else
  (gd ((decide (0 < i)) == true) (api_Line.mk 0 0 0 0) (idx c_.Lines (i64 (i - 1)))).bind fun x2 =>
  if ((decide (0 < i)) && (decide (x.From ≤ x2.To))) = true then
  some (.inr (.inl 10))
  else
  some (.inl (i64 (i + 1)))
  else
  some (.inr (.inr ()))

noncomputable def Xc (c_ : api_Calibration) (i2 : Int) : Option ((Int) ⊕ (Int) ⊕ (Unit)) :=
  if (decide (i2 < (c_.Lines.length : Int))) = true then
  (idx c_.Lines i2).bind fun x3 =>
  (Qp (i64 ((i64 (x3.A_ * x3.From)) + x3.B)) (-1125899906842624) 1125899906842624).bind fun y6 =>
  (gd (y6 == false) false (Qp (i64 ((i64 (x3.A_ * x3.To)) + x3.B)) (-1125899906842624) 1125899906842624)).bind fun y7 =>
  if (y6 || y7) = true then
  some (.inr (.inl 9))
  else
  some (.inl (i64 (i2 + 1)))
  else
  some (.inr (.inr ()))

noncomputable def QY (c_ : api_Calibration) : Option Int :=
  (Qp c_.Den 1 1000000).bind fun y =>
  if y = true then
  some 9
  else
  if (decide ((c_.Lines.length : Int) = 0)) = true then
  some 13
  else
  if (decide (50 < (c_.Lines.length : Int))) = true then
  some 3
  else
  ((loop (t1 (Q8 c_)) 0) : Option ((Int) ⊕ (Unit))).bind (Sum.elim (fun q' => some q') (t0 (((loop (t1 (Xc c_)) 0) : Option ((Int) ⊕ (Unit))).bind (Sum.elim (fun q' => some q') (t0 ((Qp c_.Low (-1125899906842624) 1125899906842624).bind fun y8 =>
  (gd (y8 == false) false (Qp c_.High (-1125899906842624) 1125899906842624)).bind fun y9 =>
  if ((y8 || y9) || (decide (c_.High < c_.Low))) = true then
  some 9
  else
  some 0))))))

noncomputable def Qy (n : Int) (low : Int) (high : Int) : Option Bool :=
  some ((decide (n < low)) || (decide (high < n)))

noncomputable def Jo (s : Str) (i : Int) : Option ((Int) ⊕ (Bool) ⊕ (Unit)) :=
  if (decide (i < (s.length : Int))) = true then
  (Zhx s i).bind fun b =>
  if (!(((decide (97 ≤ b)) && (decide (b ≤ 122))) || ((decide (0 < i)) && (((decide (48 ≤ b)) && (decide (b ≤ 57))) || (decide (b = 45)))))) = true then
  some (.inr (.inl false))
  else
  some (.inl (i64 (i + 1)))
  else
  some (.inr (.inr ()))

noncomputable def Zbn (s : Str) : Option Bool :=
  ((loop (t1 (Jo s)) 0) : Option ((Bool) ⊕ (Unit))).bind (Sum.elim (fun q' => some q') (t0 (some ((decide (1 ≤ (s.length : Int))) && (decide ((s.length : Int) ≤ 30))))))

noncomputable def Zga (p : api_Param) (n2 : Int) (i : Int) : Option ((Int × Int) ⊕ (Int)) :=
  if (decide (i < (p.Parts.length : Int))) = true then
  (idx p.Parts i).bind fun x =>
  some (.inl ((i64 (n2 + x.Bits)), (i64 (i + 1))))
  else
  some (.inr n2)

noncomputable def ZdI (p : api_Param) : Option Int :=
  ((loop (t2 (Zga p)) (0, 0)) : Option ((Int))).bind (t1 fun (n : Int) =>
  some n)

noncomputable def JE (p : api_Param) (i : Int) : Option ((Int) ⊕ (Int) ⊕ (Unit)) :=
  if (decide (i < (p.Parts.length : Int))) = true then
  (idx p.Parts i).bind fun x =>
  (Qy x.Frame 0 15).bind fun y =>
  (gd (y == false) false (Qy x.Word 4 60)).bind fun y2 =>
  (gd ((y || y2) == false) false (Qy x.Low 0 10)).bind fun y3 =>
  (gd (((y || y2) || y3) == false) false (Qy x.Bits 1 (i64 (11 - x.Low)))).bind fun y4 =>
  if (((y || y2) || y3) || y4) = true then
  some (.inr (.inl 9))
  else
  some (.inl (i64 (i + 1)))
  else
  some (.inr (.inr ()))

noncomputable def JW (p : api_Param) : Option Int :=
  if (decide ((p.Parts.length : Int) = 0)) = true then
  some 13
  else
  if (decide (8 < (p.Parts.length : Int))) = true then
  some 3
  else
  ((loop (t1 (JE p)) 0) : Option ((Int) ⊕ (Unit))).bind (Sum.elim (fun q' => some q') (t0 ((ZdI p).bind fun y5 =>
  if (decide (40 < y5)) = true then
  some 3
  else
  some 0)))

noncomputable def XK (p : api_Param) (i : Int) : Option ((Int) ⊕ (Int) ⊕ (Unit)) :=
  if (decide (i < (p.Parts.length : Int))) = true then
  (idx p.Parts i).bind fun x =>
  if (((decide (1 < p.Times)) && (decide (57 < p.Step))) || (decide (60 < (i64 (x.Word + (i64 ((i64 (p.Times - 1)) * p.Step))))))) = true then
  some (.inr (.inl 9))
  else
  some (.inl (i64 (i + 1)))
  else
  some (.inr (.inr ()))

noncomputable def JU (p : api_Param) : Option Int :=
  ((if (decide (p.Every = 1)) = true then
  if (decide (p.Every = 1)) = true then
  some (.inr ())
  else
  some (.inl 9)
  else
  if (decide (p.Every = 2)) = true then
  if (decide (p.Every = 2)) = true then
  some (.inr ())
  else
  some (.inl 9)
  else
  if (decide (p.Every = 4)) = true then
  if (decide (p.Every = 4)) = true then
  some (.inr ())
  else
  some (.inl 9)
  else
  if (decide (p.Every = 8)) = true then
  if (decide (p.Every = 8)) = true then
  some (.inr ())
  else
  some (.inl 9)
  else
  if (decide (p.Every = 16)) = true then
  some (.inr ())
  else
  some (.inl 9)) : Option ((Int) ⊕ (Unit))).bind (Sum.elim (fun q' => some q') (t0 ((Qy p.First 0 (i64 (p.Every - 1))).bind fun y =>
  (gd (y == false) false (Qy p.Times 1 57)).bind fun y2 =>
  if (((y || y2) || (decide (p.Step < 0))) || (!((decide (p.Step = 0)) == (decide (p.Times = 1))))) = true then
  some 9
  else
  ((loop (t1 (XK p)) 0) : Option ((Int) ⊕ (Unit))).bind (Sum.elim (fun q' => some q') (t0 (some 0))))))

noncomputable def Jh (x : Str) (l : List Str) (i2 : Int) : Option ((Int) ⊕ (Int) ⊕ (Unit)) :=
  if (decide (i2 < (l.length : Int))) = true then
  (idx l i2).bind fun x2 =>
  if (decide (x = x2)) = true then
  some (.inr (.inl 5))
  else
  some (.inl (i64 (i2 + 1)))
  else
  some (.inr (.inr ()))

noncomputable def Jd (p : api_Param) (i : Int) : Option ((Int) ⊕ (Int) ⊕ (Unit)) :=
  if (decide (i < (p.Names.length : Int))) = true then
  (((idx p.Names i).bind fun x =>
  (Zbn x).bind fun y2 =>
  if (!y2) = true then
  some (.inl 8)
  else
  (slc p.Names 0 i).bind fun l =>
  loop (t1 (Jh x l)) 0) : Option ((Int) ⊕ (Unit))).bind (Sum.elim (fun q' => some (.inr (.inl q'))) (t0 (some (.inl (i64 (i + 1))))))
  else
  some (.inr (.inr ()))

noncomputable def Zas (p : api_Param) : Option Int :=
  (ZdI p).bind fun y =>
  (gd ((decide (p.Kind = 4)) == true) 0 (rem y 4)).bind fun q =>
  if ((((decide (p.Kind = 4)) && (!decide (q = 0))) || ((decide (p.Kind = 5)) && (!decide (y = 1)))) || (((decide (p.Kind = 2)) || (decide (p.Kind = 3))) && (decide (y = 1)))) = true then
  some 2
  else
  if (!decide (p.Kind = 6)) = true then
  if (decide (0 < (p.Names.length : Int))) = true then
  some 2
  else
  some 0
  else
  if (decide ((p.Names.length : Int) = 0)) = true then
  some 13
  else
  (gd ((decide (64 < (p.Names.length : Int))) == false) 0 (shl .i64 1 y)).bind fun q2 =>
  if ((decide (64 < (p.Names.length : Int))) || (decide (q2 < (p.Names.length : Int)))) = true then
  some 3
  else
  ((loop (t1 (Jd p)) 0) : Option ((Int) ⊕ (Unit))).bind (Sum.elim (fun q' => some q') (t0 (some 0)))

noncomputable def J5 (p : api_Param) (f : Int) (inside2 : Bool) (i : Int) : Option ((Bool × Int) ⊕ (Bool)) :=
  if (decide (i < (p.Parts.length : Int))) = true then
  (idx p.Parts i).bind fun x =>
  some (.inl ((inside2 && (decide ((i64 (f + x.Frame)) < 16))), (i64 (i + 1))))
  else
  some (.inr inside2)

noncomputable def Zb2 (p : api_Param) (f : Int) (j : Int) (Places2 : List api_Place) (i2 : Int) : Option (((List api_Place) × Int) ⊕ ((List api_Place))) :=
  if (decide (i2 < (p.Parts.length : Int))) = true then
  (idx p.Parts i2).bind fun x2 =>
  (app Places2 ([(api_Place.mk (i64 (f + x2.Frame)) (i64 (x2.Word + (i64 (j * p.Step)))) x2.Low x2.Bits)] : List api_Place)).bind fun l =>
  some (.inl (l, (i64 (i2 + 1))))
  else
  some (.inr Places2)

noncomputable def Zaa (p : api_Param) (number : Int) (f : Int) (Zaj : Bool) (out4 : List api_Cell) (j : Int) : Option (((List api_Cell) × Int) ⊕ ((List api_Cell))) :=
  if ((decide (j < p.Times)) && Zaj) = true then
  ((loop (t2 (Zb2 p f j)) ([], 0)) : Option (((List api_Place)))).bind (t1 fun (Places : List api_Place) =>
  (app out4 ([(api_Cell.mk number (out4.length : Int) f Places)] : List api_Cell)).bind fun l2 =>
  some (.inl (l2, (i64 (j + 1)))))
  else
  some (.inr out4)

noncomputable def XG (p : api_Param) (number : Int) (out2 : List api_Cell) (f : Int) : Option (((List api_Cell) × Int) ⊕ ((List api_Cell))) :=
  if (decide (f < 16)) = true then
  ((((loop (t2 (J5 p f)) (true, 0)) : Option ((Bool))).bind (t1 fun (Zaj : Bool) =>
  loop (t2 (Zaa p number f Zaj)) (out2, 0))) : Option (((List api_Cell)))).bind (t1 fun (out3 : List api_Cell) =>
  some (.inl (out3, (i64 (f + p.Every)))))
  else
  some (.inr out2)

noncomputable def JI (p : api_Param) (number : Int) : Option (List api_Cell) :=
  ((loop (t2 (XG p number)) ([], p.First)) : Option (((List api_Cell)))).bind (t1 fun (out : List api_Cell) =>
  some out)

noncomputable def Q4 (x : api_Place) (o4 : List ((Vector Int 3) × Bool)) (ok4 : Bool) (b : Int) : Option (((List ((Vector Int 3) × Bool)) × Bool × Int) ⊕ ((List ((Vector Int 3) × Bool)) × Bool)) :=
  if (decide (b < (i64 (x.Low + x.Bits)))) = true then
  (gd (ok4 == true) false (some ((ZaW kqV o4 (#v[x.Frame, x.Word, b] : Vector Int 3)).getD false))).bind fun o5 =>
  some (.inl ((ZfG kqV o4 (#v[x.Frame, x.Word, b] : Vector Int 3) true), (ok4 && (!o5)), (i64 (b + 1))))
  else
  some (.inr (o4, ok4))

noncomputable def Q5 (l : List api_Place) (o2 : List ((Vector Int 3) × Bool)) (ok2 : Bool) (i : Int) : Option (((List ((Vector Int 3) × Bool)) × Bool × Int) ⊕ ((List ((Vector Int 3) × Bool)) × Bool)) :=
  if (decide (i < (l.length : Int))) = true then
  (((idx l i).bind fun x =>
  loop (t3 (Q4 x)) (o2, ok2, x.Low)) : Option (((List ((Vector Int 3) × Bool)) × Bool))).bind (t2 fun (o3 : List ((Vector Int 3) × Bool)) (ok3 : Bool) =>
  some (.inl (o3, ok3, (i64 (i + 1)))))
  else
  some (.inr (o2, ok2))

noncomputable def JT (t : List ((Vector Int 3) × Bool)) (l : List api_Place) : Option (Bool × (List ((Vector Int 3) × Bool))) :=
  ((loop (t3 (Q5 l)) (t, true, 0)) : Option (((List ((Vector Int 3) × Bool)) × Bool))).bind (t2 fun (o : List ((Vector Int 3) × Bool)) (ok : Bool) =>
  some (ok, o))

noncomputable def Qw (l : List api_Cell) (o2 : List ((Vector Int 3) × Bool)) (ok2 : Bool) (i : Int) : Option (((List ((Vector Int 3) × Bool)) × Bool × Int) ⊕ ((List ((Vector Int 3) × Bool)) × Bool)) :=
  if (decide (i < (l.length : Int))) = true then
  (idx l i).bind fun x =>
  (JT o2 x.Places).bind fun y =>
  if (!y.1) = true then
  some (.inl (y.2, false, (i64 (i + 1))))
  else
  some (.inl (y.2, ok2, (i64 (i + 1))))
  else
  some (.inr (o2, ok2))

noncomputable def Q0 (t : List ((Vector Int 3) × Bool)) (l : List api_Cell) : Option (Bool × (List ((Vector Int 3) × Bool))) :=
  ((loop (t3 (Qw l)) (t, true, 0)) : Option (((List ((Vector Int 3) × Bool)) × Bool))).bind (t2 fun (o : List ((Vector Int 3) × Bool)) (ok : Bool) =>
  some (ok, o))

noncomputable def JO (p : api_Param) : Option Int :=
  (Zbn p.Name).bind fun y =>
  if (!y) = true then
  some 8
  else
  (Qy p.Kind 1 6).bind fun y2 =>
  if y2 = true then
  some 7
  else
  (JW p).bind fun y3 =>
  if (!decide (y3 = 0)) = true then
  some y3
  else
  (JU p).bind fun y4 =>
  if (!decide (y4 = 0)) = true then
  some y4
  else
  (Zas p).bind fun y5 =>
  if (!decide (y5 = 0)) = true then
  some y5
  else
  (JI p 0).bind fun y6 =>
  (Q0 ([] : List ((Vector Int 3) × Bool)) y6).bind fun y7 =>
  if (!y7.1) = true then
  some 5
  else
  if (decide ((y6.length : Int) = 0)) = true then
  some 13
  else
  some 0

noncomputable def Za1 (i : Int) (x : api_Param) (l : List api_Param) (i2 : Int) : Option ((Int) ⊕ (Int × Int) ⊕ (Unit)) :=
  if (decide (i2 < (l.length : Int))) = true then
  (idx l i2).bind fun x2 =>
  if (decide (x2.Name = x.Name)) = true then
  some (.inr (.inl (i, 5)))
  else
  some (.inl (i64 (i2 + 1)))
  else
  some (.inr (.inr ()))

noncomputable def Za2 (m : api_Map) (i : Int) : Option ((Int) ⊕ (Int × Int) ⊕ (Unit)) :=
  if (decide (i < (m.Params.length : Int))) = true then
  (((idx m.Params i).bind fun x =>
  (JO x).bind fun y2 =>
  if (!decide (y2 = 0)) = true then
  some (.inl (i, y2))
  else
  (slc m.Params 0 i).bind fun l =>
  loop (t1 (Za1 i x l)) 0) : Option ((Int × Int) ⊕ (Unit))).bind (Sum.elim (fun q' => some (.inr (.inl q'))) (t0 (some (.inl (i64 (i + 1))))))
  else
  some (.inr (.inr ()))

noncomputable def Zaf (m : api_Map) (n : Int) (i3 : Int) : Option ((Int × Int) ⊕ (Int × Int) ⊕ (Unit)) :=
  if (decide (i3 < (m.Params.length : Int))) = true then
  (idx m.Params i3).bind fun x3 =>
  (JI x3 i3).bind fun y3 =>
  if (decide (4000 < (i64 (n + (y3.length : Int))))) = true then
  some (.inr (.inl (i3, 3)))
  else
  some (.inl ((i64 (n + (y3.length : Int))), (i64 (i3 + 1))))
  else
  some (.inr (.inr ()))

noncomputable def Zab (m : api_Map) (t : List ((Vector Int 3) × Bool)) (i4 : Int) : Option (((List ((Vector Int 3) × Bool)) × Int) ⊕ (Int × Int) ⊕ (Unit)) :=
  if (decide (i4 < (m.Params.length : Int))) = true then
  (idx m.Params i4).bind fun x4 =>
  (JI x4 i4).bind fun y4 =>
  (Q0 t y4).bind fun y5 =>
  if (!y5.1) = true then
  some (.inr (.inl (i4, 5)))
  else
  some (.inl (y5.2, (i64 (i4 + 1))))
  else
  some (.inr (.inr ()))

noncomputable def ZcQ (m : api_Map) : Option (Int × Int) :=
  (Qy m.Version 0 2047).bind fun y =>
  if y = true then
  some (0, 9)
  else
  if (decide (200 < (m.Params.length : Int))) = true then
  some (0, 3)
  else
  ((loop (t1 (Za2 m)) 0) : Option ((Int × Int) ⊕ (Unit))).bind (Sum.elim (fun q' => some q') (t0 (((loop (t2 (Zaf m)) (0, 0)) : Option ((Int × Int) ⊕ (Unit))).bind (Sum.elim (fun q' => some q') (t0 (((loop (t2 (Zab m)) (([] : List ((Vector Int 3) × Bool)), 0)) : Option ((Int × Int) ⊕ (Unit))).bind (Sum.elim (fun q' => some q') (t0 (some (0, 0))))))))))

noncomputable def ZbX (m : api_Map) (out2 : List api_Cell) (i : Int) : Option (((List api_Cell) × Int) ⊕ ((List api_Cell))) :=
  if (decide (i < (m.Params.length : Int))) = true then
  (idx m.Params i).bind fun x =>
  (JI x i).bind fun y =>
  (app out2 y).bind fun l =>
  some (.inl (l, (i64 (i + 1))))
  else
  some (.inr out2)

noncomputable def Za0 (m : api_Map) : Option (List api_Cell) :=
  ((loop (t2 (ZbX m)) ([], 0)) : Option (((List api_Cell)))).bind (t1 fun (out : List api_Cell) =>
  some out)

noncomputable def ZcT (m : api_Map) : Option ((List api_Cell) × Int) :=
  (ZcQ m).bind fun y =>
  if (!decide (y.2 = 0)) = true then
  some ([], y.2)
  else
  (Za0 m).bind fun y2 =>
  some (y2, 0)

noncomputable def Xm (v : Int) : Option Int :=
  some v

noncomputable def ZaR (raw : Int) (c0 : Int) : Option (Int × Bool) :=
  some (raw, (decide (raw ≤ c0)))

noncomputable def Qu (high : Int) : Option layout_number :=
  some (layout_number.mk 0 high (Fv.mk (fun z0 => Xm z0) 55 []) (Fv.mk (fun z0 => ZaR z0 high) 57 [.rp [.int .i64 high] 0]))

noncomputable def Xo (c1 : Int) : Option layout_number :=
  (Qu (i64 ((i64 (2 * c1)) - 1))).bind fun y =>
  some y

noncomputable def Xl  : Option layout_number :=
  (Qu 1).bind fun y =>
  some y

noncomputable def Xp (c1 : api_Param) : Option layout_number :=
  (Qu (i64 ((c1.Names.length : Int) - 1))).bind fun y =>
  some y

noncomputable def ZaP (v : Int) (c0 : Int) : Option Int :=
  some (XJ .i64 v (i64 ((i64 (2 * c0)) - 1)))

noncomputable def Xx (raw : Int) (c0 : Int) : Option (Int × Bool) :=
  if (decide (c0 ≤ raw)) = true then
  some ((i64 (raw - (i64 (2 * c0)))), true)
  else
  some (raw, true)

noncomputable def Xk (c0 : Int) : Option layout_number :=
  some (layout_number.mk (i64 (-c0)) (i64 (c0 - 1)) (Fv.mk (fun z0 => ZaP z0 c0) 62 [.rp [.int .i64 c0] 0]) (Fv.mk (fun z0 => Xx z0 c0) 63 [.rp [.int .i64 c0] 0]))

noncomputable def Xz (v : Int) (c0 : Int) : Option Int :=
  if (decide (v < 0)) = true then
  some (i64 (c0 - v))
  else
  some v

noncomputable def XA (raw : Int) (c0 : Int) : Option (Int × Bool) :=
  if (decide (c0 ≤ raw)) = true then
  some ((i64 (c0 - raw)), (decide (c0 < raw)))
  else
  some (raw, true)

noncomputable def Xn (c0 : Int) : Option layout_number :=
  some (layout_number.mk (i64 (1 - c0)) (i64 (c0 - 1)) (Fv.mk (fun z0 => Xz z0 c0) 65 [.rp [.int .i64 c0] 0]) (Fv.mk (fun z0 => XA z0 c0) 66 [.rp [.int .i64 c0] 0]))

noncomputable def Z3 (v2 : Int) (raw2 : Int) (shift : Int) : Option ((Int × Int × Int) ⊕ (Int)) :=
  if (decide (0 < v2)) = true then
  (rem v2 10).bind fun q =>
  (shl .i64 q shift).bind fun q2 =>
  (quo .i64 v2 10).bind fun q3 =>
  some (.inl (q3, (bor .i64 raw2 q2), (i64 (shift + 4))))
  else
  some (.inr raw2)

noncomputable def Xy (v : Int) : Option Int :=
  ((loop (t3 (Z3)) (v, 0, 0)) : Option ((Int))).bind (t1 fun (raw : Int) =>
  some raw)

noncomputable def X9 (raw : Int) (v2 : Int) (ok2 : Bool) (shift : Int) : Option ((Int × Bool × Int) ⊕ (Int × Bool)) :=
  if (decide (0 ≤ shift)) = true then
  (shr .i64 raw shift).bind fun q =>
  some (.inl ((i64 ((i64 (v2 * 10)) + (XJ .i64 q 15))), (ok2 && (decide ((XJ .i64 q 15) < 10))), (i64 (shift - 4))))
  else
  some (.inr (v2, ok2))

noncomputable def Zaq (raw : Int) : Option (Int × Bool) :=
  ((loop (t3 (X9 raw)) (0, true, 60)) : Option ((Int × Bool))).bind (t2 fun (v : Int) (ok : Bool) =>
  some (v, ok))

noncomputable def Zao (q : Int) (high2 : Int) (i : Int) : Option ((Int × Int) ⊕ (Int)) :=
  if (decide (i < q)) = true then
  some (.inl ((i64 (high2 * 10)), (i64 (i + 1))))
  else
  some (.inr high2)

noncomputable def QO (c0 : Int) : Option layout_number :=
  (((quo .i64 c0 4).bind fun q =>
  loop (t2 (Zao q)) (1, 0)) : Option ((Int))).bind (t1 fun (high : Int) =>
  some (layout_number.mk 0 (i64 (high - 1)) (Fv.mk (fun z0 => Xy z0) 68 []) (Fv.mk (fun z0 => Zaq z0) 69 [])))

noncomputable def Qo (p : api_Param) : Option layout_number :=
  (Xb p).bind fun y =>
  (shl .i64 1 (i64 (y - 1))).bind fun q =>
  if decide (p.Kind = 1) = true then
  (Xo q).bind fun y2 =>
  some y2
  else
  if decide (p.Kind = 5) = true then
  (Xl).bind fun y3 =>
  some y3
  else
  if decide (p.Kind = 6) = true then
  (Xp p).bind fun y4 =>
  some y4
  else
  if decide (p.Kind = 2) = true then
  (Xk q).bind fun y5 =>
  some y5
  else
  if decide (p.Kind = 3) = true then
  (Xn q).bind fun y6 =>
  some y6
  else
  if decide (p.Kind = 4) = true then
  (QO y).bind fun y7 =>
  some y7
  else
  none

noncomputable def ZaE (p : api_Param) : Option (Int × Int × Int) :=
  (Xq p).bind fun y =>
  if (!decide (y = 0)) = true then
  some (0, 0, y)
  else
  (Qo p).bind fun y2 =>
  some (y2.low, y2.high, 0)

noncomputable def ZF (n : Int) (low : Int) (high : Int) : Option Bool :=
  some ((decide (low ≤ n)) && (decide (n ≤ high)))

noncomputable def QL (l : api_Line) (v : Int) : Option Int :=
  some (i64 ((i64 (l.A_ * v)) + l.B))

noncomputable def ZQ (c_ : api_Calibration) (i : Int) : Option ((Int) ⊕ (Int) ⊕ (Unit)) :=
  if (decide (i < (c_.Lines.length : Int))) = true then
  (idx c_.Lines i).bind fun x =>
  (ZF x.From (-1099511627776) 1099511627776).bind fun y2 =>
  (gd ((!y2) == false) false (ZF x.To (-1099511627776) 1099511627776)).bind fun y3 =>
  (gd ((((!y2) || (!y3)) || (decide (x.To < x.From))) == false) false (ZF x.A_ (-1048576) 1048576)).bind fun y4 =>
  (gd (((((!y2) || (!y3)) || (decide (x.To < x.From))) || (!y4)) == false) false (ZF x.B (-1125899906842624) 1125899906842624)).bind fun y5 =>
  if (((((!y2) || (!y3)) || (decide (x.To < x.From))) || (!y4)) || (!y5)) = true then
  some (.inr (.inl 9))
  else
  (gd ((decide (0 < i)) == true) (api_Line.mk 0 0 0 0) (idx c_.Lines (i64 (i - 1)))).bind fun x2 =>
  if ((decide (0 < i)) && (decide (x.From ≤ x2.To))) = true then
  some (.inr (.inl 10))
  else
  some (.inl (i64 (i + 1)))
  else
  some (.inr (.inr ()))

noncomputable def ZP (c_ : api_Calibration) (i2 : Int) : Option ((Int) ⊕ (Int) ⊕ (Unit)) :=
  if (decide (i2 < (c_.Lines.length : Int))) = true then
  (idx c_.Lines i2).bind fun x3 =>
  (QL x3 x3.From).bind fun y6 =>
  (ZF y6 (-1125899906842624) 1125899906842624).bind fun y7 =>
  (gd ((!y7) == false) 0 (QL x3 x3.To)).bind fun y8 =>
  (gd ((!y7) == false) false (ZF y8 (-1125899906842624) 1125899906842624)).bind fun y9 =>
  if ((!y7) || (!y9)) = true then
  some (.inr (.inl 9))
  else
  some (.inl (i64 (i2 + 1)))
  else
  some (.inr (.inr ()))

noncomputable def Z0 (c_ : api_Calibration) : Option Int :=
  (ZF c_.Den 1 1000000).bind fun y =>
  if (!y) = true then
  some 9
  else
  if (decide ((c_.Lines.length : Int) = 0)) = true then
  some 13
  else
  if (decide (50 < (c_.Lines.length : Int))) = true then
  some 3
  else
  ((loop (t1 (ZQ c_)) 0) : Option ((Int) ⊕ (Unit))).bind (Sum.elim (fun q' => some q') (t0 (((loop (t1 (ZP c_)) 0) : Option ((Int) ⊕ (Unit))).bind (Sum.elim (fun q' => some q') (t0 ((ZF c_.Low (-1125899906842624) 1125899906842624).bind fun y10 =>
  (gd ((!y10) == false) false (ZF c_.High (-1125899906842624) 1125899906842624)).bind fun y11 =>
  if (((!y10) || (!y11)) || (decide (c_.High < c_.Low))) = true then
  some 9
  else
  some 0))))))

noncomputable def Xa (a : Int) (b : Int) : Option Int :=
  (quo .i64 a b).bind fun q =>
  (rem a b).bind fun q2 =>
  if ((!decide (q2 = 0)) && (!((decide (a < 0)) == (decide (b < 0))))) = true then
  some (i64 (q - 1))
  else
  some q

noncomputable def JZ (c_ : api_Calibration) (l : api_Line) : Option (Int × Int × Bool) :=
  ((if (decide (l.A_ = 0)) = true then
  (ZF l.B c_.Low c_.High).bind fun y =>
  some (.inl (l.From, l.To, y))
  else
  if (decide (0 < l.A_)) = true then
  (Xa (i64 (l.B - c_.Low)) l.A_).bind fun y2 =>
  (Xa (i64 (c_.High - l.B)) l.A_).bind fun y3 =>
  some (.inr ((max l.From (i64 (-y2))), (min l.To y3)))
  else
  (Xa (i64 (c_.High - l.B)) (i64 (-l.A_))).bind fun y4 =>
  (Xa (i64 (l.B - c_.Low)) (i64 (-l.A_))).bind fun y5 =>
  some (.inr ((max l.From (i64 (-y4))), (min l.To y5)))) : Option ((Int × Int × Bool) ⊕ (Int × Int))).bind (Sum.elim (fun q' => some q') (t2 fun (low : Int) (high : Int) =>
  some (low, high, (decide (low ≤ high)))))

noncomputable def Zc4 (n : Int) : Option Int :=
  some (max n (i64 (-n)))

noncomputable def QM (n : Int) (x : api_Line) (y3 : Int × Int × Bool) (at_ : Int) (best4 : Int) (least4 : Int) (i2 : Int) : Option ((Int × Int × Int) ⊕ (Int × Int)) :=
  if (decide (i2 < 2)) = true then
  (ZI (#v[(min (max at_ y3.1) y3.2.1), (min (max (i64 (at_ + 1)) y3.1) y3.2.1)] : Vector Int 2) i2).bind fun x2 =>
  (QL x x2).bind fun y5 =>
  (Zc4 (i64 (y5 - n))).bind fun y6 =>
  if ((decide (least4 < 0)) || (decide (y6 < least4))) = true then
  some (.inl (x2, y6, (i64 (i2 + 1))))
  else
  some (.inl (best4, least4, (i64 (i2 + 1))))
  else
  some (.inr (best4, least4))

noncomputable def Xs (c_ : api_Calibration) (n : Int) (best2 : Int) (least2 : Int) (i : Int) : Option ((Int × Int × Int) ⊕ (Int × Int)) :=
  if (decide (i < (c_.Lines.length : Int))) = true then
  (((idx c_.Lines i).bind fun x =>
  (JZ c_ x).bind fun y3 =>
  if (!y3.2.2) = true then
  some (best2, least2)
  else
  ((if (!decide (x.A_ = 0)) = true then
  (Xa (i64 (n - x.B)) x.A_).bind fun y4 =>
  some y4
  else
  some y3.1) : Option ((Int))).bind (t1 fun (at_ : Int) =>
  loop (t3 (QM n x y3 at_)) (best2, least2, 0))) : Option ((Int × Int))).bind (t2 fun (best3 : Int) (least3 : Int) =>
  some (.inl (best3, least3, (i64 (i + 1)))))
  else
  some (.inr (best2, least2))

noncomputable def series_Nearest (c_ : api_Calibration) (n : Int) : Option (Int × Int) :=
  (Z0 c_).bind fun y =>
  if (!decide (y = 0)) = true then
  some (0, y)
  else
  (ZF n (-1125899906842624) 1125899906842624).bind fun y2 =>
  if (!y2) = true then
  some (0, 9)
  else
  ((loop (t3 (Xs c_ n)) (0, (-1), 0)) : Option ((Int × Int))).bind (t2 fun (best : Int) (least : Int) =>
  if (decide (least < 0)) = true then
  some (0, 4)
  else
  some (best, 0))

noncomputable def Zau (m : api_Map) (out2 : Vector (List Int) 16) (i : Int) : Option (((Vector (List Int) 16) × Int) ⊕ ((Vector (List Int) 16))) :=
  if (decide (i < 16)) = true then
  (mks 58 0).bind fun l2 =>
  (ZI out2 i).bind fun x =>
  (ZI (Qd out2 i l2) i).bind fun l3 =>
  (ZI (Qd out2 i l2) i).bind fun x2 =>
  (idx l3 0).bind fun x3 =>
  some (.inl ((Qd (Qd out2 i l2) i (l3.set (Int.toNat 0) m.Version)), (i64 (i + 1))))
  else
  some (.inr out2)

noncomputable def Zap (x4 : api_Cell) (y5 : Int) (out6 : Vector (List Int) 16) (left : Int) (i3 : Int) : Option (((Vector (List Int) 16) × Int × Int) ⊕ ((Vector (List Int) 16))) :=
  if (decide (i3 < (x4.Places.length : Int))) = true then
  (idx x4.Places i3).bind fun x9 =>
  (ZI out6 x9.Frame).bind fun l4 =>
  (ZI out6 x9.Frame).bind fun x10 =>
  (idx l4 (i64 (x9.Word - 3))).bind fun x11 =>
  (shr .i64 y5 (i64 (left - x9.Bits))).bind fun q =>
  (shl .i64 1 x9.Bits).bind fun q2 =>
  (shl .i64 (XJ .i64 q (i64 (q2 - 1))) x9.Low).bind fun q3 =>
  (idx l4 (i64 (x9.Word - 3))).bind fun x12 =>
  some (.inl ((Qd out6 x9.Frame (l4.set (i64 (x9.Word - 3)).toNat (bor .i64 x11 q3))), (i64 (left - x9.Bits)), (i64 (i3 + 1))))
  else
  some (.inr out6)

noncomputable def Jz (m : api_Map) (l : List Int) (y2 : (List api_Cell)) (out4 : Vector (List Int) 16) (i2 : Int) : Option (((Vector (List Int) 16) × Int) ⊕ ((Vector (List Int) 16) × Int) ⊕ ((Vector (List Int) 16))) :=
  if (decide (i2 < (y2.length : Int))) = true then
  (((idx y2 i2).bind fun x4 =>
  (idx m.Params x4.Param).bind fun x5 =>
  (Qo x5).bind fun y3 =>
  (idx l i2).bind fun x6 =>
  (Z6 x6 y3.low y3.high).bind fun y4 =>
  if (!y4) = true then
  some (.inl ((Vector.replicate 16 []), 9))
  else
  (idx l i2).bind fun x7 =>
  (y3.encode.fn x7).bind fun y5 =>
  (idx m.Params x4.Param).bind fun x8 =>
  (Xb x8).bind fun y6 =>
  (loop (t3 (Zap x4 y5)) (out4, y6, 0)).bind (fun q' => some (.inr q'))) : Option (((Vector (List Int) 16) × Int) ⊕ ((Vector (List Int) 16)))).bind (Sum.elim (fun q' => some (.inr (.inl q'))) (t1 fun (out5 : Vector (List Int) 16) =>
  some (.inl (out5, (i64 (i2 + 1))))))
  else
  some (.inr (.inr out4))

noncomputable def Zca (m : api_Map) (l : List Int) : Option ((Vector (List Int) 16) × Int) :=
  (JG m).bind fun y =>
  if (!decide (y.2 = 0)) = true then
  some ((Vector.replicate 16 []), y.2)
  else
  (ZaC m).bind fun y2 =>
  if (!decide ((l.length : Int) = (y2.length : Int))) = true then
  some ((Vector.replicate 16 []), 3)
  else
  ((loop (t2 (Zau m)) ((Vector.replicate 16 []), 0)) : Option (((Vector (List Int) 16)))).bind (t1 fun (out : Vector (List Int) 16) =>
  ((loop (t2 (Jz m l y2)) (out, 0)) : Option (((Vector (List Int) 16) × Int) ⊕ ((Vector (List Int) 16)))).bind (Sum.elim (fun q' => some q') (t1 fun (out3 : Vector (List Int) 16) =>
  some (out3, 0))))

noncomputable def X0 (first : Int) (y : (Vector (List Int) 16) × Int) (out2 : Vector (Vector Int 64) 16) (i : Int) : Option (((Vector (Vector Int 64) 16) × Int) ⊕ ((Vector (Vector Int 64) 16))) :=
  if (decide (i < 16)) = true then
  (ZI y.1 i).bind fun x =>
  (J7 (i64 (first + i)) x).bind fun y3 =>
  (ZI out2 i).bind fun x2 =>
  some (.inl ((Qd out2 i y3.1), (i64 (i + 1))))
  else
  some (.inr out2)

noncomputable def Zbp (m : api_Map) (first : Int) (l : List Int) : Option ((Vector (Vector Int 64) 16) × Int) :=
  (Zca m l).bind fun y =>
  if (!decide (y.2 = 0)) = true then
  some ((Vector.replicate 16 (Vector.replicate 64 0)), y.2)
  else
  (Z6 first 0 4194288).bind fun y2 =>
  if (!y2) = true then
  some ((Vector.replicate 16 (Vector.replicate 64 0)), 9)
  else
  (rem first 16).bind fun q =>
  if (!decide (q = 0)) = true then
  some ((Vector.replicate 16 (Vector.replicate 64 0)), 2)
  else
  ((loop (t2 (X0 first y)) ((Vector.replicate 16 (Vector.replicate 64 0)), 0)) : Option (((Vector (Vector Int 64) 16)))).bind (t1 fun (out : Vector (Vector Int 64) 16) =>
  some (out, 0))

noncomputable def Zac (without : List Int) (i : Int) (gone2 : Bool) (k : Int) : Option ((Bool × Int) ⊕ (Bool)) :=
  if (decide (k < (without.length : Int))) = true then
  (gd (gone2 == false) 0 (idx without k)).bind fun x =>
  some (.inl ((gone2 || (decide (x = i))), (i64 (k + 1))))
  else
  some (.inr gone2)

noncomputable def Zag (States2 : Vector Int 64) (w : Int) : Option (((Vector Int 64) × Int) ⊕ ((Vector Int 64))) :=
  if (decide (w < 64)) = true then
  (ZI States2 w).bind fun x3 =>
  some (.inl ((Qd States2 w 3), (i64 (w + 1))))
  else
  some (.inr States2)

noncomputable def Zad (l : Vector (Vector Int 64) 16) (first : Int) (without : List Int) (out2 : List api_Rest) (i : Int) : Option (((List api_Rest) × Int) ⊕ ((List api_Rest))) :=
  if (decide (i < 16)) = true then
  ((loop (t2 (Zac without i)) (false, 0)) : Option ((Bool))).bind (t1 fun (gone : Bool) =>
  if gone = true then
  some (.inl (out2, (i64 (i + 1))))
  else
  (ZI l i).bind fun x2 =>
  ((loop (t2 (Zag)) ((Vector.replicate 64 0), 0)) : Option (((Vector Int 64)))).bind (t1 fun (States : Vector Int 64) =>
  (app out2 ([(api_Rest.mk (i64 (first + i)) x2 States true 1 false)] : List api_Rest)).bind fun l2 =>
  some (.inl (l2, (i64 (i + 1))))))
  else
  some (.inr out2)

noncomputable def ZcJ (l : Vector (Vector Int 64) 16) (first : Int) (without : List Int) : Option (List api_Rest) :=
  ((loop (t2 (Zad l first without)) ([], 0)) : Option (((List api_Rest)))).bind (t1 fun (out : List api_Rest) =>
  some out)

noncomputable def Zbt (m : api_Map) : Option (Int × Int) :=
  (JG m).bind fun y =>
  some ((max y.1 0), y.2)

noncomputable def QE (p : api_Param) (c0 : Str) : Option Bool :=
  some (decide (p.Name = c0))

noncomputable def Jv (n : Int) (low : Int) (high : Int) : Option Bool :=
  some ((decide (low ≤ n)) && (decide (n ≤ high)))

noncomputable def Zbu (f : Vector Int 64) : Option (Int × Bool) :=
  (ZI f 1).bind fun x =>
  (J4 x).bind fun y =>
  (gd ((!y) == false) 0 (ZI f 2)).bind fun x2 =>
  (gd ((!y) == false) false (J4 x2)).bind fun y2 =>
  if ((!y) || (!y2)) = true then
  some (0, false)
  else
  (QP f).bind fun y3 =>
  some (y3, true)

noncomputable def ZaU (f : Vector Int 64) (i : Int) : Option ((Int) ⊕ (Bool) ⊕ (Unit)) :=
  if (decide (i < 64)) = true then
  (ZI f i).bind fun x =>
  if (decide (4095 < x)) = true then
  some (.inr (.inl true))
  else
  some (.inl (i64 (i + 1)))
  else
  some (.inr (.inr ()))

noncomputable def ZcS (f : Vector Int 64) : Option Bool :=
  ((loop (t1 (ZaU f)) 0) : Option ((Bool) ⊕ (Unit))).bind (Sum.elim (fun q' => some q') (t0 (some false)))

noncomputable def ZaB (f : Vector Int 64) (i : Int) : Option ((Int) ⊕ (Bool) ⊕ (Unit)) :=
  if (decide (i < 64)) = true then
  (ZI f i).bind fun x4 =>
  (J4 x4).bind fun y5 =>
  if (!y5) = true then
  some (.inr (.inl false))
  else
  some (.inl (i64 (i + 1)))
  else
  some (.inr (.inr ()))

noncomputable def Zcc (f : Vector Int 64) : Option Bool :=
  (ZcS f).bind fun y =>
  (gd (y == false) 0 (ZI f 0)).bind fun x =>
  (gd (y == false) 0 (QP f)).bind fun y2 =>
  (gd (y == false) 0 (rem y2 4)).bind fun q =>
  (gd (y == false) 0 (ZI gv_frame_syncs q)).bind fun x2 =>
  (gd ((y || (!decide (x = x2))) == false) 0 (ZI f 61)).bind fun x3 =>
  (gd ((y || (!decide (x = x2))) == false) 0 (Xv x3)).bind fun y3 =>
  (gd ((y || (!decide (x = x2))) == false) 0 (JB f)).bind fun y4 =>
  if ((y || (!decide (x = x2))) || (!decide (y3 = y4))) = true then
  some false
  else
  ((loop (t1 (ZaB f)) 1) : Option ((Bool) ⊕ (Unit))).bind (Sum.elim (fun q' => some q') (t0 ((ZI f 62).bind fun x5 =>
  (Xv x5).bind fun y6 =>
  (shl .i64 y6 11).bind fun q2 =>
  (ZI f 63).bind fun x6 =>
  (Xv x6).bind fun y7 =>
  (XE f).bind fun y8 =>
  some (decide ((bor .i64 q2 y7) = y8)))))

noncomputable def Zb6 (f : Vector Int 64) : Option Bool :=
  (Zcc f).bind fun y =>
  some y

noncomputable def X3 (f : Vector Int 64) (number : Int) : Option Bool :=
  (Zbu f).bind fun y =>
  (Zb6 f).bind fun y2 =>
  some (y2 && (decide (y.1 = number)))

noncomputable def Z7 (s : List Int) (f : Int → Option Bool) (i : Int) : Option ((Int) ⊕ (Int) ⊕ (Unit)) :=
  if (decide (i < (s.length : Int))) = true then
  (idx s i).bind fun x =>
  (f x).bind fun y =>
  if y = true then
  some (.inr (.inl i))
  else
  some (.inl (i64 (i + 1)))
  else
  some (.inr (.inr ()))

noncomputable def Q9 (s : List Int) (f : Int → Option Bool) : Option Int :=
  ((loop (t1 (Z7 s f)) 0) : Option ((Int) ⊕ (Unit))).bind (Sum.elim (fun q' => some q') (t0 (some (-1))))

noncomputable def Z8 (s : List Int) (f : Int → Option Bool) : Option Bool :=
  (Q9 s f).bind fun y =>
  some (decide (0 ≤ y))

noncomputable def Zbw (s : Int) (c0 : Int) (c1 : Int) : Option Bool :=
  some ((decide (s = c0)) || (decide (s = c1)))

noncomputable def ZaK (r_ : api_Rest) (a : Int) (b : Int) : Option Bool :=
  (slc r_.States.toList 0 (64 : Int)).bind fun l =>
  (Z8 l (fun z0 => Zbw z0 a b)).bind fun y =>
  some y

noncomputable def Zb4 (s : Int) (c0 : Int) : Option Bool :=
  some (!decide (s = c0))

noncomputable def Zb8 (r_ : api_Rest) (state : Int) : Option Bool :=
  (slc r_.States.toList 0 (64 : Int)).bind fun l =>
  (Z8 l (fun z0 => Zb4 z0 state)).bind fun y =>
  some (!y)

noncomputable def Ql (r_ : api_Rest) (i : Int) : Option ((Int) ⊕ (Int) ⊕ (Unit)) :=
  if (decide (i < 64)) = true then
  (ZI r_.States i).bind fun x =>
  (Jv x 0 3).bind fun y2 =>
  if (!y2) = true then
  some (.inr (.inl 9))
  else
  (gd ((decide (x = 0)) == true) 0 (ZI r_.Frame i)).bind fun x2 =>
  (gd (((decide (x = 0)) && (!decide (x2 = 0))) == false) 0 (ZI r_.Frame i)).bind fun x3 =>
  if (((decide (x = 0)) && (!decide (x2 = 0))) || (decide (4095 < x3))) = true then
  some (.inr (.inl 2))
  else
  some (.inl (i64 (i + 1)))
  else
  some (.inr (.inr ()))

noncomputable def X7 (r_ : api_Rest) : Option Int :=
  (Jv r_.Number 0 4194303).bind fun y =>
  if (!y) = true then
  some 9
  else
  ((loop (t1 (Ql r_)) 0) : Option ((Int) ⊕ (Unit))).bind (Sum.elim (fun q' => some q') (t0 ((gd (r_.Sound == true) false (X3 r_.Frame r_.Number)).bind fun y3 =>
  (gd ((r_.Sound == true) && ((!y3) == false)) false (ZaK r_ 0 1)).bind fun y4 =>
  if (r_.Sound && ((!y3) || y4)) = true then
  some 2
  else
  (gd ((!r_.Sound) == true) false (ZaK r_ 3 2)).bind fun y5 =>
  if ((!r_.Sound) && y5) = true then
  some 2
  else
  (gd (((decide (r_.Copies < 0)) == false) && (((decide (r_.Copies = 0)) && r_.Sound) == true)) false (Zb8 r_ 3)).bind fun y6 =>
  if ((decide (r_.Copies < 0)) || (((decide (r_.Copies = 0)) && r_.Sound) && y6)) = true then
  some 9
  else
  if (r_.Conflict && r_.Sound) = true then
  some 2
  else
  some 0)))

noncomputable def QG (l : List api_Rest) (i : Int) : Option ((Int) ⊕ (Int) ⊕ (Unit)) :=
  if (decide (i < (l.length : Int))) = true then
  (idx l i).bind fun x =>
  (X7 x).bind fun y =>
  if (!decide (y = 0)) = true then
  some (.inr (.inl y))
  else
  some (.inl (i64 (i + 1)))
  else
  some (.inr (.inr ()))

noncomputable def QI (l : List api_Rest) (i2 : Int) : Option ((Int) ⊕ (Int) ⊕ (Unit)) :=
  if (decide (i2 < (l.length : Int))) = true then
  (idx l i2).bind fun x2 =>
  (idx l (i64 (i2 - 1))).bind fun x3 =>
  if (decide (x2.Number ≤ x3.Number)) = true then
  some (.inr (.inl 10))
  else
  some (.inl (i64 (i2 + 1)))
  else
  some (.inr (.inr ()))

noncomputable def Jg (l : List api_Rest) : Option Int :=
  if (decide (5000 < (l.length : Int))) = true then
  some 3
  else
  ((loop (t1 (QG l)) 0) : Option ((Int) ⊕ (Unit))).bind (Sum.elim (fun q' => some q') (t0 (((loop (t1 (QI l)) 1) : Option ((Int) ⊕ (Unit))).bind (Sum.elim (fun q' => some q') (t0 (some 0))))))

noncomputable def QZ (p : api_Param) (cells : List api_Cell) (first : Int) (out2 : List Int) (i : Int) : Option (((List Int) × Int) ⊕ ((List Int))) :=
  if (decide (i < (cells.length : Int))) = true then
  (idx cells i).bind fun x =>
  (rem x.Index p.Times).bind fun q =>
  (quo .i64 (i64 (64 * q)) p.Times).bind fun q2 =>
  (app out2 ([(i64 ((i64 (64 * (i64 (first + x.Frame)))) + q2))] : List Int)).bind fun l =>
  some (.inl (l, (i64 (i + 1))))
  else
  some (.inr out2)

noncomputable def XN (p : api_Param) (cells : List api_Cell) (first : Int) : Option (List Int) :=
  ((loop (t2 (QZ p cells first)) ([], 0)) : Option (((List Int)))).bind (t1 fun (out : List Int) =>
  some out)

noncomputable def Zaz (p : api_Param) (raw : Int) : Option (Int × Bool) :=
  (Qo p).bind fun y =>
  (y.decode.fn raw).bind fun y2 =>
  if (!y2.2) = true then
  some (0, false)
  else
  some (y2.1, true)

noncomputable def ZbN (p : api_Param) (raw : Int) : Option (Int × Bool) :=
  (Zaz p raw).bind fun y =>
  some (y.1, y.2)

noncomputable def Qn (m : api_Map) (c_ : api_Cell) (l : Vector api_Rest 16) (least2 : Int) (raw2 : Int) (old2 : Bool) (i : Int) : Option ((Int × Int × Bool × Int) ⊕ (Int × Int × Bool)) :=
  if (decide (i < (c_.Places.length : Int))) = true then
  (idx c_.Places i).bind fun x =>
  (ZI l x.Frame).bind fun x2 =>
  (ZI x2.States x.Word).bind fun x3 =>
  (ZI x2.States 3).bind fun x4 =>
  (gd (old2 == false) 0 (ZI x2.Frame 3)).bind fun x5 =>
  (shl .i64 raw2 x.Bits).bind fun q =>
  (ZI x2.Frame x.Word).bind fun x6 =>
  (shr .i64 (i64 x6) x.Low).bind fun q2 =>
  (shl .i64 1 x.Bits).bind fun q3 =>
  some (.inl ((min (min least2 x3) x4), (bor .i64 q (XJ .i64 q2 (i64 (q3 - 1)))), (old2 || (!decide ((i64 (XJ .u16 x5 2047)) = m.Version))), (i64 (i + 1))))
  else
  some (.inr (least2, raw2, old2))

noncomputable def JY (m : api_Map) (p : api_Param) (c_ : api_Cell) (l : Vector api_Rest 16) : Option (Int × Int) :=
  ((loop (t4 (Qn m c_ l)) (3, 0, false, 0)) : Option ((Int × Int × Bool))).bind (t3 fun (least : Int) (raw : Int) (old : Bool) =>
  if ((decide (least = 0)) || old) = true then
  some (0, 0)
  else
  (ZbN p raw).bind fun y =>
  if (!y.2) = true then
  some (0, 1)
  else
  (some ((ZaW kqI ([(1, 2), (2, 3), (3, 4)] : List (Int × Int)) least).getD 0)).bind fun o =>
  some (y.1, o))

noncomputable def Z1 (s : Int) (l5 : List api_Rest) (rests2 : Vector api_Rest 16) : Option (((List api_Rest) × (Vector api_Rest 16)) ⊕ ((List api_Rest) × (Vector api_Rest 16))) :=
  (gd ((decide (0 < (l5.length : Int))) == true) (api_Rest.mk 0 (Vector.replicate 64 0) (Vector.replicate 64 0) false 0 false) (idx l5 0)).bind fun x =>
  (gd ((decide (0 < (l5.length : Int))) == true) 0 (quo .i64 x.Number 16)).bind fun q =>
  if ((decide (0 < (l5.length : Int))) && (decide (q ≤ s))) = true then
  (idx l5 0).bind fun x2 =>
  (quo .i64 x2.Number 16).bind fun q2 =>
  if (decide (q2 = s)) = true then
  (idx l5 0).bind fun x3 =>
  (rem x3.Number 16).bind fun q3 =>
  (idx l5 0).bind fun x4 =>
  (ZI rests2 q3).bind fun x5 =>
  (slc l5 1 (l5.length : Int)).bind fun l6 =>
  some (.inl (l6, (Qd rests2 q3 x4)))
  else
  (slc l5 1 (l5.length : Int)).bind fun l7 =>
  some (.inl (l7, rests2))
  else
  some (.inr (l5, rests2))

noncomputable def QT (m : api_Map) (p : api_Param) (cells : List api_Cell) (l4 : List api_Rest) (rests : Vector api_Rest 16) (y : (List Int)) (out4 : List api_Sample) (i : Int) : Option (((List api_Sample) × Int) ⊕ ((List api_Rest) × (List api_Sample))) :=
  if (decide (i < (cells.length : Int))) = true then
  (idx cells i).bind fun x6 =>
  (JY m p x6 rests).bind fun y2 =>
  (idx y i).bind fun x7 =>
  (app out4 ([(api_Sample.mk x7 y2.1 y2.2)] : List api_Sample)).bind fun l8 =>
  some (.inl (l8, (i64 (i + 1))))
  else
  some (.inr (l4, out4))

noncomputable def Qr (m : api_Map) (p : api_Param) (cells : List api_Cell) (last : Int) (l2 : List api_Rest) (out2 : List api_Sample) (s : Int) : Option (((List api_Rest) × (List api_Sample) × Int) ⊕ ((List api_Sample))) :=
  if (decide (s ≤ last)) = true then
  ((((loop (t2 (Z1 s)) (l2, (Vector.replicate 16 (api_Rest.mk 0 (Vector.replicate 64 0) (Vector.replicate 64 0) false 0 false)))) : Option (((List api_Rest) × (Vector api_Rest 16)))).bind (t2 fun (l4 : List api_Rest) (rests : Vector api_Rest 16) =>
  (XN p cells (i64 (s * 16))).bind fun y =>
  loop (t2 (QT m p cells l4 rests y)) (out2, 0))) : Option (((List api_Rest) × (List api_Sample)))).bind (t2 fun (l3 : List api_Rest) (out3 : List api_Sample) =>
  some (.inl (l3, out3, (i64 (s + 1)))))
  else
  some (.inr out2)

noncomputable def Js (m : api_Map) (p : api_Param) (cells : List api_Cell) (l : List api_Rest) (first : Int) (last : Int) : Option (List api_Sample) :=
  ((loop (t3 (Qr m p cells last)) (l, [], first)) : Option (((List api_Sample)))).bind (t1 fun (out : List api_Sample) =>
  some out)

noncomputable def Jq (m : api_Map) (name : Str) (l : List api_Rest) : Option (api_Series × Int) :=
  (Zbt m).bind fun y =>
  if (!decide (y.2 = 0)) = true then
  some ((api_Series.mk 0 []), y.2)
  else
  (ZB m.Params (fun z0 => QE z0 name)).bind fun y2 =>
  if (decide (y2 < 0)) = true then
  some ((api_Series.mk 0 []), 4)
  else
  (Jg l).bind fun y3 =>
  if (!decide (y3 = 0)) = true then
  some ((api_Series.mk 0 []), y3)
  else
  if (decide ((l.length : Int) = 0)) = true then
  some ((api_Series.mk 1 []), 0)
  else
  (idx m.Params y2).bind fun x =>
  (JM (api_Map.mk 0 ([x] : List api_Param))).bind fun y4 =>
  (idx l 0).bind fun x2 =>
  (quo .i64 x2.Number 16).bind fun q =>
  (idx l (i64 ((l.length : Int) - 1))).bind fun x3 =>
  (quo .i64 x3.Number 16).bind fun q2 =>
  if (decide (20000 < (i64 ((i64 ((i64 ((i64 (q2 - q)) + 1)) * (y4.1.length : Int))) + 1)))) = true then
  some ((api_Series.mk 0 []), 3)
  else
  (Js m x y4.1 l q q2).bind fun y5 =>
  (app y5 ([(api_Sample.mk (i64 ((i64 (q2 + 1)) * 1024)) 0 0)] : List api_Sample)).bind fun l2 =>
  some ((api_Series.mk 1 l2), 0)

noncomputable def JX (s : api_Series) (i : Int) : Option ((Int) ⊕ (Int × Int) ⊕ (Unit)) :=
  if (decide (i < (s.Samples.length : Int))) = true then
  (idx s.Samples i).bind fun x =>
  (ZF x.At 0 1099511627776).bind fun y2 =>
  (gd ((!y2) == false) false (ZF x.N (-1125899906842624) 1125899906842624)).bind fun y3 =>
  (gd (((!y2) || (!y3)) == false) false (ZF x.Mark 0 4)).bind fun y4 =>
  if (((!y2) || (!y3)) || (!y4)) = true then
  some (.inr (.inl (i, 9)))
  else
  if ((!decide (x.N = 0)) && (decide (x.Mark ≤ 1))) = true then
  some (.inr (.inl (i, 2)))
  else
  (gd ((decide (0 < i)) == true) (api_Sample.mk 0 0 0) (idx s.Samples (i64 (i - 1)))).bind fun x2 =>
  if ((decide (0 < i)) && (decide (x.At ≤ x2.At))) = true then
  some (.inr (.inl (i, 10)))
  else
  some (.inl (i64 (i + 1)))
  else
  some (.inr (.inr ()))

noncomputable def Zbz (s : api_Series) : Option (Int × Int) :=
  (ZF s.Den 1 1000000).bind fun y =>
  if (!y) = true then
  some ((-1), 9)
  else
  if (decide (20000 < (s.Samples.length : Int))) = true then
  some ((-1), 3)
  else
  ((loop (t1 (JX s)) 0) : Option ((Int × Int) ⊕ (Unit))).bind (Sum.elim (fun q' => some q') (t0 (some ((-1), 0))))

noncomputable def ZbA (s : api_Series) : Option Int :=
  (Zbz s).bind fun y =>
  some y.2

noncomputable def JP (c_ : api_Calibration) (v : Int) (i : Int) : Option ((Int) ⊕ (Int × Bool) ⊕ (Unit)) :=
  if (decide (i < (c_.Lines.length : Int))) = true then
  (idx c_.Lines i).bind fun x =>
  (ZF v x.From x.To).bind fun y =>
  if y = true then
  (QL x v).bind fun y2 =>
  (ZF y2 c_.Low c_.High).bind fun y3 =>
  if y3 = true then
  some (.inr (.inl (y2, true)))
  else
  some (.inl (i64 (i + 1)))
  else
  some (.inl (i64 (i + 1)))
  else
  some (.inr (.inr ()))

noncomputable def ZaJ (c_ : api_Calibration) (v : Int) : Option (Int × Bool) :=
  ((loop (t1 (JP c_ v)) 0) : Option ((Int × Bool) ⊕ (Unit))).bind (Sum.elim (fun q' => some q') (t0 (some (0, false))))

noncomputable def Qt (c_ : api_Calibration) (y3 : List api_Sample) (Samples2 : List api_Sample) (i : Int) : Option (((List api_Sample) × Int) ⊕ ((List api_Sample))) :=
  if (decide (i < (y3.length : Int))) = true then
  (idx Samples2 i).bind fun x =>
  if (decide (x.Mark < 2)) = true then
  some (.inl (Samples2, (i64 (i + 1))))
  else
  (ZaJ c_ x.N).bind fun y4 =>
  ((if (!y4.2) = true then
  some (1, 0)
  else
  some (x.Mark, y4.1)) : Option ((Int × Int))).bind (t2 fun (Mark : Int) (n : Int) =>
  (idx Samples2 i).bind fun x2 =>
  some (.inl ((Samples2.set i.toNat (api_Sample.mk x.At n Mark)), (i64 (i + 1)))))
  else
  some (.inr Samples2)

noncomputable def Jr (s : api_Series) (c_ : api_Calibration) : Option (api_Series × Int) :=
  (ZbA s).bind fun y =>
  if (!decide (y = 0)) = true then
  some ((api_Series.mk 0 []), y)
  else
  (Z0 c_).bind fun y2 =>
  if (!decide (y2 = 0)) = true then
  some ((api_Series.mk 0 []), y2)
  else
  if (!decide (s.Den = 1)) = true then
  some ((api_Series.mk 0 []), 2)
  else
  (Zl6 s.Samples).bind fun y3 =>
  ((loop (t2 (Qt c_ y3)) (y3, 0)) : Option (((List api_Sample)))).bind (t1 fun (Samples : List api_Sample) =>
  some ((api_Series.mk c_.Den Samples), 0))

noncomputable def JJ (c_ : api_Calibration) (v : Int) : Option (Int × Bool × Int) :=
  (Z0 c_).bind fun y =>
  if (!decide (y = 0)) = true then
  some (0, false, y)
  else
  (ZaJ c_ v).bind fun y2 =>
  some (y2.1, y2.2, 0)

noncomputable def ZJ (m : api_Map) (c_ : api_Calibration) (given : List Int) (y2 : (List api_Cell) × Int) (y3 : Int) (y6 : Int × Int × Int) (values2 : List Int) (want2 : List Int) (i : Int) : Option (((List Int) × (List Int) × Int) ⊕ (Bool) ⊕ ((List Int) × (List Int))) :=
  if (decide (i < (y2.1.length : Int))) = true then
  (((idx y2.1 i).bind fun x2 =>
  if (decide (x2.Param = y3)) = true then
  if (decide ((given.length : Int) ≤ (want2.length : Int))) = true then
  some (.inl true)
  else
  (idx given (want2.length : Int)).bind fun x3 =>
  (series_Nearest c_ x3).bind fun y7 =>
  if (!decide (y7.2 = 0)) = true then
  some (.inl true)
  else
  (app want2 ([(min (max y7.1 y6.1) y6.2.1)] : List Int)).bind fun l =>
  some (.inr (l, (min (max y7.1 y6.1) y6.2.1)))
  else
  (idx y2.1 i).bind fun x4 =>
  (idx m.Params x4.Param).bind fun x5 =>
  (ZaE x5).bind fun y8 =>
  if (decide (y8.2.2 = 0)) = true then
  some (.inr (want2, y8.1))
  else
  some (.inr (want2, 0))) : Option ((Bool) ⊕ ((List Int) × Int))).bind (Sum.elim (fun q' => some (.inr (.inl q'))) (t2 fun (want3 : List Int) (v : Int) =>
  (app values2 ([v] : List Int)).bind fun l2 =>
  some (.inl (l2, want3, (i64 (i + 1))))))
  else
  some (.inr (.inr (values2, want2)))

noncomputable def Zz (c_ : api_Calibration) (given : List Int) (without : List Int) (y6 : Int × Int × Int) (want : List Int) (y12 : api_Series × Int) (i2 : Int) : Option ((Int) ⊕ (Bool) ⊕ (Unit)) :=
  if (decide (i2 < (i64 ((y12.1.Samples.length : Int) - 1)))) = true then
  (((idx y12.1.Samples i2).bind fun x7 =>
  if (decide (x7.Mark = 4)) = true then
  (idx want i2).bind fun x8 =>
  (JJ c_ x8).bind fun y13 =>
  if (((!decide (y13.2.2 = 0)) || (!y13.2.1)) || (!decide (y13.1 = x7.N))) = true then
  some (.inl false)
  else
  (idx given i2).bind fun x9 =>
  (series_Nearest c_ x9).bind fun y14 =>
  if (!decide (y14.2 = 0)) = true then
  some (.inl false)
  else
  (JJ c_ y14.1).bind fun y15 =>
  (idx given i2).bind fun x10 =>
  (idx given i2).bind fun x11 =>
  (idx given i2).bind fun x12 =>
  (idx given i2).bind fun x13 =>
  if ((!decide (y15.2.2 = 0)) || (((decide (y6.1 ≤ y14.1)) && (decide (y14.1 ≤ y6.2.1))) && (!decide ((max (i64 (x7.N - x10)) (i64 (x11 - x7.N))) = (max (i64 (y15.1 - x12)) (i64 (x13 - y15.1))))))) = true then
  some (.inl false)
  else
  some (.inr ())
  else
  if (decide (x7.Mark = 1)) = true then
  (idx want i2).bind fun x14 =>
  (JJ c_ x14).bind fun y16 =>
  if ((!decide (y16.2.2 = 0)) || y16.2.1) = true then
  some (.inl false)
  else
  some (.inr ())
  else
  if (decide ((without.length : Int) = 0)) = true then
  some (.inl false)
  else
  some (.inr ())) : Option ((Bool) ⊕ (Unit))).bind (Sum.elim (fun q' => some (.inr (.inl q'))) (t0 (some (.inl (i64 (i2 + 1))))))
  else
  some (.inr (.inr ()))

noncomputable def QA (m : api_Map) (name : Str) (c_ : api_Calibration) (first : Int) (given : List Int) (without : List Int) : Option Bool :=
  (ZcF).bind fun y =>
  if (!y) = true then
  some false
  else
  (JM m).bind fun y2 =>
  (Zat m name).bind fun y3 =>
  (gd ((((((!decide (y2.2 = 0)) || (decide (y3 < 0))) || (decide (400 < (y2.1.length : Int)))) || (decide (first < 0))) || (decide (4194288 < first))) == false) 0 (rem first 16)).bind fun q =>
  (gd (((((((!decide (y2.2 = 0)) || (decide (y3 < 0))) || (decide (400 < (y2.1.length : Int)))) || (decide (first < 0))) || (decide (4194288 < first))) || (!decide (q = 0))) == false) 0 (QY c_)).bind fun y4 =>
  if (((((((!decide (y2.2 = 0)) || (decide (y3 < 0))) || (decide (400 < (y2.1.length : Int)))) || (decide (first < 0))) || (decide (4194288 < first))) || (!decide (q = 0))) || (!decide (y4 = 0))) = true then
  some true
  else
  (ZcT m).bind fun y5 =>
  if ((!decide (y5.2 = 0)) || (!decide ((y5.1.length : Int) = (y2.1.length : Int)))) = true then
  some false
  else
  (idx m.Params y3).bind fun x =>
  (ZaE x).bind fun y6 =>
  if (!decide (y6.2.2 = 0)) = true then
  some false
  else
  ((loop (t3 (ZJ m c_ given y2 y3 y6)) ([], [], 0)) : Option ((Bool) ⊕ ((List Int) × (List Int)))).bind (Sum.elim (fun q' => some q') (t2 fun (values : List Int) (want : List Int) =>
  (Zbp m first values).bind fun y9 =>
  if (!decide (y9.2 = 0)) = true then
  some false
  else
  (ZcJ y9.1 first without).bind fun y10 =>
  (Jq m name y10).bind fun y11 =>
  if (!decide (y11.2 = 0)) = true then
  some false
  else
  (Jr y11.1 c_).bind fun y12 =>
  (gd (((((!decide (y12.2 = 0)) || ((decide ((without.length : Int) = 0)) && (!decide ((y12.1.Samples.length : Int) = (i64 ((want.length : Int) + 1)))))) == false) && ((!decide ((y12.1.Samples.length : Int) = 0)) == true)) && ((!decide ((y12.1.Samples.length : Int) = (i64 ((want.length : Int) + 1)))) == false)) (api_Sample.mk 0 0 0) (idx y12.1.Samples (i64 ((y12.1.Samples.length : Int) - 1)))).bind fun x6 =>
  if (((!decide (y12.2 = 0)) || ((decide ((without.length : Int) = 0)) && (!decide ((y12.1.Samples.length : Int) = (i64 ((want.length : Int) + 1)))))) || ((!decide ((y12.1.Samples.length : Int) = 0)) && ((!decide ((y12.1.Samples.length : Int) = (i64 ((want.length : Int) + 1)))) || (!decide (x6.Mark = 0))))) = true then
  some false
  else
  ((loop (t1 (Zz c_ given without y6 want y12)) 0) : Option ((Bool) ⊕ (Unit))).bind (Sum.elim (fun q' => some q') (t0 (some true)))))
noncomputable def Zdk (f : Vector Int 64) : Option Int :=
  (ZI f 1).bind fun x =>
  (rem (i64 x) 2048).bind fun q =>
  (ZI f 2).bind fun x2 =>
  (rem (i64 x2) 2048).bind fun q2 =>
  some (i64 (q + (i64 (q2 * 2048))))

noncomputable def Ze3 (n2 : Int) (ones2 : Int) : Option ((Int × Int) ⊕ (Int)) :=
  if (decide (0 < n2)) = true then
  (rem n2 2).bind fun q =>
  (quo .i64 n2 2).bind fun q2 =>
  some (.inl (q2, (i64 (ones2 + q))))
  else
  some (.inr ones2)

noncomputable def Zex (n : Int) : Option Bool :=
  ((loop (t2 (Ze3)) (n, 0)) : Option ((Int))).bind (t1 fun (ones : Int) =>
  (rem ones 2).bind fun q3 =>
  some (decide (q3 = 1)))

noncomputable def Zdd (f : Vector Int 64) (x2 : Int) (i : Int) : Option ((Int × Int) ⊕ (Int)) :=
  if (decide (i ≤ 60)) = true then
  (ZI f i).bind fun x3 =>
  (rem (i64 x3) 2048).bind fun q =>
  some (.inl ((ZhK .i64 x2 q), (i64 (i + 1))))
  else
  some (.inr x2)

noncomputable def Zki (f : Vector Int 64) : Option Int :=
  ((loop (t2 (Zdd f)) (0, 1)) : Option ((Int))).bind (t1 fun (x : Int) =>
  some x)

noncomputable def ZdQ (w : Int) : Option Bool :=
  (gd ((decide (w ≤ 4095)) == true) false (Zex (i64 w))).bind fun y =>
  some ((decide (w ≤ 4095)) && y)

noncomputable def Zhj (f : Vector Int 64) : Option (Int × Bool) :=
  (ZI f 1).bind fun x =>
  (ZdQ x).bind fun y =>
  (gd ((!y) == false) 0 (ZI f 2)).bind fun x2 =>
  (gd ((!y) == false) false (ZdQ x2)).bind fun y2 =>
  if ((!y) || (!y2)) = true then
  some (0, false)
  else
  (Zdk f).bind fun y3 =>
  some (y3, true)
end Go.Vx
